/- Records of calls, as cells; comparing their points. No condition. -/
import Derived.Test.YtjfajpoknnifcaaGreatSlice
namespace Go.Proofs.YtjfajpoknnifcaaGreat
open Go
theorem lay_all {l vs : List Value} (h : vs.length = l.length) : lay l 0 vs = vs := by simp [lay, h]
theorem take_all {l : List Value} {k : Nat} (h : l.length = k) : (l.drop 0).take k = l := by rw [← h]; simp
/-- A record: whose call it is, its times, and what it answered. -/
structure RecV where
  cl : Int
  ix : Int
  bg : Int
  pt : Int
  en : Int
  r0 : Value
  r1 : Value
  r2 : Value
  r3 : Value
  r4 : Value
  r5 : Value
  r6 : Value
  r7 : Value
  r8 : Value
  r9 : Value
  r10 : Value
  r11 : Value
  hone : ([r0, r1, r2, r3, r4, r5, r6, r7, r8, r9, r10, r11].all fun u => u.oneCell') = true
def encR (r : RecV) : List Value := [.int .i64 r.cl, .int .i64 r.ix, .int .i64 r.bg, .int .i64 r.pt, .int .i64 r.en, r.r0, r.r1, r.r2, r.r3, r.r4, r.r5, r.r6, r.r7, r.r8, r.r9, r.r10, r.r11]
theorem encR_len (r : RecV) : (encR r).length = 17 := rfl
theorem encR_one (r : RecV) : ((encR r).all fun u => u.oneCell') = true := r.hone
/-- Go's order of two numbers. -/
def cmpI (a b : Int) : Int := if a < b then -1 else if b < a then 1 else 0
theorem cmpI_neg {a b : Int} : cmpI a b < 0 ↔ a < b := by unfold cmpI; split <;> (try split) <;> omega
end Go.Proofs.YtjfajpoknnifcaaGreat
