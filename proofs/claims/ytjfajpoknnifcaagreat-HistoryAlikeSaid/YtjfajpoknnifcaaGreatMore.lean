/- More rules: restating, loops round by round, and further operations. No condition. -/
import Derived.Test.YtjfajpoknnifcaaGreatMap
import Derived.Laws.Bits64
import Derived.Laws.BitsAllLaws
namespace Go.Proofs.YtjfajpoknnifcaaGreat
open Go

section
variable {P : Program} {E : World} {n : Nat} {D : List Deferred} {φ : Fr} {Ps Qs : List HP} {G : Act → World → Prop} {ops : Array Oper} {bar : Nat → Bool} {CS : Nat → List HP} {f s : Nat} {listed : Array Bool} {d : Nat} {u v : Value}
/-! ### The same, said otherwise -/
theorem dn_norm (h : Ps = Qs) (k : Dn E n D G φ Qs) : Dn E n D G φ Ps := h ▸ k
theorem dn_normv (hv : v = u) (h : Ps = Qs) (k : Dn E n D G ((d, u) :: φ) Qs) : Dn E n D G ((d, v) :: φ) Ps := by subst hv; exact h ▸ k
theorem ds_norm (h : Ps = Qs) (k : Ds P E n D ops bar CS G f s listed φ Qs) : Ds P E n D ops bar CS G f s listed φ Ps := h ▸ k
theorem ds_normv (hv : v = u) (h : Ps = Qs) (k : Ds P E n D ops bar CS G f s listed ((d, u) :: φ) Qs) : Ds P E n D ops bar CS G f s listed ((d, v) :: φ) Ps := by subst hv; exact h ▸ k

/-! ### A loop, round by round -/
/-- What a round's begin owes. -/
def LoopW (P : Program) (c : Code) (Q : Exit → Act → World → Prop) (a : Act) (w : World) : Prop :=
  ∀ (b : Frame) (k : List Item) (cs : List Frame), ∃ e a' w', Q e a' w' ∧ Arrives P (lone (b.at a (.code c :: .inLoop c :: k)) cs w) b k cs e a' w'
theorem loopW_round {c : Code} {Q : Exit → Act → World → Prop} {a : Act} {w : World} (h : c.wp P (Exit.then (LoopW P c Q) Q) a w) : LoopW P c Q a w := fun b k cs => by
  obtain ⟨e, a₁, w₁, hq, harr⟩ := h b (.inLoop c :: k) cs
  cases e with
  | normal =>
    obtain ⟨e₂, a₂, w₂, hq₂, harr₂⟩ := hq b k cs
    exact ⟨e₂, a₂, w₂, hq₂, .of_steps (Steps.trans harr (.one step_inLoop)) harr₂⟩
  | exit id => exact ⟨_, a₁, w₁, hq, .pass (x := .inLoop c) rfl (fun _ _ => .inl (by simp)) harr⟩
  | goto l => exact ⟨_, a₁, w₁, hq, .pass (x := .inLoop c) rfl (fun _ _ => .inl (by simp)) harr⟩
  | ret => exact ⟨_, a₁, w₁, hq, .pass (x := .inLoop c) rfl (fun _ _ => .inl (by simp)) harr⟩
  | panic ch => exact ⟨_, a₁, w₁, hq, .pass (x := .inLoop c) rfl (fun _ _ => .inl (by simp)) harr⟩
  | outgrown => exact ⟨_, a₁, w₁, hq, .pass (x := .inLoop c) rfl (fun _ _ => .inl (by simp)) harr⟩
variable {Q : Exit → Act → World → Prop}
theorem dn_loop0 {c : Code} (h : Dn E n D (LoopW P c Q) φ Ps) : Dn E n D ((Code.loop c).wp P Q) φ Ps := fun a w st b k cs => by
  obtain ⟨e, a', w', hq, harr⟩ := h a w st b k cs
  exact ⟨e, a', w', hq, .of_steps (.one step_loop) harr⟩
theorem dn_round {c : Code} (h : Dn E n D (c.wp P (Exit.then (LoopW P c Q) Q)) φ Ps) : Dn E n D (LoopW P c Q) φ Ps := fun a w st => loopW_round (h a w st)

/-! ### Whole numbers -/
theorem w_i64 {z : Int} (h : -9223372036854775808 ≤ z) (h' : z ≤ 9223372036854775807) : IntKind.i64.wrap z = z := by rw [IntKind.wrap_i64]; omega
theorem w_u64 {z : Int} (h : 0 ≤ z) (h' : z ≤ 18446744073709551615) : IntKind.u64.wrap z = z := by rw [IntKind.wrap_u64]; omega
theorem w_u32 {z : Int} (h : 0 ≤ z) (h' : z ≤ 4294967295) : IntKind.u32.wrap z = z := by rw [IntKind.wrap_u32']; omega
theorem w_u8 {z : Int} (h : 0 ≤ z) (h' : z ≤ 255) : IntKind.u8.wrap z = z := by rw [IntKind.wrap_u8']; omega
theorem w_u16 {z : Int} (h : 0 ≤ z) (h' : z ≤ 65535) : IntKind.u16.wrap z = z := by
  have : IntKind.u16.wrap z = z % 65536 := by simp [IntKind.wrap, IntKind.bits, IntKind.signed]
  rw [this]; omega
theorem wa_i64 {x z : Int} (e : x = z) (h : -9223372036854775808 ≤ z) (h' : z ≤ 9223372036854775807) : IntKind.i64.wrap x = z := by rw [e]; exact w_i64 h h'
theorem wa_u64 {x z : Int} (e : x = z) (h : 0 ≤ z) (h' : z ≤ 18446744073709551615) : IntKind.u64.wrap x = z := by rw [e]; exact w_u64 h h'
theorem wa_u32 {x z : Int} (e : x = z) (h : 0 ≤ z) (h' : z ≤ 4294967295) : IntKind.u32.wrap x = z := by rw [e]; exact w_u32 h h'
theorem wa_u16 {x z : Int} (e : x = z) (h : 0 ≤ z) (h' : z ≤ 65535) : IntKind.u16.wrap x = z := by rw [e]; exact w_u16 h h'
theorem wa_u8 {x z : Int} (e : x = z) (h : 0 ≤ z) (h' : z ≤ 255) : IntKind.u8.wrap x = z := by rw [e]; exact w_u8 h h'
end

section
variable {P : Program} {E : World} {n : Nat} {D : List Deferred} {φ : Fr} {Ps Qs : List HP} {d : Nat} {v : Value}
variable {dst : Option Tmp} {ty : TypeId} {pos : String} {aft : Array Edge} {g : Option (Nat × Bool)} {Cs : List HP} {x y : Operand} {t t' : TypeId}

/-! ### Two operands of any kind -/
theorem op_binv {op : BinOp} {u1 u2 : Value} (hx : ev φ x = some u1) (hy : ev φ y = some u2) (hg : ∀ w, (eqGuard op t x y u1 u2).run P w = .ok () w) (hr : ∀ w, (binOp op t u1 u2).run P w = .ok v w) :
    OpR P ⟨dst, .binOp op t x y t', ty, pos, aft, g⟩ φ Cs v := fun a w s H => by
  simp only [execOp, s.ev hx, s.ev hy]
  simp [hg w, hr w]
def cmpB (op : BinOp) (i j : Int) : Option Bool := match op with
  | .eql => some (decide (i = j)) | .neq => some (!decide (i = j)) | .lss => some (decide (i < j)) | .leq => some (decide (i ≤ j)) | .gtr => some (decide (j < i)) | .geq => some (decide (j ≤ i)) | _ => none
theorem op_cmpc {op : BinOp} {k : IntKind} {i j : Int} {b : Bool} (hx : ev φ x = some (.int k i)) (hy : ev φ y = some (.int k j)) (h : cmpB op i j = some b) : OpR P ⟨dst, .binOp op t x y t', ty, pos, aft, g⟩ φ Cs (.bool b) := by
  cases op <;> simp only [cmpB, Option.some.injEq, reduceCtorEq] at h <;> subst h
  · exact op_eql hx hy
  · have := op_neq (P := P) (t := t) (t' := t') (dst := dst) (ty := ty) (pos := pos) (aft := aft) (g := g) (Cs := Cs) hx hy
    rwa [← decide_not]
  · exact op_lss hx hy
  · exact op_leq hx hy
  · exact op_gtr hx hy
  · exact op_geq hx hy
theorem op_shl {k k' : IntKind} {i j z : Int} (hx : ev φ x = some (.int k i)) (hy : ev φ y = some (.int k' j)) (hj : 0 ≤ j) (hz : k.wrap (i * 2 ^ (min j.toNat k.bits)) = z) : OpR P ⟨dst, .binOp .shl t x y t', ty, pos, aft, g⟩ φ Cs (.int k z) :=
  op_binv hx hy (fun _ => rfl) fun w => by
    have : ¬ j < 0 := by omega
    simp [binOp, Op.shift, this, hz]
theorem op_shr {k k' : IntKind} {i j z : Int} (hx : ev φ x = some (.int k i)) (hy : ev φ y = some (.int k' j)) (hj : 0 ≤ j) (hz : i.fdiv (2 ^ (min j.toNat k.bits)) = z) : OpR P ⟨dst, .binOp .shr t x y t', ty, pos, aft, g⟩ φ Cs (.int k z) :=
  op_binv hx hy (fun _ => rfl) fun w => by
    have : ¬ j < 0 := by omega
    simp [binOp, Op.shift, this, hz]
theorem op_quo {k : IntKind} {i j z : Int} (hx : ev φ x = some (.int k i)) (hy : ev φ y = some (.int k j)) (hj : j ≠ 0) (hz : k.wrap (i.tdiv j) = z) : OpR P ⟨dst, .binOp .quo t x y t', ty, pos, aft, g⟩ φ Cs (.int k z) :=
  op_binv hx hy (fun _ => rfl) fun w => by simp [binOp, Op.intDiv, hj, hz]
theorem op_rem {k : IntKind} {i j z : Int} (hx : ev φ x = some (.int k i)) (hy : ev φ y = some (.int k j)) (hj : j ≠ 0) (hz : i.tmod j = z) : OpR P ⟨dst, .binOp .rem t x y t', ty, pos, aft, g⟩ φ Cs (.int k z) :=
  op_binv hx hy (fun _ => rfl) fun w => by simp [binOp, Op.intDiv, hj, hz]
/-- Bit by bit. -/
def bitsB (op : BinOp) (k : IntKind) (i j : Int) : Option Int := match op with
  | .and => some (k.wrap (BitVec.ofInt k.bits i &&& BitVec.ofInt k.bits j).toNat)
  | .or => some (k.wrap (BitVec.ofInt k.bits i ||| BitVec.ofInt k.bits j).toNat)
  | .xor => some (k.wrap (BitVec.ofInt k.bits i ^^^ BitVec.ofInt k.bits j).toNat)
  | .andNot => some (k.wrap (BitVec.ofInt k.bits i &&& ~~~ BitVec.ofInt k.bits j).toNat)
  | _ => none
theorem op_bits {op : BinOp} {k : IntKind} {i j z : Int} (hx : ev φ x = some (.int k i)) (hy : ev φ y = some (.int k j)) (hz : bitsB op k i j = some z) : OpR P ⟨dst, .binOp op t x y t', ty, pos, aft, g⟩ φ Cs (.int k z) := by
  cases op <;> simp only [bitsB, Option.some.injEq, reduceCtorEq] at hz <;> subst hz <;> exact op_bin hx hy fun w => by simp [binOp, Op.intBits]
theorem op_min {k : IntKind} {i j z : Int} {ts : Array TypeId} (hx : ev φ x = some (.int k i)) (hy : ev φ y = some (.int k j)) (hz : (if j < i then j else i) = z) : OpR P ⟨dst, .call ⟨.builtin .min, #[x, y], ts⟩, ty, pos, aft, g⟩ φ Cs (.int k z) := fun a w s H => by
  show ((do let d ← resolve a.eval ⟨.builtin .min, #[x, y], ts⟩ ty; invoke d.target d.args) : Sem Next).run P w = _
  simp [resolve, invoke, builtin, Builtin.min_, Builtin.min2, s.ev hx, s.ev hy, hz]
theorem op_max {k : IntKind} {i j z : Int} {ts : Array TypeId} (hx : ev φ x = some (.int k i)) (hy : ev φ y = some (.int k j)) (hz : (if i < j then j else i) = z) : OpR P ⟨dst, .call ⟨.builtin .max, #[x, y], ts⟩, ty, pos, aft, g⟩ φ Cs (.int k z) := fun a w s H => by
  show ((do let d ← resolve a.eval ⟨.builtin .max, #[x, y], ts⟩ ty; invoke d.target d.args) : Sem Next).run P w = _
  simp [resolve, invoke, builtin, Builtin.max_, Builtin.max2, s.ev hx, s.ev hy, hz]

/-! ### Pointers, and no pointers -/
def ptrB (P : Program) (t : TypeId) : Bool := match P.underlying t with | some (.pointer _) => true | _ => false
theorem ptr_eq (h : ptrB P t = true) (w : World) : (∀ b, (Op.equal t (.pointer none) (.pointer b)).run P w = .ok b.isNone w) ∧ ∀ b, (Op.equal t (.pointer b) (.pointer none)).run P w = .ok b.isNone w := by
  unfold ptrB at h
  split at h
  · rename_i e hu
    have := run_underlying hu w
    constructor
    · intro b; unfold Op.equal Op.maxDepth Op.equalIn; simp [this]
    · intro b
      unfold Op.equal Op.maxDepth Op.equalIn
      cases b <;> simp [this]
  · cases h
theorem op_ptreql {ad : Option Addr} {b : Bool} (hx : ev φ x = some (.pointer ad)) (hy : ev φ y = some (.pointer none)) (h : ptrB P t = true) (hb : ad.isNone = b) : OpR P ⟨dst, .binOp .eql t x y t', ty, pos, aft, g⟩ φ Cs (.bool b) :=
  op_binv hx hy (fun _ => rfl) fun w => by have := (ptr_eq h w).2 ad; simp [binOp, this, hb]
theorem op_ptrneq {ad : Option Addr} {b : Bool} (hx : ev φ x = some (.pointer ad)) (hy : ev φ y = some (.pointer none)) (h : ptrB P t = true) (hb : (!ad.isNone) = b) : OpR P ⟨dst, .binOp .neq t x y t', ty, pos, aft, g⟩ φ Cs (.bool b) :=
  op_binv hx hy (fun _ => rfl) fun w => by have := (ptr_eq h w).2 ad; simp [binOp, this] at hb ⊢; exact hb
theorem op_ptreqlR {ad : Option Addr} {b : Bool} (hx : ev φ x = some (.pointer none)) (hy : ev φ y = some (.pointer ad)) (h : ptrB P t = true) (hb : ad.isNone = b) : OpR P ⟨dst, .binOp .eql t x y t', ty, pos, aft, g⟩ φ Cs (.bool b) :=
  op_binv hx hy (fun _ => rfl) fun w => by have := (ptr_eq h w).1 ad; simp [binOp, this, hb]
theorem op_ptrneqR {ad : Option Addr} {b : Bool} (hx : ev φ x = some (.pointer none)) (hy : ev φ y = some (.pointer ad)) (h : ptrB P t = true) (hb : (!ad.isNone) = b) : OpR P ⟨dst, .binOp .neq t x y t', ty, pos, aft, g⟩ φ Cs (.bool b) :=
  op_binv hx hy (fun _ => rfl) fun w => by have := (ptr_eq h w).1 ad; simp [binOp, this] at hb ⊢; exact hb

/-! ### Parts of slices -/
def evI (φ : Fr) : Option Operand → Option (Option Int)
  | none => some none
  | some x => match ev φ x with | some (.int _ i) => some (some i) | _ => none
theorem evI_int {a : Act} (s : Agrees φ a.tmps) {o : Option Operand} {i : Option Int} (h : evI φ o = some i) : (o = none ∧ i = none) ∨ ∃ x k j, o = some x ∧ i = some j ∧ a.eval x = .int k j := by
  cases o with
  | none => simp [evI] at h; exact .inl ⟨rfl, h.symm⟩
  | some x =>
    simp only [evI] at h
    cases e : ev φ x with
    | none => rw [e] at h; cases h
    | some v =>
      rw [e] at h
      cases v <;> simp at h
      rename_i k j
      subst h
      exact .inr ⟨x, k, j, rfl, rfl, s.ev e⟩
theorem run_bound (w : World) {k : IntKind} {i : Int} {m y : Nat} (hi : i = (m : Int)) (hm : m ≤ y) (c : BoundsCode) : (Instr.sliceBound (.int k i) y c).run P w = .ok m w := by
  subst hi
  simp [Instr.sliceBound, asIntOf, hm]
theorem op_slice {e : TypeId} {sz : Nat} {a a' : Option Addr} {len cap l h m n' c' : Nat} {lo hi mx : Option Operand} {l? h? m? : Option Int} (hx : ev φ x = some (.slice a len cap)) (hl : evI φ lo = some l?) (hh : evI φ hi = some h?) (hm : evI φ mx = some m?)
    (ht : elemB P t = some e) (hs : sizeB P e = some sz) (el : l?.getD 0 = (l : Int)) (eh : h?.getD len = (h : Int)) (em : m?.getD cap = (m : Int)) (hmx : m? = none ∨ h?.isSome = true) (h1 : l ≤ h) (h2 : h ≤ m) (h3 : m ≤ cap)
    (ha : (if m = l then a else a.map (·.add (l * sz))) = a') (hn : h - l = n') (hc : m - l = c') : OpR P ⟨dst, .slice t x lo hi mx, ty, pos, aft, g⟩ φ Cs (.slice a' n' c') := fun ac w s H => by
  have hu := run_underlying (und_elem ht) w
  have hz := run_sizeOf (P := P) w hs
  have q : (Instr.sliceBounds true len cap (lo.map ac.eval) (hi.map ac.eval) (mx.map ac.eval)).run P w = .ok (l, h, m) w := by
    have rb : ∀ {k : IntKind} {i : Int} {m y : Nat} (c : BoundsCode), i = (m : Int) → m ≤ y → (Instr.sliceBound (.int k i) y c).run P w = .ok m w := fun c e q => run_bound w e q c
    rcases evI_int s hm with ⟨rfl, rfl⟩ | ⟨xm, km, jm, rfl, rfl, e2⟩
    · have em' : m = cap := by simp at em; omega
      subst em'
      rcases evI_int s hh with ⟨rfl, rfl⟩ | ⟨xh, kh, jh, rfl, rfl, e3⟩
      · have eh' : h = len := by simp at eh; omega
        subst eh'
        rcases evI_int s hl with ⟨rfl, rfl⟩ | ⟨xl, kl, jl, rfl, rfl, e1⟩
        · have el' : l = 0 := by simp at el; omega
          subst el'; rfl
        · have el' : jl = (l : Int) := el
          simp [Instr.sliceBounds, e1, rb _ el' h1]
      · have eh' : jh = (h : Int) := eh
        rcases evI_int s hl with ⟨rfl, rfl⟩ | ⟨xl, kl, jl, rfl, rfl, e1⟩
        · have el' : l = 0 := by simp at el; omega
          subst el'
          simp [Instr.sliceBounds, e3, rb _ eh' h2]
        · have el' : jl = (l : Int) := el
          simp [Instr.sliceBounds, e1, e3, rb _ eh' h2, rb _ el' h1]
    · have em' : jm = (m : Int) := em
      rcases evI_int s hh with ⟨rfl, rfl⟩ | ⟨xh, kh, jh, rfl, rfl, e3⟩
      · simp at hmx
      · have eh' : jh = (h : Int) := eh
        rcases evI_int s hl with ⟨rfl, rfl⟩ | ⟨xl, kl, jl, rfl, rfl, e1⟩
        · have el' : l = 0 := by simp at el; omega
          subst el'
          simp [Instr.sliceBounds, e2, e3, rb _ em' h3, rb _ eh' h2]
        · have el' : jl = (l : Int) := el
          simp [Instr.sliceBounds, e1, e2, e3, rb _ em' h3, rb _ eh' h2, rb _ el' h1]
  simp only [execOp, s.ev hx]
  subst ha
  subst hn
  subst hc
  simp [Instr.sliceAt, Instr.slice, hu, hz, q]
theorem sliceA0 {a : Option Addr} {m sz : Nat} : (if m = 0 then a else a.map (·.add (0 * sz))) = a := by
  split
  · rfl
  · cases a <;> simp [Addr.add]
end
end Go.Proofs.YtjfajpoknnifcaaGreat
