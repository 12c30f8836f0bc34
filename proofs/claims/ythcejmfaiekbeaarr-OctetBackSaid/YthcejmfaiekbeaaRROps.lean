/- Steps of a call: one lemma for each kind of operation. Plain lemmas; no program in sight. -/
import Derived.Test.YthcejmfaiekbeaaRREng
set_option linter.unusedVariables false
set_option linter.unusedSimpArgs false
namespace Go.Toll
open Go.RowKit
section
variable {P : Program} {w0 : World} {n : Nat} {ty : TypeId} {ρ : Env} {Γ : List HP}

/-- An operation that looks at no memory. -/
theorem ow_pure {op : Op} {v : Value} (h : ∀ (a : Act) (o : Oper) (w : World), Fr n a ρ → o.op = op → o.type = ty → (execOp a.eval o).run P w = .ok (.value v) w) : Ow P w0 n op ty ρ Γ (Det w0 v Γ) := by
  intro a w hF hS dst pos af g K Q hK
  unfold Oper.wp
  rw [h a _ w hF rfl rfl, Oper.upon_value]
  exact hK v w ⟨rfl, hS⟩
/-- The same, of the world as it stands. -/
theorem ow_read {op : Op} {v : Value} (h : ∀ (a : Act) (o : Oper) (w : World), Fr n a ρ → Sat w0 Γ w → o.op = op → o.type = ty → (execOp a.eval o).run P w = .ok (.value v) w) : Ow P w0 n op ty ρ Γ (Det w0 v Γ) := by
  intro a w hF hS dst pos af g K Q hK
  unfold Oper.wp
  rw [h a _ w hF hS rfl rfl, Oper.upon_value]
  exact hK v w ⟨rfl, hS⟩
theorem ow_write {op : Op} {Γ' : List HP} (h : ∀ (a : Act) (o : Oper) (w : World), Fr n a ρ → Sat w0 Γ w → o.op = op → o.type = ty → ∃ w', (execOp a.eval o).run P w = .ok .skip w' ∧ Sat w0 Γ' w') : Ow P w0 n op ty ρ Γ (Det w0 undef Γ') := by
  intro a w hF hS dst pos af g K Q hK
  obtain ⟨w', h1, h2⟩ := h a ⟨dst, op, ty, pos, af, g⟩ w hF hS rfl rfl
  unfold Oper.wp
  rw [h1, Oper.upon_skip]
  exact hK undef w' ⟨rfl, h2⟩

theorem ow_move {x : Operand} {v : Value} (hx : ev ρ x = some v) : Ow P w0 n (.move x) ty ρ Γ (Det w0 v Γ) :=
  ow_pure fun a o w hF ho ht => by simp [execOp, ho, hF.evl hx]
theorem ow_assign {x : Operand} {v : Value} (hx : ev ρ x = some v) : Ow P w0 n (.assign x) ty ρ Γ (Det w0 v Γ) :=
  ow_pure fun a o w hF ho ht => by simp [execOp, ho, hF.evl hx]
theorem ow_pick {c x y : Operand} {b : Bool} {u v r : Value} (hc : ev ρ c = some (.bool b)) (hx : b = true → ev ρ x = some u) (hy : b = false → ev ρ y = some v) (hr : (if b = true then u else v) = r) : Ow P w0 n (.pick c x y) ty ρ Γ (Det w0 r Γ) :=
  ow_pure fun a o w hF ho ht => by
    subst hr
    cases b with
    | true => simp [execOp, ho, hF.evl hc, hF.evl (hx rfl), asBool]
    | false => simp [execOp, ho, hF.evl hc, hF.evl (hy rfl), asBool]
/-- 'a && b', the pick: both sides known. -/
theorem ow_and {c x : Operand} {b d : Bool} (hc : ev ρ c = some (.bool b)) (hx : ev ρ x = some (.bool d)) : Ow P w0 n (.pick c x (.const (.bool false))) ty ρ Γ (Det w0 (.bool (b && d)) Γ) :=
  ow_pick hc (fun _ => hx) (fun _ => rfl) (by cases b <;> rfl)
theorem ow_and_false {c x : Operand} {b : Bool} (hc : ev ρ c = some (.bool b)) (hb : b = false) : Ow P w0 n (.pick c x (.const (.bool false))) ty ρ Γ (Det w0 (.bool false) Γ) :=
  ow_pick (u := .bool false) hc (fun h => by rw [hb] at h; cases h) (fun _ => rfl) (by rw [hb]; rfl)
theorem ow_or {c x : Operand} {b d : Bool} (hc : ev ρ c = some (.bool b)) (hx : ev ρ x = some (.bool d)) : Ow P w0 n (.pick c (.const (.bool true)) x) ty ρ Γ (Det w0 (.bool (b || d)) Γ) :=
  ow_pick hc (fun _ => rfl) (fun _ => hx) (by cases b <;> rfl)

/-! ### Numbers -/
section
variable {t t2 : TypeId} {x y : Operand} {k k' : IntKind} {a b r : Int}
theorem binOp_plain (op : BinOp) (h : op ≠ .eql ∧ op ≠ .neq) (x y : Operand) (u v : Value) (w : World) : (eqGuard op t x y u v).run P w = .ok () w := by
  cases op <;> simp_all [eqGuard]
theorem eqGuard_int (op : BinOp) (x y : Operand) (k k' : IntKind) (a b : Int) (w : World) : (eqGuard op t x y (.int k a) (.int k' b)).run P w = .ok () w := by
  cases op <;> simp [eqGuard]
theorem ow_add (hx : ev ρ x = some (.int k a)) (hy : ev ρ y = some (.int k b)) (hr : k.wrap (a + b) = r) : Ow P w0 n (.binOp .add t x y t2) ty ρ Γ (Det w0 (.int k r) Γ) :=
  ow_pure fun A o w hF ho ht => by subst hr; simp [execOp, ho, hF.evl hx, hF.evl hy, eqGuard_int, binOp, Op.intArith]
theorem ow_sub (hx : ev ρ x = some (.int k a)) (hy : ev ρ y = some (.int k b)) (hr : k.wrap (a - b) = r) : Ow P w0 n (.binOp .sub t x y t2) ty ρ Γ (Det w0 (.int k r) Γ) :=
  ow_pure fun A o w hF ho ht => by subst hr; simp [execOp, ho, hF.evl hx, hF.evl hy, eqGuard_int, binOp, Op.intArith]
theorem ow_mul (hx : ev ρ x = some (.int k a)) (hy : ev ρ y = some (.int k b)) (hr : k.wrap (a * b) = r) : Ow P w0 n (.binOp .mul t x y t2) ty ρ Γ (Det w0 (.int k r) Γ) :=
  ow_pure fun A o w hF ho ht => by subst hr; simp [execOp, ho, hF.evl hx, hF.evl hy, eqGuard_int, binOp, Op.intArith]
theorem ow_quo (hx : ev ρ x = some (.int k a)) (hy : ev ρ y = some (.int k b)) (hb : b ≠ 0) (hr : k.wrap (a.tdiv b) = r) : Ow P w0 n (.binOp .quo t x y t2) ty ρ Γ (Det w0 (.int k r) Γ) :=
  ow_pure fun A o w hF ho ht => by subst hr; simp [execOp, ho, hF.evl hx, hF.evl hy, eqGuard_int, binOp, Op.intDiv, hb]
theorem ow_rem (hx : ev ρ x = some (.int k a)) (hy : ev ρ y = some (.int k b)) (hb : b ≠ 0) (hr : a.tmod b = r) : Ow P w0 n (.binOp .rem t x y t2) ty ρ Γ (Det w0 (.int k r) Γ) :=
  ow_pure fun A o w hF ho ht => by subst hr; simp [execOp, ho, hF.evl hx, hF.evl hy, eqGuard_int, binOp, Op.intDiv, hb]
theorem ow_bits {op : BinOp} (hop : op = .and ∨ op = .or ∨ op = .xor ∨ op = .andNot) (hx : ev ρ x = some (.int k a)) (hy : ev ρ y = some (.int k b)) (hr : bits op k a b = r) : Ow P w0 n (.binOp op t x y t2) ty ρ Γ (Det w0 (.int k r) Γ) :=
  ow_pure fun A o w hF ho ht => by
    subst hr
    rcases hop with rfl | rfl | rfl | rfl <;> simp [execOp, ho, hF.evl hx, hF.evl hy, eqGuard_int, binOp, intBits_and, intBits_or, intBits_xor, intBits_andNot]
theorem ow_shl (hx : ev ρ x = some (.int k a)) (hy : ev ρ y = some (.int k' b)) (h0 : 0 ≤ b) (hr : k.wrap (a * 2 ^ min b.toNat k.bits) = r) : Ow P w0 n (.binOp .shl t x y t2) ty ρ Γ (Det w0 (.int k r) Γ) :=
  ow_pure fun A o w hF ho ht => by
    subst hr
    have h1 : ¬ b < 0 := by omega
    simp [execOp, ho, hF.evl hx, hF.evl hy, eqGuard_int, binOp, Op.shift, h1]
theorem ow_shr (hx : ev ρ x = some (.int k a)) (hy : ev ρ y = some (.int k' b)) (h0 : 0 ≤ b) (hr : a.fdiv (2 ^ min b.toNat k.bits) = r) : Ow P w0 n (.binOp .shr t x y t2) ty ρ Γ (Det w0 (.int k r) Γ) :=
  ow_pure fun A o w hF ho ht => by
    subst hr
    have h1 : ¬ b < 0 := by omega
    simp [execOp, ho, hF.evl hx, hF.evl hy, eqGuard_int, binOp, Op.shift, h1]
/-- What a comparison of two whole numbers says. -/
def cmpI (op : BinOp) (a b : Int) : Bool :=
  match op with
  | .eql => decide (a = b) | .neq => !decide (a = b) | .lss => decide (a < b) | .leq => decide (a ≤ b) | .gtr => decide (b < a) | _ => decide (b ≤ a)
theorem ow_cmp {op : BinOp} {r : Bool} (hop : op = .eql ∨ op = .neq ∨ op = .lss ∨ op = .leq ∨ op = .gtr ∨ op = .geq) (hx : ev ρ x = some (.int k a)) (hy : ev ρ y = some (.int k b)) (hr : cmpI op a b = r) : Ow P w0 n (.binOp op t x y t2) ty ρ Γ (Det w0 (.bool r) Γ) :=
  ow_pure fun A o w hF ho ht => by
    subst hr
    rcases hop with rfl | rfl | rfl | rfl | rfl | rfl <;> simp [execOp, ho, hF.evl hx, hF.evl hy, eqGuard_int, binOp, Op.intCmp, cmpI]
    · rw [Bool.eq_iff_iff]; simp
    · rw [Bool.eq_iff_iff]; simp
theorem ow_eqI (hx : ev ρ x = some (.int k a)) (hy : ev ρ y = some (.int k b)) : Ow P w0 n (.binOp .eql t x y t2) ty ρ Γ (Det w0 (.bool (decide (a = b))) Γ) := ow_cmp (.inl rfl) hx hy rfl
theorem ow_neI (hx : ev ρ x = some (.int k a)) (hy : ev ρ y = some (.int k b)) : Ow P w0 n (.binOp .neq t x y t2) ty ρ Γ (Det w0 (.bool (!decide (a = b))) Γ) := ow_cmp (.inr (.inl rfl)) hx hy rfl
theorem ow_ltI (hx : ev ρ x = some (.int k a)) (hy : ev ρ y = some (.int k b)) : Ow P w0 n (.binOp .lss t x y t2) ty ρ Γ (Det w0 (.bool (decide (a < b))) Γ) := ow_cmp (.inr (.inr (.inl rfl))) hx hy rfl
theorem ow_leI (hx : ev ρ x = some (.int k a)) (hy : ev ρ y = some (.int k b)) : Ow P w0 n (.binOp .leq t x y t2) ty ρ Γ (Det w0 (.bool (decide (a ≤ b))) Γ) := ow_cmp (.inr (.inr (.inr (.inl rfl)))) hx hy rfl
theorem ow_gtI (hx : ev ρ x = some (.int k a)) (hy : ev ρ y = some (.int k b)) : Ow P w0 n (.binOp .gtr t x y t2) ty ρ Γ (Det w0 (.bool (decide (b < a))) Γ) := ow_cmp (.inr (.inr (.inr (.inr (.inl rfl))))) hx hy rfl
theorem ow_geI (hx : ev ρ x = some (.int k a)) (hy : ev ρ y = some (.int k b)) : Ow P w0 n (.binOp .geq t x y t2) ty ρ Γ (Det w0 (.bool (decide (b ≤ a))) Γ) := ow_cmp (.inr (.inr (.inr (.inr (.inr rfl))))) hx hy rfl
theorem ow_not {b : Bool} (hx : ev ρ x = some (.bool b)) : Ow P w0 n (.unOp .not t x) ty ρ Γ (Det w0 (.bool (!b)) Γ) :=
  ow_pure fun A o w hF ho ht => by simp [execOp, ho, hF.evl hx, Op.unary]
theorem ow_neg (hx : ev ρ x = some (.int k a)) (hr : k.wrap (-a) = r) : Ow P w0 n (.unOp .neg t x) ty ρ Γ (Det w0 (.int k r) Γ) :=
  ow_pure fun A o w hF ho ht => by subst hr; simp [execOp, ho, hF.evl hx, Op.unary, Op.intArith]
theorem ow_conv {s d : TypeId} {ds : TypeDesc} (hs : P.underlying s = some ds) (hd : P.underlying d = some (.int k')) (hx : ev ρ x = some (.int k a)) (hr : k'.wrap a = r) : Ow P w0 n (.convert s d x) ty ρ Γ (Det w0 (.int k' r) Γ) :=
  ow_pure fun A o w hF ho ht => by subst hr; simp [execOp, ho, hF.evl hx, convert, run_underlying hs, run_underlying hd, Conv.intToInt]
end

/-! ### Addresses -/
theorem ow_nilCheck {x : Operand} {a : Addr} (hx : ev ρ x = some (.pointer (some a))) : Ow P w0 n (.nilCheck x) ty ρ Γ (Det w0 (.pointer (some a)) Γ) :=
  ow_pure fun A o w hF ho ht => by simp [execOp, ho, hF.evl hx]
theorem ow_fieldAddr {s : TypeId} {x : Operand} {i : Nat} {fs : Array Field} {f : Field} {b o' : Nat} {z : Nat} {q : Nat} (hs : P.underlying s = some (.struct fs)) (hf : fs[i]? = some f) (hz : (P.info? f.type).map (·.size) = some (z + 1)) (hx : ev ρ x = some (.pointer (some ⟨b, o', none⟩))) (hq : o' + f.offset = q) :
    Ow P w0 n (.fieldAddr s x i) ty ρ Γ (Det w0 (.pointer (some ⟨b, q, none⟩)) Γ) :=
  ow_pure fun A o w hF ho ht => by
    subst hq
    cases hi : P.info? f.type with
    | none => simp [hi] at hz
    | some j =>
      have hj : j.size = z + 1 := by simpa [hi] using hz
      simp [execOp, ho, hF.evl hx, Instr.fieldAt, run_underlying hs, hf, Instr.sureAddr, fieldPlace, sizeOf, typeInfo, hi, hj, Addr.add_mid]
/-- The same, the field's place and type given. -/
theorem ow_field {s : TypeId} {x : Operand} {i : Nat} {fs : Array Field} {b o' : Nat} {z : Nat} {T : TypeId} (off : Nat) (hs : P.underlying s = some (.struct fs)) (hf : (fs[i]?).map (fun f => (f.offset, f.type)) = some (off, T)) (hz : (P.info? T).map (·.size) = some (z + 1)) (hx : ev ρ x = some (.pointer (some ⟨b, o', none⟩))) :
    Ow P w0 n (.fieldAddr s x i) ty ρ Γ (Det w0 (.pointer (some ⟨b, o' + off, none⟩)) Γ) := by
  cases hf' : fs[i]? with
  | none => simp [hf'] at hf
  | some f =>
    simp only [hf', Option.map_some, Option.some.injEq, Prod.mk.injEq] at hf
    obtain ⟨h1, h2⟩ := hf
    subst h1
    subst h2
    exact ow_fieldAddr hs hf' hz hx rfl
theorem ow_field0 {s : TypeId} {x : Operand} {i : Nat} {fs : Array Field} {b : Nat} {z : Nat} {T : TypeId} (off : Nat) (hs : P.underlying s = some (.struct fs)) (hf : (fs[i]?).map (fun f => (f.offset, f.type)) = some (off, T)) (hz : (P.info? T).map (·.size) = some (z + 1)) (hx : ev ρ x = some (.pointer (some ⟨b, 0, none⟩))) :
    Ow P w0 n (.fieldAddr s x i) ty ρ Γ (Det w0 (.pointer (some ⟨b, off, none⟩)) Γ) := by
  have := ow_field (P := P) (w0 := w0) (n := n) (ty := ty) (Γ := Γ) off hs hf hz hx
  rwa [Nat.zero_add] at this
theorem ow_indexAddr_arr {t : TypeId} {x i : Operand} {len : Nat} {e : TypeId} {b o' sz : Nat} {k : IntKind} {j : Int} {q : Nat} (ht : P.underlying t = some (.array len e)) (hz : (P.info? e).map (·.size) = some sz) (hx : ev ρ x = some (.pointer (some ⟨b, o', none⟩))) (hi : ev ρ i = some (.int k j)) (hj : 0 ≤ j ∧ j < len) (hq : o' + j.toNat * sz = q) :
    Ow P w0 n (.indexAddr t x i) ty ρ Γ (Det w0 (.pointer (some ⟨b, q, none⟩)) Γ) :=
  ow_pure fun A o w hF ho hty => by
    subst hq
    cases hi' : P.info? e with
    | none => simp [hi'] at hz
    | some m =>
      have hm : m.size = sz := by simpa [hi'] using hz
      simp [execOp, ho, hF.evl hx, hF.evl hi, Instr.indexAt, asIntOf, run_underlying ht, Instr.sureAddr, sizeOf, typeInfo, hi', hm, hj, Addr.add_mid]
theorem ow_indexAddr_slice {t : TypeId} {x i : Operand} {e : TypeId} {sz : Nat} {ad : Addr} {len cap : Nat} {k : IntKind} {j : Int} {q : Addr} (ht : P.underlying t = some (.slice e)) (hz : (P.info? e).map (·.size) = some sz) (hx : ev ρ x = some (.slice (some ad) len cap)) (hi : ev ρ i = some (.int k j)) (hj : 0 ≤ j ∧ j < len) (hq : ad.add (j.toNat * sz) = q) :
    Ow P w0 n (.indexAddr t x i) ty ρ Γ (Det w0 (.pointer (some q)) Γ) :=
  ow_pure fun A o w hF ho hty => by
    subst hq
    cases hi' : P.info? e with
    | none => simp [hi'] at hz
    | some m =>
      have hm : m.size = sz := by simpa [hi'] using hz
      simp [execOp, ho, hF.evl hx, hF.evl hi, Instr.indexAt, asIntOf, run_underlying ht, Instr.sureAddr, sizeOf, typeInfo, hi', hm, hj]

/-! ### Memory -/
/-- Det of the pieces, and the others. -/
inductive Pick : List HP → HP → List HP → Prop
  | here {c : HP} {Γ : List HP} : Pick (c :: Γ) c Γ
  | there {c d : HP} {Γ Γ' : List HP} : Pick Γ c Γ' → Pick (d :: Γ) c (d :: Γ')
theorem Pick.perm {Γ Γ' : List HP} {c : HP} (h : Pick Γ c Γ') : Γ.Perm (c :: Γ') := by
  induction h with
  | here => exact .refl _
  | there _ ih => exact (ih.cons _).trans (.swap _ _ _)
theorem Pick.front {Γ Γ' : List HP} {c : HP} (h : Pick Γ c Γ') {w : World} (hS : Sat w0 Γ w) : Sat w0 (c :: Γ') w := hS.perm h.perm
/-- Det of the pieces is changed into another. -/
inductive Chg : List HP → HP → HP → List HP → Prop
  | here {c d : HP} {Γ : List HP} : Chg (c :: Γ) c d (d :: Γ)
  | there {c d e : HP} {Γ Γ' : List HP} : Chg Γ c d Γ' → Chg (e :: Γ) c d (e :: Γ')
theorem Chg.split {Γ Γ' : List HP} {c d : HP} (h : Chg Γ c d Γ') : ∃ Δ, Γ.Perm (c :: Δ) ∧ Γ'.Perm (d :: Δ) := by
  induction h with
  | @here c d Γ => exact ⟨Γ, .refl _, .refl _⟩
  | @there c d e Γ Γ' _ ih =>
    obtain ⟨Δ, h1, h2⟩ := ih
    exact ⟨e :: Δ, (h1.cons _).trans (.swap _ _ _), (h2.cons _).trans (.swap _ _ _)⟩

theorem ow_alloc {t : TypeId} {z : Value} (zs : List Value) (hz : (P.info? t).map (·.zero) = some (some z)) (hzs : z.cells.toList = zs) : Ow P w0 n (.alloc t) ty ρ Γ (Some_ w0 (fun _ => True) (fun b : Nat => .pointer (some ⟨b, 0, none⟩)) (fun b => blk b zs t :: Γ)) := by
  subst hzs
  intro a w hF hS dst pos af g K Q hK
  cases hi : P.info? t with
  | none => simp [hi] at hz
  | some i =>
    have hz' : i.zero = some z := by simpa [hi] using hz
    unfold Oper.wp
    simp [execOp, Instr.alloc, zeroValue, typeInfo, hi, hz', newVar, newRow, Oper.upon_value]
    exact hK _ _ ⟨w.heap.size, trivial, rfl, by simpa using hS.alloc (.cells z.cells t)⟩
theorem ow_box {t : TypeId} {x : Operand} {v : Value} (cs : List Value) (hx : ev ρ x = some v) (hc : v.cells.toList = cs) : Ow P w0 n (.box t x) ty ρ Γ (Some_ w0 (fun _ => True) (fun b : Nat => .pointer (some ⟨b, 0, none⟩)) (fun b => blk b cs t :: Γ)) := by
  subst hc
  intro a w hF hS dst pos af g K Q hK
  unfold Oper.wp
  simp [execOp, Instr.box, newVar, newRow, hF.evl hx, Oper.upon_value]
  exact hK _ _ ⟨w.heap.size, trivial, rfl, by simpa using hS.alloc (.cells v.cells t)⟩

/-- The function is there, has a body, and is no part of the runtime's own. -/
structure CallOk (P : Program) (f : FuncId) (fn : Func) : Prop where
  there : P.funcs[f]? = some fn
  body : fn.body.isNone = false
  plain : (fn.name == "runtime.NumGoroutine") = false
/-- A type whose values are one cell. -/
def Program.plainCell (P : Program) (t : TypeId) : Bool := match P.underlying t with | some (.struct _) | some (.array _ _) | none => false | _ => true
theorem run_isAgg_plain {t : TypeId} (h : Program.plainCell P t = true) (w : World) : (isAgg t).run P w = .ok false w := by
  unfold Program.plainCell at h
  unfold isAgg
  cases hu : P.underlying t with
  | none => simp [hu] at h
  | some d =>
    rw [Sem.run_bind, run_underlying hu w]
    cases d <;> simp_all
theorem run_loadVar_plain {t : TypeId} (h : Program.plainCell P t = true) {ad : Addr} {v : Value} {w : World} (hc : w.cell? ad = some v) : (loadVar t ad).run P w = .ok v w := by
  simp [loadVar, Sem.run_bind, run_isAgg_plain h w, hc]
theorem ow_load {t : TypeId} {x : Operand} {ad : Addr} {v : Value} (ht : Program.plainCell P t = true) (hx : ev ρ x = some (.pointer (some ad))) (hc : ∀ w, Sat w0 Γ w → w.cell? ad = some v) : Ow P w0 n (.load t x) ty ρ Γ (Det w0 v Γ) :=
  ow_read fun a o w hF hS ho hty => by simp [execOp, ho, hF.evl hx, Instr.loadAt, Instr.sureAddr, run_loadVar_plain ht (hc w hS)]
theorem ow_load_agg {t : TypeId} {x : Operand} {b o' : Nat} {d : TypeDesc} (cs : List Value) (hx : ev ρ x = some (.pointer (some ⟨b, o', none⟩))) (hc : ∀ w, Sat w0 Γ w → w.rangeAt b o' cs)
    (hu : P.underlying t = some d) (hd : d.isRow = true) (hi : (P.info? t).map (·.size) = some cs.length) : Ow P w0 n (.load t x) ty ρ Γ (Det w0 (.agg cs.toArray) Γ) :=
  ow_read fun a o w hF hS ho hty => by simp [execOp, ho, hF.evl hx, run_loadAt_mid w b o' t cs d (hc w hS) hu hd hi]
/-- A cell of a piece. -/
theorem cellOf {b : Nat} {cs : List Value} {T : TypeId} {fr : Nat × Nat} {Γ' : List HP} {off : Nat} {v : Value} (hp : Pick Γ (obj b (.cells cs.toArray T fr)) Γ') (hv : cs[off]? = some v) : ∀ w, Sat w0 Γ w → w.cell? ⟨b, off, none⟩ = some v :=
  fun w hS => by rw [(hp.front hS).cell, hv]
theorem rangeOf {b : Nat} {cs : List Value} {T : TypeId} {fr : Nat × Nat} {Γ' : List HP} (pre mid post : List Value) {off : Nat} (hp : Pick Γ (obj b (.cells cs.toArray T fr)) Γ') (hcs : cs = pre ++ (mid ++ post)) (ho : pre.length = off) : ∀ w, Sat w0 Γ w → w.rangeAt b off mid :=
  fun w hS => by subst hcs; subst ho; exact (hp.front hS).range
theorem wholeOf {b : Nat} {cs : List Value} {T : TypeId} {fr : Nat × Nat} {Γ' : List HP} (hp : Pick Γ (obj b (.cells cs.toArray T fr)) Γ') : ∀ w, Sat w0 Γ w → w.rangeAt b 0 cs := rangeOf [] cs [] hp (by simp) rfl
theorem oldCell {a : Addr} {v : Value} (h : w0.cell? a = some v) : ∀ w, Sat w0 Γ w → w.cell? a = some v := fun w hS => hS.oldcell h

theorem ow_store {t : TypeId} {x y : Operand} {b off : Nat} {v : Value} {cs : List Value} {T : TypeId} {Γ' : List HP} (ht : Program.plainCell P t = true) (hi : (P.info? t).map (·.size) = some 1) (hx : ev ρ x = some (.pointer (some ⟨b, off, none⟩))) (hy : ev ρ y = some v) (h1 : v.oneCell' = true)
    (hlt : off < cs.length) (hc : Chg Γ (blk b cs T) (blk b (cs.set off v) T) Γ') : Ow P w0 n (.store t x y) ty ρ Γ (Det w0 undef Γ') :=
  ow_write fun a o w hF hS ho hty => by
    obtain ⟨Δ, p1, p2⟩ := hc.split
    have hS1 := hS.perm p1
    refine ⟨w.setCell ⟨b, off, none⟩ v, ?_, (hS1.setCell off v).perm p2.symm⟩
    have hcell : w.cell? ⟨b, off, none⟩ = some cs[off] := by rw [hS1.cell, List.getElem?_eq_getElem hlt]
    have hfz := hS1.frozen off
    have hcs : v.cells = #[v] := by cases v <;> simp_all [Value.cells, Value.oneCell']
    cases hi' : P.info? t with
    | none => simp [hi'] at hi
    | some i =>
      have hsz : i.size = 1 := by simpa [hi'] using hi
      have hst : (store ⟨b, off, none⟩ v).run P w = stored P w ⟨b, off, none⟩ v .plain := run_store P w _ v .plain (by cases v <;> simp_all [Value.oneCell'])
      simp [execOp, ho, hF.evl hx, hF.evl hy, Instr.storeAt, Instr.sureAddr, storeVar, hcs, sizeOf, typeInfo, hi', hsz, storeCells, hst, stored, hcell, hfz, Addr.add]
theorem ow_store_agg {t : TypeId} {x y : Operand} {b off : Nat} {cs news : List Value} {T : TypeId} {Γ' : List HP} (pre mid post : List Value) (hx : ev ρ x = some (.pointer (some ⟨b, off, none⟩))) (hy : ev ρ y = some (.agg news.toArray)) (hi : (P.info? t).map (·.size) = some news.length) (h1 : ∀ v ∈ news, v.oneCell' = true)
    (hcs : cs = pre ++ (mid ++ post)) (ho : pre.length = off) (hl : news.length = mid.length) (hc : Chg Γ (blk b cs T) (blk b (pre ++ (news ++ post)) T) Γ') : Ow P w0 n (.store t x y) ty ρ Γ (Det w0 undef Γ') :=
  ow_write fun a o w hF hS hop hty => by
    subst hcs
    subst ho
    obtain ⟨Δ, p1, p2⟩ := hc.split
    have hS1 := hS.perm p1
    refine ⟨w.setCells b pre.length news, ?_, (hS1.setCells news mid pre post w hl).perm p2.symm⟩
    have ht := hS1.there pre.length news.length (by simp; omega)
    have := run_storeAt_mid (P := P) w b pre.length t news.toArray (by simpa using ht) (by simpa using hi) (all_oneCell_toArray h1)
    simp [execOp, hop, hF.evl hx, hF.evl hy, this]
end
end Go.Toll
