/- Steps of a call, more: equality of pointers, bools and arrays of bytes; min, max; fields and elements of values; tuples; guards that are themselves passed over. Plain lemmas; no program in sight. -/
import Derived.Test.YthcejmfaiekbeaaRROps4
import Derived.Test.YthcejmfaiekbeaaRRBytes
import Derived.ChangeKeysEq
set_option linter.unusedVariables false
set_option linter.unusedSimpArgs false
namespace Go.Toll
open Go.RowKit
theorem run_eq_nil {t e : TypeId} {P : Program} {w : World} {a : Option Addr} (ht : P.underlying t = some (.pointer e)) : (Op.equal t (.pointer a) (.pointer none)).run P w = .ok a.isNone w := by
  unfold Op.equal Op.maxDepth
  rw [show 10000 = 9999 + 1 from rfl]
  generalize 9999 = d
  cases a <;> simp [Op.equalIn, run_underlying ht]
theorem run_eq_bool {t : TypeId} {P : Program} {w : World} {a b : Bool} (ht : P.underlying t = some .bool) : (Op.equal t (.bool a) (.bool b)).run P w = .ok (a == b) w := by
  unfold Op.equal Op.maxDepth
  rw [show 10000 = 9999 + 1 from rfl]
  generalize 9999 = d
  simp [Op.equalIn, run_underlying ht]
section
variable {P : Program} {w0 : World} {n : Nat} {ty : TypeId} {ρ : Env} {Γ : List HP} {t t2 : TypeId} {x y : Operand}
theorem ow_eq_nil {e : TypeId} {a : Option Addr} {r : Bool} (ht : P.underlying t = some (.pointer e)) (hx : ev ρ x = some (.pointer a)) (hy : ev ρ y = some (.pointer none)) (hr : a.isNone = r) : Ow P w0 n (.binOp .eql t x y t2) ty ρ Γ (Det w0 (.bool r) Γ) :=
  ow_pure fun A o w hF ho hty => by
    subst hr
    have h := run_eq_nil (w := w) (a := a) ht
    cases a <;> simp [execOp, ho, hF.evl hx, hF.evl hy, eqGuard, binOp, h]
theorem ow_ne_nil {e : TypeId} {a : Option Addr} {r : Bool} (ht : P.underlying t = some (.pointer e)) (hx : ev ρ x = some (.pointer a)) (hy : ev ρ y = some (.pointer none)) (hr : a.isSome = r) : Ow P w0 n (.binOp .neq t x y t2) ty ρ Γ (Det w0 (.bool r) Γ) :=
  ow_pure fun A o w hF ho hty => by
    subst hr
    have h := run_eq_nil (w := w) (a := a) ht
    cases a <;> simp [execOp, ho, hF.evl hx, hF.evl hy, eqGuard, binOp, h]
theorem ow_eq_bool {a b r : Bool} (ht : P.underlying t = some .bool) (hx : ev ρ x = some (.bool a)) (hy : ev ρ y = some (.bool b)) (hr : (a == b) = r) : Ow P w0 n (.binOp .eql t x y t2) ty ρ Γ (Det w0 (.bool r) Γ) :=
  ow_pure fun A o w hF ho hty => by
    subst hr
    have h := run_eq_bool (w := w) (a := a) (b := b) ht
    simp [execOp, ho, hF.evl hx, hF.evl hy, eqGuard, binOp, h]
theorem ow_ne_bool {a b r : Bool} (ht : P.underlying t = some .bool) (hx : ev ρ x = some (.bool a)) (hy : ev ρ y = some (.bool b)) (hr : (a != b) = r) : Ow P w0 n (.binOp .neq t x y t2) ty ρ Γ (Det w0 (.bool r) Γ) :=
  ow_pure fun A o w hF ho hty => by
    subst hr
    have h := run_eq_bool (w := w) (a := a) (b := b) ht
    simp [execOp, ho, hF.evl hx, hF.evl hy, eqGuard, binOp, h, bne]
theorem ow_max {k : IntKind} {a b r : Int} {ts : Array TypeId} (hx : ev ρ x = some (.int k a)) (hy : ev ρ y = some (.int k b)) (hr : (if b > a then b else a) = r) : Ow P w0 n (.call { callee := .builtin .max, args := #[x, y], argTypes := ts }) ty ρ Γ (Det w0 (.int k r) Γ) :=
  ow_read fun A o w hF hS ho hty => by
    subst hr
    simp [execOp, ho, resolve, invoke, builtin, Builtin.max_, Builtin.max2, hF.evl hx, hF.evl hy]
theorem ow_min {k : IntKind} {a b r : Int} {ts : Array TypeId} (hx : ev ρ x = some (.int k a)) (hy : ev ρ y = some (.int k b)) (hr : (if b < a then b else a) = r) : Ow P w0 n (.call { callee := .builtin .min, args := #[x, y], argTypes := ts }) ty ρ Γ (Det w0 (.int k r) Γ) :=
  ow_read fun A o w hF hS ho hty => by
    subst hr
    simp [execOp, ho, resolve, invoke, builtin, Builtin.min_, Builtin.min2, hF.evl hx, hF.evl hy]
theorem run_eqItems_bytes {e : TypeId} {w : World} (he : P.underlying e = some (.int .u8)) (a b : List UInt8) (hl : a.length = b.length) (d : Nat) : ∀ (m k : Nat), k + m = a.length →
    (Op.eqItems (d + 1) e 1 (B a).toArray (B b).toArray (List.range' k m)).run P w = .ok (decide (a.drop k = b.drop k)) w
  | 0, k, h => by
    rw [List.drop_eq_nil_of_le (by omega), List.drop_eq_nil_of_le (by omega)]
    simp [Op.eqItems]
  | m + 1, k, h => by
    have ih := run_eqItems_bytes (w := w) he a b hl d m (k + 1) (by omega)
    have ha : (B a)[k]? = some (.int .u8 (a[k].toNat : Int)) := by simp [B, List.getElem?_eq_getElem (show k < a.length by omega)]
    have hb : (B b)[k]? = some (.int .u8 (b[k].toNat : Int)) := by simp [B, List.getElem?_eq_getElem (show k < b.length by omega)]
    have pa : (part e (B a).toArray (k * 1)).run P w = .ok (.int .u8 (a[k].toNat : Int)) w := by
      simp [part, isAgg, run_underlying he, ha]
    have pb : (part e (B b).toArray (k * 1)).run P w = .ok (.int .u8 (b[k].toNat : Int)) w := by
      simp [part, isAgg, run_underlying he, hb]
    have pe : (Op.equalIn (d + 1) e (.int .u8 (a[k].toNat : Int)) (.int .u8 (b[k].toNat : Int))).run P w = .ok ((a[k].toNat : Int) == (b[k].toNat : Int)) w := by
      simp [Op.equalIn, run_underlying he]
    rw [List.range'_succ]
    simp only [Op.eqItems, Sem.run_bind, pa, pb, pe, Result.andThen_ok]
    have da : a.drop k = a[k] :: a.drop (k + 1) := List.drop_eq_getElem_cons (by omega)
    have db : b.drop k = b[k] :: b.drop (k + 1) := List.drop_eq_getElem_cons (by omega)
    by_cases hc : a[k] = b[k]
    · have hiff : (a.drop k = b.drop k) ↔ (a.drop (k + 1) = b.drop (k + 1)) := ⟨fun e => by rw [da, db] at e; exact (List.cons.inj e).2, fun e => by rw [da, db, hc, e]⟩
      rw [show decide (a.drop k = b.drop k) = decide (a.drop (k + 1) = b.drop (k + 1)) from decide_eq_decide.2 hiff]
      simp [hc, ih]
    · have hc' : ¬ (a[k].toNat : Int) = (b[k].toNat : Int) := fun e => hc (UInt8.toNat_inj.1 (by omega))
      have hno : ¬ (a.drop k = b.drop k) := fun e => hc (by rw [da, db] at e; exact (List.cons.inj e).1)
      rw [decide_eq_false hno]
      simp [hc']
theorem run_equal_bytes {e : TypeId} {m : Nat} {w : World} (ht : P.underlying t = some (.array m e)) (he : P.underlying e = some (.int .u8)) (hc : (P.info? e).map (·.size) = some 1) (a b : List UInt8) (ha : a.length = m) (hb : b.length = m) :
    (Op.equal t (.agg (B a).toArray) (.agg (B b).toArray)).run P w = .ok (decide (a = b)) w := by
  cases hi : P.info? e with
  | none => simp [hi] at hc
  | some i =>
    have h1 : P.cellsOf e = 1 := by simpa [Program.cellsOf, hi] using hc
    have h2 := run_equalIn_array (w := w) 9999 (B a).toArray (B b).toArray ht hi
    rw [h1, List.range_eq_range', run_eqItems_bytes he a b (by omega) 9998 m 0 (by omega)] at h2
    simpa [Op.equal, Op.maxDepth] using h2
/-- Arrays of bytes, compared. -/
theorem ow_eq_bytes {e : TypeId} {m : Nat} {r : Bool} (a b : List UInt8) (ht : P.underlying t = some (.array m e)) (he : P.underlying e = some (.int .u8)) (hc : (P.info? e).map (·.size) = some 1) (hg : P.eqGuardType P.depth t = false)
    (ha : a.length = m) (hb : b.length = m) (hx : ev ρ x = some (.agg (B a).toArray)) (hy : ev ρ y = some (.agg (B b).toArray)) (hr : decide (a = b) = r) : Ow P w0 n (.binOp .eql t x y t2) ty ρ Γ (Det w0 (.bool r) Γ) :=
  ow_pure fun A o w hF ho hty => by
    subst hr
    have h := run_equal_bytes (w := w) ht he hc a b ha hb
    simp [execOp, ho, hF.evl hx, hF.evl hy, eqGuard, binOp, hg, h]
theorem ow_ne_bytes {e : TypeId} {m : Nat} {r : Bool} (a b : List UInt8) (ht : P.underlying t = some (.array m e)) (he : P.underlying e = some (.int .u8)) (hc : (P.info? e).map (·.size) = some 1) (hg : P.eqGuardType P.depth t = false)
    (ha : a.length = m) (hb : b.length = m) (hx : ev ρ x = some (.agg (B a).toArray)) (hy : ev ρ y = some (.agg (B b).toArray)) (hr : (!decide (a = b)) = r) : Ow P w0 n (.binOp .neq t x y t2) ty ρ Γ (Det w0 (.bool r) Γ) :=
  ow_pure fun A o w hF ho hty => by
    subst hr
    have h := run_equal_bytes (w := w) ht he hc a b ha hb
    simp [execOp, ho, hF.evl hx, hF.evl hy, eqGuard, binOp, hg, h]

/-- A slice of a slice, as a value. -/
def cutV (v : Value) (l h sz : Nat) : Value := match v with | .slice ao m cap => .slice (if cap = l then ao else ao.map (·.add (l * sz))) (h - l) (cap - l) | v => v
theorem cutV_one {v : Value} {l h sz : Nat} (hv : v.oneCell' = true) : (cutV v l h sz).oneCell' = true := by cases v <;> simp_all [cutV, Value.oneCell']
theorem rd_cutV {sz m l h : Nat} {v : Value} {xs : List Value} (hr : Rd w0 Γ sz v xs) (hsz : 0 < sz) (hm : xs.length = m * sz) (hlh : l ≤ h) (hh : h ≤ m) : Rd w0 Γ sz (cutV v l h sz) ((xs.drop (l * sz)).take ((h - l) * sz)) := by
  intro w hS
  obtain ⟨ao, m', cap, rfl, h1, h2, h3⟩ := rd_cut hr hS l h hlh (by rw [hm]; exact Nat.mul_le_mul_right _ hh) hsz
  exact h3 w hS
theorem ow_slice_det {e : TypeId} {lo hi : Option Operand} {sz m l h : Nat} {v : Value} {xs : List Value} (ht : P.underlying t = some (.slice e)) (hz : (P.info? e).map (·.size) = some sz) (hx : ev ρ x = some v) (hr : Rd w0 Γ sz v xs) (hsz : 0 < sz) (hm : xs.length = m * sz)
    (hlo : Bnd ρ 0 lo l) (hhi : Bnd ρ m hi h) (hlh : l ≤ h) (hh : h ≤ m) :
    Ow P w0 n (.slice t x lo hi none) ty ρ Γ (Det w0 (cutV v l h sz) Γ) := by
  intro A w hF hS dst pos af g K Q hK
  obtain ⟨ao, m', cap, rfl, h1, h2, h3⟩ := rd_cut hr hS l h hlh (by rw [hm]; exact Nat.mul_le_mul_right _ hh) hsz
  obtain ⟨ao', cap', e1, _, _, _⟩ := hr.len hsz hm hS
  injection e1 with e1 e2 e3
  subst e2
  cases hi' : P.info? e with
  | none => simp [hi'] at hz
  | some q =>
    have hq : q.size = sz := by simpa [hi'] using hz
    have hb : (Instr.sliceBounds true m' cap (lo.map A.eval) (hi.map A.eval) none).run P w = .ok (l, h, cap) w := by
      refine run_sliceBounds ?_ ?_
      · rcases hhi with ⟨rfl, rfl⟩ | ⟨y, k, j, rfl, hy, hj0, rfl⟩
        · exact .inl ⟨rfl, rfl⟩
        · exact .inr ⟨k, j, by simp [hF.evl hy], hj0, by omega, rfl⟩
      · rcases hlo with ⟨rfl, rfl⟩ | ⟨y, k, j, rfl, hy, hj0, rfl⟩
        · exact .inl ⟨rfl, rfl⟩
        · exact .inr ⟨k, j, by simp [hF.evl hy], hj0, by omega, rfl⟩
    unfold Oper.wp
    have hrun : (execOp A.eval ⟨dst, .slice t x lo hi none, ty, pos, af, g⟩).run P w = .ok (.value (.slice (if cap = l then ao else ao.map (·.add (l * sz))) (h - l) (cap - l))) w := by
      simp [execOp, hF.evl hx, Instr.sliceAt, Instr.slice, run_underlying ht, hb, sizeOf, typeInfo, hi', hq]
    rw [hrun, Oper.upon_value]
    exact hK _ _ ⟨rfl, hS⟩
/-- An array of parts. -/
theorem ow_buildArr {e : TypeId} {m sz : Nat} {z : List Value} {parts : List (Nat × Operand)} {vs : List (Nat × Value)} (cs : List Value) (ht : P.underlying t = some (.array m e)) (hz : (P.info? t).map (·.zero) = some (some (.agg z.toArray))) (he : (P.info? e).map (·.size) = some sz)
    (hv : ∀ A : Act, Fr n A ρ → parts.map (fun p => (p.1, A.eval p.2)) = vs) (hf : Instr.fill (fun i => some (i * sz, sz)) z.toArray vs = some cs.toArray) : Ow P w0 n (.build t parts.toArray) ty ρ Γ (Det w0 (.agg cs.toArray) Γ) :=
  ow_pure fun A o w hF ho hty => by
    cases hi : P.info? t with
    | none => simp [hi] at hz
    | some q =>
      cases hj : P.info? e with
      | none => simp [hj] at he
      | some r =>
        have hq : q.zero = some (.agg z.toArray) := by simpa [hi] using hz
        have hr : r.size = sz := by simpa [hj] using he
        have h := hv A hF
        simp [execOp, ho, Instr.build, zeroValue, typeInfo, hi, hj, hq, hr, run_underlying ht, Value.cells, sizeOf, h, hf]
theorem ow_build_nil {e : TypeId} {m sz : Nat} (z : List Value) (ht : P.underlying t = some (.array m e)) (hz : (P.info? t).map (·.zero) = some (some (.agg z.toArray))) (he : (P.info? e).map (·.size) = some sz) : Ow P w0 n (.build t #[]) ty ρ Γ (Det w0 (.agg z.toArray) Γ) :=
  ow_buildArr (parts := []) (vs := []) z ht hz he (fun _ _ => rfl) rfl
theorem ow_extract {i : Nat} {vs : Array Value} {v : Value} (hx : ev ρ x = some (.tuple vs)) (hv : vs[i]? = some v) : Ow P w0 n (.extract x i) ty ρ Γ (Det w0 v Γ) :=
  ow_pure fun A o w hF ho hty => by simp [execOp, ho, hF.evl hx, Instr.extract, hv]
/-- A field of a struct that is no row itself. -/
theorem ow_fieldVal {s : TypeId} {i : Nat} {fs : Array Field} {f : Field} {d : TypeDesc} {cs : Array Value} {v : Value} (hs : P.underlying s = some (.struct fs)) (hf : fs[i]? = some f) (hft : P.underlying f.type = some d) (hd : d.isRow = false) (hx : ev ρ x = some (.agg cs)) (hv : cs[f.offset]? = some v) :
    Ow P w0 n (.field s x i) ty ρ Γ (Det w0 v Γ) :=
  ow_pure fun A o w hF ho hty => by
    have hp : (part f.type cs f.offset).run P w = .ok v w := by
      cases d <;> simp_all [part, isAgg, run_underlying hft, TypeDesc.isRow]
    simp [execOp, ho, hF.evl hx, Instr.field, run_underlying hs, hf, hp, asAgg]
theorem run_part_row {T : TypeId} {d : TypeDesc} {sz : Nat} {cs : List Value} {off : Nat} {w : World} (hft : P.underlying T = some d) (hd : d.isRow = true) (hz : (P.info? T).map (·.size) = some sz) : (part T cs.toArray off).run P w = .ok (.agg ((cs.drop off).take sz).toArray) w := by
  cases hi : P.info? T with
  | none => simp [hi] at hz
  | some q =>
    have hq : q.size = sz := by simpa [hi] using hz
    cases d <;> simp_all [part, isAgg, run_underlying hft, TypeDesc.isRow, sizeOf, typeInfo]
/-- A field of a struct that is a row itself. -/
theorem ow_fieldRow {s : TypeId} {i : Nat} {fs : Array Field} {f : Field} {d : TypeDesc} {cs : List Value} {sz : Nat} {u : List Value} (hs : P.underlying s = some (.struct fs)) (hf : fs[i]? = some f) (hft : P.underlying f.type = some d) (hd : d.isRow = true) (hz : (P.info? f.type).map (·.size) = some sz) (hx : ev ρ x = some (.agg cs.toArray)) (hu : (cs.drop f.offset).take sz = u) :
    Ow P w0 n (.field s x i) ty ρ Γ (Det w0 (.agg u.toArray) Γ) :=
  ow_pure fun A o w hF ho hty => by
    subst hu
    have hp := run_part_row (w := w) (cs := cs) (off := f.offset) hft hd hz
    simp [execOp, ho, hF.evl hx, Instr.field, run_underlying hs, hf, hp, asAgg]
end
section
variable {P : Program} {w0 : World} {n : Nat} {ops : Array Oper} {rest : List Oper} {Q : Exit → Act → World → Prop} {ρ : Env} {Γ Γ' : List HP}
/-- The guard was itself passed over. -/
theorem wlg_undef {d g s : Nat} {want : Bool} {op : Op} {ty : TypeId} {pos : String} {af : Array Edge} (hs : (ops[g]?).bind (·.dst) = some s) (hsn : Nat.blt s n = true) (hb : lk ρ s = some undef)
    (hd : Nat.blt d n = true) (h' : WL P w0 n ops rest Q ((d, undef) :: ρ) Γ) : WL P w0 n ops (⟨some d, op, ty, pos, af, some (g, want)⟩ :: rest) Q ρ Γ := by
  intro a w hF hS
  refine wpList_skip ?_ (h' _ _ (hF.put hd _) hS)
  have h1 := hF.holds s _ hb
  have h2 : a.tmps[s]? = some undef := by
    have h3 : s < a.tmps.size := by rw [hF.size]; exact Nat.le_of_ble_eq_true hsn
    rw [Array.getElem?_eq_getElem h3]
    rw [Array.getD_eq_getD_getElem?, Array.getElem?_eq_getElem h3] at h1
    simpa using h1
  simp only [Region.wanted, yielded, hs, Option.bind_some, h2]
  rfl
end
end Go.Toll

namespace Go.Toll
/-! ### What is left over, as one piece -/
theorem seps_fold {Γ : List HP} : ∀ {Δ : List HP} {h : Hp}, seps (Δ ++ Γ) h → seps (Δ ++ [seps Γ]) h
  | [], h, H => ⟨h, fun _ => none, fun _ => .inr rfl, fun k => by simp, H, trivial⟩
  | P :: Δ, h, H => seps_cons_mono (fun _ => seps_fold) H
theorem seps_unfold {Γ : List HP} : ∀ {Δ : List HP} {h : Hp}, seps (Δ ++ [seps Γ]) h → seps (Δ ++ Γ) h
  | [], h, H => by
    obtain ⟨h1, h2, hd, hj, hP, _⟩ := H
    refine seps_up (fun k => ?_) hP
    rw [hj k]
    cases h1 k
    · exact .inl rfl
    · exact .inr rfl
  | P :: Δ, h, H => seps_cons_mono (fun _ => seps_unfold) H
theorem seps_merge {P : HP} {Γ Δ : List HP} {h : Hp} (H : seps (P :: seps Γ :: Δ) h) : seps (seps (P :: Γ) :: Δ) h := by
  obtain ⟨h1, h2, hd, hj, hP, h3, h4, hd', hj', hQ, hΔ⟩ := H
  refine ⟨fun k => (h1 k).or (h3 k), h4, fun k => ?_, fun k => ?_, ⟨h1, h3, fun k => ?_, fun _ => rfl, hP, hQ⟩, hΔ⟩
  · have a := hd k; have b := hd' k; have c := hj' k
    rcases a with a | a
    · rcases b with b | b
      · left; simp [a, b]
      · exact .inr b
    · right
      rw [a] at c
      cases h3k : h3 k with
      | none => rw [h3k] at c; simpa using c.symm
      | some o => rw [h3k] at c; simp at c
  · rw [hj k, hj' k]; exact Option.or_assoc.symm
  · have a := hd k; have c := hj' k
    rcases a with a | a
    · exact .inl a
    · right
      rw [a] at c
      cases h3k : h3 k with
      | none => rfl
      | some o => rw [h3k] at c; simp at c
theorem seps_part {P : HP} {Γ Δ : List HP} {h : Hp} (H : seps (seps (P :: Γ) :: Δ) h) : seps (P :: seps Γ :: Δ) h := by
  obtain ⟨h12, h4, hd, hj, ⟨h1, h3, hd', hj', hP, hQ⟩, hΔ⟩ := H
  refine ⟨h1, fun k => (h3 k).or (h4 k), fun k => ?_, fun k => ?_, hP, h3, h4, fun k => ?_, fun _ => rfl, hQ, hΔ⟩
  · have a := hd k; have b := hd' k; have c := hj' k
    rcases b with b | b
    · exact .inl b
    · rcases a with a | a
      · left
        rw [a] at c
        cases h1k : h1 k with
        | none => rfl
        | some o => rw [h1k] at c; simp at c
      · right; simp [a, b]
  · rw [hj k, hj' k]; exact Option.or_assoc
  · have a := hd k; have c := hj' k
    rcases a with a | a
    · left
      rw [a] at c
      cases h1k : h1 k with
      | none => rw [h1k] at c; simpa using c.symm
      | some o => rw [h1k] at c; simp at c
    · exact .inr a
theorem seps_gather : ∀ {Γ Δ : List HP} {h : Hp}, seps (Γ ++ Δ) h → seps (seps Γ :: Δ) h
  | [], Δ, h, H => ⟨fun _ => none, h, fun _ => .inl rfl, fun _ => rfl, trivial, H⟩
  | P :: Γ, Δ, h, H => seps_merge (seps_cons_mono (fun _ => seps_gather) H)
theorem seps_scatter : ∀ {Γ Δ : List HP} {h : Hp}, seps (seps Γ :: Δ) h → seps (Γ ++ Δ) h
  | [], Δ, h, H => seps_tail H
  | P :: Γ, Δ, h, H => seps_cons_mono (fun _ => seps_scatter) (seps_part H)
/-- All that is left over, as one piece. -/
abbrev frm (Γ : List HP) : HP := seps Γ
theorem Sat.fold {w0 w : World} (Δ : List HP) {Γ : List HP} (h : Sat w0 (Δ ++ Γ) w) : Sat w0 (Δ ++ [frm Γ]) w := ⟨h.below, seps_fold h.seps⟩
theorem Sat.gather {w0 w : World} {Γ Δ : List HP} (h : Sat w0 (Γ ++ Δ) w) : Sat w0 (frm Γ :: Δ) w := ⟨h.below, seps_gather h.seps⟩
theorem Sat.scatter {w0 w : World} {Γ Δ : List HP} (h : Sat w0 (frm Γ :: Δ) w) : Sat w0 (Γ ++ Δ) w := ⟨h.below, seps_scatter h.seps⟩
theorem Sat.scatter1 {w0 w : World} {P : HP} {Γ Δ : List HP} (h : Sat w0 (P :: frm Γ :: Δ) w) : Sat w0 (P :: (Γ ++ Δ)) w := ⟨h.below, seps_cons_mono (fun _ => seps_scatter) h.seps⟩
theorem Sat.left {w0 w : World} {Γ Δ : List HP} (h : Sat w0 (Γ ++ Δ) w) : Sat w0 Γ w := Sat.dropl (Δ := Δ) (h.perm List.perm_append_comm)
theorem Rd.left {w0 : World} {Γ : List HP} {sz : Nat} {v : Value} {xs : List Value} (h : Rd w0 Γ sz v xs) (Δ : List HP) : Rd w0 (Γ ++ Δ) sz v xs := h.of fun _ hw => hw.left
theorem Rd.inFrm {w0 : World} {Γ : List HP} {sz : Nat} {v : Value} {xs : List Value} (h : Rd w0 Γ sz v xs) (Δ : List HP) : Rd w0 (frm Γ :: Δ) sz v xs := h.of fun _ hw => hw.scatter.left
theorem Sat.unfold {w0 w : World} (Δ : List HP) {Γ : List HP} (h : Sat w0 (Δ ++ [frm Γ]) w) : Sat w0 (Δ ++ Γ) w := ⟨h.below, seps_unfold h.seps⟩
end Go.Toll
