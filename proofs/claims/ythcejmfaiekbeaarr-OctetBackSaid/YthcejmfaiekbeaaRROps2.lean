/- Steps of a call, more: bytes and strings, slices, what is built, append, copy, calls. Plain lemmas; no program in sight. -/
import Derived.Test.YthcejmfaiekbeaaRROps
set_option linter.unusedVariables false
set_option linter.unusedSimpArgs false
namespace Go.Toll
open Go.RowKit

/-! ### Bytes -/
def B (l : List UInt8) : List Value := l.map fun b => .int .u8 (b.toNat : Int)
@[simp] theorem B_nil : B [] = [] := rfl
@[simp] theorem B_cons (x : UInt8) (l : List UInt8) : B (x :: l) = .int .u8 (x.toNat : Int) :: B l := rfl
@[simp] theorem B_append (l m : List UInt8) : B (l ++ m) = B l ++ B m := by simp [B]
@[simp] theorem B_length (l : List UInt8) : (B l).length = l.length := by simp [B]
theorem B_take (l : List UInt8) (k : Nat) : (B l).take k = B (l.take k) := by simp [B]
theorem B_drop (l : List UInt8) (k : Nat) : (B l).drop k = B (l.drop k) := by simp [B]
theorem B_one (l : List UInt8) : ∀ u ∈ B l, u.oneCell' = true := by
  intro u hu
  obtain ⟨_, _, rfl⟩ := List.mem_map.1 hu
  rfl
theorem B_get (l : List UInt8) (i : Nat) : (B l)[i]? = (l[i]?).map fun b => .int .u8 (b.toNat : Int) := by simp [B]
theorem B_inj {l m : List UInt8} (h : B l = B m) : l = m := by
  refine List.map_inj_right (fun x y e => ?_) |>.1 h
  simp only [Value.int.injEq, true_and] at e
  exact UInt8.toNat_inj.1 (by omega)
theorem B_replicate (k : Nat) : B (List.replicate k 0) = List.replicate k (.int .u8 0) := by simp [B]

section
variable {P : Program} {w0 : World} {n : Nat} {ty : TypeId} {ρ : Env} {Γ : List HP}

theorem addr_add_add (a : Addr) (i k : Nat) : (a.add i).add k = a.add (i + k) := by
  unfold Addr.add
  by_cases h1 : i = 0
  · subst h1; simp
  · by_cases h2 : k = 0
    · subst h2; simp
    · simp [h1, h2, Nat.add_assoc]

/-- These cells lie at this address. -/
def RdA (w0 : World) (Γ : List HP) (ad : Addr) (ys : List Value) : Prop := ∀ w, Sat w0 Γ w → ∀ k u, ys[k]? = some u → w.cell? (ad.add k) = some u
theorem RdA.cons {ad : Addr} {ys : List Value} (h : RdA w0 Γ ad ys) (Q : HP) : RdA w0 (Q :: Γ) ad ys := fun w hw => h w hw.tail
theorem RdA.of {Δ : List HP} {ad : Addr} {ys : List Value} (h : RdA w0 Γ ad ys) (f : ∀ w, Sat w0 Δ w → Sat w0 Γ w) : RdA w0 Δ ad ys := fun w hw => h w (f w hw)
theorem RdA.cell {ad : Addr} {u : Value} (h : RdA w0 Γ ad [u]) : ∀ w, Sat w0 Γ w → w.cell? ad = some u := fun w hS => by simpa [Addr.add] using h w hS 0 u rfl

theorem run_loadVar_rd {t : TypeId} {d : TypeDesc} {ad : Addr} (cs : List Value) {w : World} (hc : ∀ k u, cs[k]? = some u → w.cell? (ad.add k) = some u) (hu : P.underlying t = some d) (hd : d.isRow = true) (hi : (P.info? t).map (·.size) = some cs.length) : (loadVar t ad).run P w = .ok (.agg cs.toArray) w := by
  have hl : (loadCells ad cs.length).run P w = .ok cs.toArray w := run_loadCells_list (P := P) w ad cs hc
  cases hq : P.info? t with
  | none => simp [hq] at hi
  | some i =>
    have hs : i.size = cs.length := by simpa [hq] using hi
    have hagg : (isAgg t).run P w = .ok true w := by
      unfold isAgg
      rw [Sem.run_bind, run_underlying hu w]
      cases d <;> simp_all
    simp [loadVar, Sem.run_bind, hagg, sizeOf, typeInfo, hq, hs, hl]
theorem ow_load_rd {t : TypeId} {x : Operand} {ad : Addr} {d : TypeDesc} (cs : List Value) (hx : ev ρ x = some (.pointer (some ad))) (hc : RdA w0 Γ ad cs) (hu : P.underlying t = some d) (hd : d.isRow = true) (hi : (P.info? t).map (·.size) = some cs.length) : Ow P w0 n (.load t x) ty ρ Γ (Det w0 (.agg cs.toArray) Γ) :=
  ow_read fun a o w hF hS ho hty => by simp [execOp, ho, hF.evl hx, Instr.loadAt, Instr.sureAddr, run_loadVar_rd cs (hc w hS) hu hd hi]

/-! ### Slices -/
theorem Rd.len {sz m : Nat} {v : Value} {xs : List Value} (hr : Rd w0 Γ sz v xs) (hsz : 0 < sz) (hm : xs.length = m * sz) {w : World} (hS : Sat w0 Γ w) : ∃ ao cap, v = .slice ao m cap ∧ m ≤ cap ∧ cap ≤ maxLen ∧ (ao = none → m = 0 ∧ cap = 0) := by
  obtain ⟨k, hk, h⟩ := hr w hS
  have : k = m := Nat.eq_of_mul_eq_mul_right hsz (hk.symm.trans hm)
  subst this
  rcases h with ⟨rfl, rfl⟩ | ⟨a, cap, rfl, h1, h2, _⟩
  · exact ⟨none, 0, rfl, Nat.le_refl _, by simp [maxLen], fun _ => ⟨rfl, rfl⟩⟩
  · exact ⟨some a, cap, rfl, h1, h2, fun h => (by cases h)⟩
theorem ow_len {t e : TypeId} {x : Operand} {sz m : Nat} {v : Value} {xs : List Value} (ht : P.underlying t = some (.slice e)) (hx : ev ρ x = some v) (hr : Rd w0 Γ sz v xs) (hsz : 0 < sz) (hm : xs.length = m * sz) :
    Ow P w0 n (.call { callee := .builtin .len, args := #[x], argTypes := #[t] }) ty ρ Γ (Det w0 (.int .i64 m) Γ) :=
  ow_read fun a o w hF hS ho hty => by
    obtain ⟨ao, cap, rfl, _⟩ := hr.len hsz hm hS
    simp [execOp, ho, resolve, invoke, builtin, Builtin.len_, hF.evl hx, run_underlying ht, goInt]
theorem ow_len_str {t : TypeId} {x : Operand} {s : ByteArray} (ht : P.underlying t = some .string) (hx : ev ρ x = some (.string s)) :
    Ow P w0 n (.call { callee := .builtin .len, args := #[x], argTypes := #[t] }) ty ρ Γ (Det w0 (.int .i64 s.size) Γ) :=
  ow_read fun a o w hF hS ho hty => by
    simp [execOp, ho, resolve, invoke, builtin, Builtin.len_, hF.evl hx, run_underlying ht, goInt]

/-- The address of an element of a slice that reads xs. -/
theorem ow_indexAddr_rd {t e : TypeId} {x i : Operand} {sz : Nat} {v : Value} {xs : List Value} {k : IntKind} {j : Int} (ht : P.underlying t = some (.slice e)) (hz : (P.info? e).map (·.size) = some sz) (hx : ev ρ x = some v) (hi : ev ρ i = some (.int k j)) (hr : Rd w0 Γ sz v xs) (hsz : 0 < sz) (h0 : 0 ≤ j) (hj : (j.toNat + 1) * sz ≤ xs.length) :
    Ow P w0 n (.indexAddr t x i) ty ρ Γ (Some_ w0 (fun ad => RdA w0 Γ ad ((xs.drop (j.toNat * sz)).take sz)) (fun ad : Addr => .pointer (some ad)) (fun _ => Γ)) := by
  intro A w hF hS dst pos af g K Q hK
  obtain ⟨m, hm, h⟩ := hr w hS
  rcases h with ⟨rfl, rfl⟩ | ⟨a, cap, rfl, h1, h2, h3⟩
  · rw [Nat.zero_mul] at hm
    have : 0 < (j.toNat + 1) * sz := Nat.mul_pos (by omega) hsz
    omega
  · have hjm : j.toNat < m := by
      rw [hm] at hj
      exact Nat.lt_of_succ_le (Nat.le_of_mul_le_mul_right hj hsz)
    have hjm' : j < m := by omega
    cases hi' : P.info? e with
    | none => simp [hi'] at hz
    | some q =>
      have hq : q.size = sz := by simpa [hi'] using hz
      unfold Oper.wp
      have hrun : (execOp A.eval ⟨dst, .indexAddr t x i, ty, pos, af, g⟩).run P w = .ok (.value (.pointer (some (a.add (j.toNat * sz))))) w := by
        simp [execOp, hF.evl hx, hF.evl hi, Instr.indexAt, asIntOf, run_underlying ht, Instr.sureAddr, sizeOf, typeInfo, hi', hq, h0, hjm']
      rw [hrun, Oper.upon_value]
      refine hK _ _ ⟨a.add (j.toNat * sz), fun w' hS' k u hu => ?_, rfl, hS⟩
      rw [List.getElem?_take] at hu
      split at hu
      · rw [List.getElem?_drop] at hu
        obtain ⟨m', hm', h'⟩ := hr w' hS'
        rcases h' with ⟨e1, _⟩ | ⟨a', cap', e1, _, _, h3'⟩
        · cases e1
        · injection e1 with e1 _ _
          injection e1 with e1
          subst e1
          rw [addr_add_add]
          exact h3' _ u hu
      · cases hu

end
end Go.Toll
