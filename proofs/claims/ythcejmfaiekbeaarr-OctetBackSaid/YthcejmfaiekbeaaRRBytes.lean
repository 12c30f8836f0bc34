/- Numbers as bytes. Plain lemmas; no program in sight. -/
import Derived.Test.YthcejmfaiekbeaaRROps3
set_option linter.unusedVariables false
set_option linter.unusedSimpArgs false
namespace Go.Toll
open Go.RowKit
/-- The k lowest bytes of m, the highest first. -/
def be (m : Nat) : Nat → List UInt8
  | 0 => []
  | k + 1 => UInt8.ofNat (m / 2 ^ (8 * k)) :: be m k
theorem be_length (m : Nat) : ∀ k, (be m k).length = k
  | 0 => rfl
  | k + 1 => by simp [be, be_length m k]
theorem shr_u64 (m k : Nat) (e : Int) (he : e = (k : Int)) (hk : k ≤ 64) : (m : Int).fdiv (2 ^ min e.toNat IntKind.u64.bits) = ((m / 2 ^ k : Nat) : Int) := by
  subst he
  rw [Int.toNat_natCast, Nat.min_eq_left (show k ≤ IntKind.u64.bits by simpa [IntKind.bits] using hk)]
  rw [Int.fdiv_eq_ediv_of_nonneg _ (Int.pow_nonneg (by decide)), Int.natCast_ediv, Int.natCast_pow]
  rfl
theorem u8_of (q : Nat) : IntKind.u8.wrap (q : Int) = ((UInt8.ofNat q).toNat : Int) := by
  rw [IntKind.wrap_u8, UInt8.toNat_ofNat', Int.natCast_emod]
  rfl
theorem be_mod (m : Nat) : ∀ (k : Nat), k ≤ 4 → be (m % 2 ^ 32) k = be m k
  | 0, _ => rfl
  | k + 1, h => by
    rw [be, be, be_mod m k (by omega)]
    congr 1
    apply UInt8.toNat_inj.1
    rw [UInt8.toNat_ofNat', UInt8.toNat_ofNat']
    have : (2 : Nat) ^ 32 = 2 ^ (8 * k) * (2 ^ 8 * 2 ^ (24 - 8 * k)) := by
      rw [← Nat.pow_add, ← Nat.pow_add]; congr 1; omega
    rw [this, Nat.mod_mul_right_div_self, Nat.mod_mul_right_mod]

theorem u32_of (q : Nat) : IntKind.u32.wrap (q : Int) = ((UInt32.ofNat q).toNat : Int) := by
  rw [IntKind.wrap_u32, UInt32.toNat_ofNat', Int.natCast_emod]
  rfl
theorem u64_of (q : Nat) : IntKind.u64.wrap (q : Int) = ((UInt64.ofNat q).toNat : Int) := by
  rw [IntKind.wrap_u64, UInt64.toNat_ofNat', Int.natCast_emod]
  rfl
theorem take_one {xs : List Value} {i : Nat} (h : i < xs.length) : (xs.drop ((i : Int).toNat * 1)).take 1 = [xs[i]] := by
  rw [Int.toNat_natCast, Nat.mul_one, List.drop_eq_getElem_cons h, List.take_succ_cons, List.take_zero]
theorem rem_nat (q d : Nat) : ((q : Int)).tmod (d : Int) = ((q % d : Nat) : Int) := by
  rw [Int.tmod_eq_emod_of_nonneg (by omega), Int.natCast_emod]
theorem quo_u64 (q d : Nat) (h : q < 2 ^ 64) : IntKind.u64.wrap ((q : Int).tdiv (d : Int)) = ((q / d : Nat) : Int) := by
  rw [Int.tdiv_eq_ediv_of_nonneg (by omega), show (q : Int) / (d : Int) = ((q / d : Nat) : Int) from (Int.natCast_ediv q d).symm, IntWalk.u64_in]
  have h1 := Nat.div_le_self q d
  generalize q / d = r at *
  omega
theorem quo_i64 (q d : Nat) (h : q < 2 ^ 63) : IntKind.i64.wrap ((q : Int).tdiv (d : Int)) = ((q / d : Nat) : Int) := by
  rw [Int.tdiv_eq_ediv_of_nonneg (by omega), show (q : Int) / (d : Int) = ((q / d : Nat) : Int) from (Int.natCast_ediv q d).symm, IntWalk.i64_in]
  have h1 := Nat.div_le_self q d
  generalize q / d = r at *
  omega
theorem ofNat_mod (q : Nat) : UInt8.ofNat (q % 256) = UInt8.ofNat q := by
  apply UInt8.toNat_inj.1
  rw [UInt8.toNat_ofNat', UInt8.toNat_ofNat', Nat.mod_mod]
theorem set_at (pre post : List Value) (x y : Value) (i : Nat) (h : i = pre.length) : (pre ++ ([x] ++ post)).set i y = pre ++ (y :: post) := by subst h; simp
/-- Numbers as values. -/
def V32 (l : List UInt32) : List Value := l.map fun x => .int .u32 (x.toNat : Int)
def V64 (l : List UInt64) : List Value := l.map fun x => .int .u64 (x.toNat : Int)
@[simp] theorem V32_length (l : List UInt32) : (V32 l).length = l.length := by simp [V32]
@[simp] theorem V64_length (l : List UInt64) : (V64 l).length = l.length := by simp [V64]
theorem V32_one (l : List UInt32) : ∀ u ∈ V32 l, u.oneCell' = true := by
  intro u hu
  obtain ⟨_, _, rfl⟩ := List.mem_map.1 hu
  rfl
theorem V64_one (l : List UInt64) : ∀ u ∈ V64 l, u.oneCell' = true := by
  intro u hu
  obtain ⟨_, _, rfl⟩ := List.mem_map.1 hu
  rfl
def fours (l : List UInt32) : List UInt8 := l.flatMap fun x => be x.toNat 4
def eights (l : List UInt64) : List UInt8 := l.flatMap fun x => be x.toNat 8
def blobs (l : List (List UInt8)) : List UInt8 := l.flatMap fun p => be p.length 4 ++ p
theorem fours_length (l : List UInt32) : (fours l).length = 4 * l.length := by
  induction l with
  | nil => rfl
  | cons x l ih =>
    show (be x.toNat 4 ++ fours l).length = _
    rw [List.length_append, be_length, ih]; simp; omega
theorem eights_length (l : List UInt64) : (eights l).length = 8 * l.length := by
  induction l with
  | nil => rfl
  | cons x l ih =>
    show (be x.toNat 8 ++ eights l).length = _
    rw [List.length_append, be_length, ih]; simp; omega
theorem take_snoc {α : Type} (l : List α) (k : Nat) (h : k < l.length) : l.take (k + 1) = l.take k ++ [l[k]] := List.take_succ_eq_append_getElem h
theorem flatMap_take {α : Type} (f : α → List UInt8) (l : List α) (k : Nat) (h : k < l.length) : (l.take (k + 1)).flatMap f = (l.take k).flatMap f ++ f l[k] := by
  rw [take_snoc l k h, List.flatMap_append]; simp
theorem flatMap_take_le {α : Type} (f : α → List UInt8) (l : List α) (k : Nat) : ((l.take k).flatMap f).length ≤ (l.flatMap f).length := by
  have : l.flatMap f = (l.take k).flatMap f ++ (l.drop k).flatMap f := by rw [← List.flatMap_append, List.take_append_drop]
  rw [this, List.length_append]; omega

theorem blobs_ge (l : List (List UInt8)) : 4 * l.length ≤ (blobs l).length := by
  induction l with
  | nil => simp
  | cons x l ih =>
    have : (blobs (x :: l)).length = (be x.length 4 ++ x ++ blobs l).length := rfl
    rw [this, List.length_append, List.length_append, be_length, List.length_cons]
    omega
/-- A slice of slices of bytes. -/
def RdL (w0 : World) (Γ : List HP) (v : Value) (ps : List (List UInt8)) : Prop :=
  ∃ vs : List Value, vs.length = ps.length ∧ Rd w0 Γ 1 v vs ∧ ∀ (i : Nat) (u : Value) (p : List UInt8), vs[i]? = some u → ps[i]? = some p → Rd w0 Γ 1 u (B p)
theorem RdL.cons {w0 : World} {Γ : List HP} {v : Value} {ps : List (List UInt8)} (h : RdL w0 Γ v ps) (Q : HP) : RdL w0 (Q :: Γ) v ps := by
  obtain ⟨vs, h1, h2, h3⟩ := h
  exact ⟨vs, h1, h2.cons Q, fun i u p hu hp => (h3 i u p hu hp).cons Q⟩
theorem RdL.of {w0 : World} {Γ Δ : List HP} {v : Value} {ps : List (List UInt8)} (h : RdL w0 Γ v ps) (f : ∀ w, Sat w0 Δ w → Sat w0 Γ w) : RdL w0 Δ v ps := by
  obtain ⟨vs, h1, h2, h3⟩ := h
  exact ⟨vs, h1, h2.of f, fun i u p hu hp => (h3 i u p hu hp).of f⟩
end Go.Toll
