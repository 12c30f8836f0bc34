/- Bytes as numbers, and bits of whole numbers. Plain lemmas; no program in sight. -/
import Derived.Test.YthcejmfaiekbeaaRROps5
set_option linter.unusedVariables false
set_option linter.unusedSimpArgs false
namespace Go.Toll
open Go.RowKit
/-- The number that bytes spell, the highest first. -/
def nbe (l : List UInt8) : Nat := l.foldl (fun a b => a * 256 + b.toNat) 0
theorem nbe_snoc (l : List UInt8) (b : UInt8) : nbe (l ++ [b]) = nbe l * 256 + b.toNat := by simp [nbe, List.foldl_append]
theorem nbe_from : ∀ (l : List UInt8) (a : Nat), l.foldl (fun a b => a * 256 + b.toNat) a = a * 256 ^ l.length + nbe l
  | [], a => by simp [nbe]
  | b :: l, a => by
    rw [List.foldl_cons, nbe_from l, show nbe (b :: l) = l.foldl (fun a b => a * 256 + b.toNat) (0 * 256 + b.toNat) from rfl, nbe_from l, List.length_cons, Nat.pow_succ]
    rw [Nat.add_mul, Nat.mul_assoc, Nat.mul_comm 256, Nat.zero_mul, Nat.zero_add, Nat.add_assoc]
theorem nbe_lt : ∀ l : List UInt8, nbe l < 256 ^ l.length
  | [] => by simp [nbe]
  | b :: l => by
    rw [show nbe (b :: l) = l.foldl (fun a b => a * 256 + b.toNat) (0 * 256 + b.toNat) from rfl, nbe_from, List.length_cons, Nat.pow_succ, Nat.zero_mul, Nat.zero_add]
    have h1 := nbe_lt l
    have h2 := b.toNat_lt
    calc b.toNat * 256 ^ l.length + nbe l < b.toNat * 256 ^ l.length + 256 ^ l.length := by omega
      _ = (b.toNat + 1) * 256 ^ l.length := by rw [Nat.add_mul, Nat.one_mul]
      _ ≤ 256 * 256 ^ l.length := Nat.mul_le_mul_right _ (by omega)
      _ = 256 ^ l.length * 256 := Nat.mul_comm _ _
theorem nbe_be (m : Nat) : ∀ k, nbe (be m k) = m % 256 ^ k
  | 0 => by simp [nbe, be, Nat.mod_one]
  | k + 1 => by
    have h : (2 : Nat) ^ (8 * k) = 256 ^ k := by rw [Nat.pow_mul]
    rw [be, show nbe (UInt8.ofNat (m / 2 ^ (8 * k)) :: be m k) = (be m k).foldl (fun a b => a * 256 + b.toNat) (0 * 256 + (UInt8.ofNat (m / 2 ^ (8 * k))).toNat) from rfl, nbe_from, nbe_be m k, be_length, UInt8.toNat_ofNat', Nat.zero_mul, Nat.zero_add, h]
    have h2 := Nat.mod_mul (x := m) (a := 256 ^ k) (b := 256)
    rw [show (2 : Nat) ^ 8 = 256 from rfl, show 256 ^ (k + 1) = 256 ^ k * 256 from Nat.pow_succ _ _, h2, Nat.mul_comm (256 ^ k), Nat.add_comm]
theorem bits_or64 (a b : Nat) (ha : a < 2 ^ 64) (hb : b < 2 ^ 64) : bits .or .u64 (a : Int) (b : Int) = ((a ||| b : Nat) : Int) := by
  have h := Nat.or_lt_two_pow ha hb
  have e : (BitVec.ofNat 64 a ||| BitVec.ofNat 64 b).toNat = a ||| b := by
    rw [BitVec.toNat_or, BitVec.toNat_ofNat, BitVec.toNat_ofNat, Nat.mod_eq_of_lt ha, Nat.mod_eq_of_lt hb]
  show IntKind.u64.wrap (((BitVec.ofInt 64 (a : Int)) ||| (BitVec.ofInt 64 (b : Int))).toNat : Int) = _
  rw [BitVec.ofInt_natCast, BitVec.ofInt_natCast, e, IntKind.wrap_u64]
  omega
theorem or_byte (a b : Nat) (hb : b < 256) : (a * 256) ||| b = a * 256 + b := by
  have := Nat.shiftLeft_add_eq_or_of_lt (i := 8) hb a
  rw [Nat.shiftLeft_eq] at this
  exact this.symm
theorem rd_take {w0 : World} {Γ : List HP} {v : Value} {l : List UInt8} (k : Nat) (hr : Rd w0 Γ 1 v (B l)) (hk : k ≤ l.length) : Rd w0 Γ 1 (cutV v 0 k 1) (B (l.take k)) := by
  have h := rd_cutV (l := 0) (h := k) hr (by decide) (m := l.length) (by simp) (Nat.zero_le _) hk
  rw [Nat.zero_mul, List.drop_zero, Nat.sub_zero, Nat.mul_one] at h
  rw [show B (l.take k) = (B l).take k by simp [B]]
  exact h
theorem rd_drop {w0 : World} {Γ : List HP} {v : Value} {l : List UInt8} (k : Nat) (hr : Rd w0 Γ 1 v (B l)) (hk : k ≤ l.length) : Rd w0 Γ 1 (cutV v k l.length 1) (B (l.drop k)) := by
  have h := rd_cutV (l := k) (h := l.length) hr (by decide) (m := l.length) (by simp) hk (Nat.le_refl _)
  rw [Nat.mul_one, Nat.mul_one, List.take_of_length_le (by simp)] at h
  rw [show B (l.drop k) = (B l).drop k by simp [B]]
  exact h
theorem shl8_u64 (a : Nat) (h : a < 2 ^ 56) : IntKind.u64.wrap ((a : Int) * 2 ^ min (8 : Int).toNat IntKind.u64.bits) = ((a * 256 : Nat) : Int) := by
  rw [show min (8 : Int).toNat IntKind.u64.bits = 8 from rfl, IntKind.wrap_u64]
  omega
theorem nbe_take_lt (l : List UInt8) (i j : Nat) (h : i ≤ j) : nbe (l.take i) < 256 ^ j :=
  Nat.lt_of_lt_of_le (nbe_lt _) (Nat.pow_le_pow_right (by decide) (by rw [List.length_take]; omega))
theorem own_one {w0 w : World} {Γ : List HP} {v : Value} {xs : List Value} {T : TypeId} {sz : Nat} (h : Sat w0 (own v xs T sz :: Γ) w) : v.oneCell' = true := by
  obtain ⟨h1, h2, _, hj, ⟨n, hl, hP⟩, _⟩ := h.seps
  rcases hP with ⟨rfl, _⟩ | ⟨g, cap, cur, rfl, _⟩ <;> rfl
end Go.Toll
