/- The walks of the document's own numbers and blobs as bytes (tollhouseref01). Printed by tools/gen.py out of tools/ref01.an.py. -/
import Derived.Test.YthcejmfaiekbeaaRRFacts
import Derived.Test.YthcejmfaiekbeaaRRBytes
import Derived.Test.YthcejmfaiekbeaaRROps4
set_option linter.unusedVariables false
set_option linter.unusedSimpArgs false
namespace Go.Proofs.Toll
open Go Go.Toll Go.RowKit
set_option maxRecDepth 100000 in
theorem refnum_any {w0 w : World} {Γ : List HP} (bv : Value) (bs : List UInt8) (m size : Nat) (hsz : size ≤ 8) (hm : m < 2 ^ 64) (hr : Rd w0 Γ 1 bv (B bs)) (hl : bs.length ≤ 140737488355000) (hS : Sat w0 Γ w) :
    Calls Try.prog 82 #[bv, .int .u64 m, .int .i64 size] w (Ret (Some_ w0 (fun _ => True) id (fun v' => own v' (B (bs ++ be m size)) 5 1 :: Γ))) := by
  refine calls_of_wc Try.func82 rfl rfl (Nat.le_of_ble_eq_true rfl) ?_ w hS
  clear hS
  refine wc_seq ?_
  refine wc_region ?_
  refine wl_det (ow_assign rfl) rfl ?_
  refine wl_nil ?_
  refine dn_seq ?_
  refine wc_seq ?_
  refine wc_region ?_
  refine wl_det (ow_move rfl) rfl ?_
  refine wl_some (ow_makeSlice Try.underlying26 info5 rfl rfl rfl (by omega) (by decide)) rfl (fun b10 _ => ?_)
  refine wl_det (ow_assign rfl) rfl ?_
  refine wl_nil ?_
  refine dn_seq ?_
  refine wc_seq ?_
  refine wc_seq ?_
  refine wc_region ?_
  refine wl_det (ow_move rfl) rfl ?_
  refine wl_det (ow_sub rfl rfl (by first | exact IntWalk.i64_in _ (by omega) | rfl)) rfl ?_
  refine wl_det (ow_assign rfl) rfl ?_
  refine wl_nil ?_
  refine dn_seq ?_
  refine wc_block ?_
  refine wc_loop (α := Nat) (fun k => k ≤ size) (fun k => [(0, bv), (1, .int .u64 ((m / 2 ^ (8 * k) : Nat) : Int)), (7, .slice (some ⟨b10, 0, none⟩) size size), (8, .int .i64 ((size : Int) - 1 - k))]) (fun k => blk b10 (List.replicate (size - k) (Value.int .u8 0) ++ B (be m k)) 5 :: Γ) (fun k => size - k) 0 (Nat.zero_le _) ⟨rfl, lk_int rfl (by simp), rfl, lk_int rfl (by omega), trivial⟩ (fun w h => by simpa [be] using h) ?_
  · rintro k hk0
    refine wc_seq ?_
    refine wc_seq ?_
    refine wc_region ?_
    refine wl_det (ow_move rfl) rfl ?_
    refine wl_det (ow_geI rfl rfl) rfl ?_
    refine wl_nil ?_
    refine dn_seq ?_
    refine wc_cond rfl (fun hc => ?_) (fun hc => ?_)
    · have hc14 := hc; simp only [decide_eq_true_eq, decide_eq_false_iff_not, Bool.not_eq_true', Bool.not_eq_false'] at hc
      refine wc_skip ?_
      refine dn_seq ?_
      refine wc_seq ?_
      refine wc_block ?_
      refine wc_seq ?_
      refine wc_region ?_
      refine wl_det (ow_move rfl) rfl ?_
      refine wl_det (ow_move rfl) rfl ?_
      refine wl_det (ow_move rfl) rfl ?_
      have hq : m / 2 ^ (8 * k) < 2 ^ 64 := Nat.lt_of_le_of_lt (Nat.div_le_self _ _) hm
      refine wl_det (ow_rem rfl rfl (by decide) (rem_nat (m / 2 ^ (8 * k)) 256)) rfl ?_
      refine wl_det (ow_conv Try.underlying28 Try.underlying5 rfl ((u8_of (m / 2 ^ (8 * k) % 256)).trans (by rw [ofNat_mod]))) rfl ?_
      have hadd : (⟨b10, 0, none⟩ : Addr).add (((size : Int) - 1 - k).toNat * 1) = ⟨b10, size - 1 - k, none⟩ := by
        rw [Addr.add_mid]; congr 1; omega
      refine wl_det (ow_indexAddr_slice Try.underlying26 size5 rfl rfl (by omega) hadd) rfl ?_
      have hset : (List.replicate (size - k) (Value.int .u8 0) ++ B (be m k)).set (size - 1 - k) (.int .u8 ((UInt8.ofNat (m / 2 ^ (8 * k))).toNat : Int)) = List.replicate (size - (k + 1)) (Value.int .u8 0) ++ B (be m (k + 1)) := by
        rw [show size - k = (size - (k + 1)) + 1 by omega, List.replicate_succ', List.append_assoc, set_at _ _ _ _ _ (by rw [List.length_replicate]; omega)]
        rfl
      refine wl_eff (ow_store plain5 size5 rfl rfl rfl (by simp [be_length]; omega) .here) ?_
      rw [hset]
      refine wl_nil ?_
      refine dn_seq ?_
      refine wc_region ?_
      refine wl_det (ow_move rfl) rfl ?_
      refine wl_det (ow_quo rfl rfl (by decide) (quo_u64 (m / 2 ^ (8 * k)) 256 hq)) rfl ?_
      refine wl_det (ow_assign rfl) rfl ?_
      refine wl_nil ?_
      refine dn_block ?_
      refine dn_seq ?_
      refine wc_region ?_
      refine wl_det (ow_move rfl) rfl ?_
      refine wl_det (ow_sub rfl rfl (by first | exact IntWalk.i64_in _ (by omega) | rfl)) rfl ?_
      refine wl_det (ow_assign rfl) rfl ?_
      refine wl_nil ?_
      refine dn_back (k + 1) (by omega) (by omega) ⟨rfl, lk_int rfl ?_, rfl, lk_int rfl (by omega), trivial⟩ (fun w h => h)
      rw [Nat.div_div_eq_div_mul, show 8 * (k + 1) = 8 * k + 8 by omega, Nat.pow_add]
    · have hc14 := hc; simp only [decide_eq_true_eq, decide_eq_false_iff_not, Bool.not_eq_true', Bool.not_eq_false'] at hc
      refine wc_exit ?_
      refine dn_then_exit ?_
      refine dn_then_exit ?_
      refine dn_block_this ?_
      refine dn_seq ?_
      refine wc_seq ?_
      refine wc_region ?_
      have hk : k = size := by omega
      subst hk
      rw [Nat.sub_self, List.replicate_zero, List.nil_append]
      refine wl_some (ow_bs0 Try.underlying26 zs5) rfl (fun b25 _ => ?_)
      refine wl_pieces (fun w h => h.head (own_of_blk [] [] (k := 0) (sz := 1) rfl rfl (by decide))) ?_
      refine wl_det (ow_move rfl) rfl ?_
      refine wl_some (ow_append Try.underlying26 Try.underlying26 info5 rfl (by decide) rfl rfl .here ((hr.cons _).cons _) (B_one _) (by simp only [List.length_nil, B_length]; omega) (by simp only [List.length_nil, B_length]; omega)) rfl (fun v27 _ => ?_)
      refine wl_det (ow_move rfl) rfl ?_
      refine wl_some (ow_append Try.underlying26 Try.underlying26 info5 rfl (by decide) rfl rfl .here ((blk_reads [] (B (be m k)) [] k k 1 (by simp) (by simp [be_length]) (Nat.le_refl _) (by simp [maxLen]; omega)).cons _) (B_one _) (by simp only [List.length_append, List.length_nil, B_length, be_length]; omega) (by simp only [List.length_append, List.length_nil, B_length, be_length]; omega)) rfl (fun v29 _ => ?_)
      refine wl_det (ow_assign rfl) rfl ?_
      refine wl_nil ?_
      refine dn_seq ?_
      refine wc_ret ?_
      refine dn_ret1 rfl rfl (fun w hS => ⟨_, rfl, v29, trivial, rfl, ?_⟩)
      rw [B_append]
      simpa using hS.r1.tail

set_option maxRecDepth 100000 in
theorem refblob_any {w0 w : World} {Γ : List HP} (bv pv : Value) (bs ps : List UInt8) (hr : Rd w0 Γ 1 bv (B bs)) (hp : Rd w0 Γ 1 pv (B ps)) (hl : bs.length + ps.length ≤ 140737488355000) (hS : Sat w0 Γ w) :
    Calls Try.prog 83 #[bv, pv] w (Ret (Some_ w0 (fun _ => True) id (fun v' => own v' (B (bs ++ (be ps.length 4 ++ ps))) 5 1 :: Γ))) := by
  refine calls_of_wc Try.func83 rfl rfl (Nat.le_of_ble_eq_true rfl) ?_ w hS
  clear hS
  refine wc_seq ?_
  refine wc_region ?_
  refine wl_det (ow_assign rfl) rfl ?_
  refine wl_nil ?_
  refine dn_seq ?_
  refine wc_seq ?_
  refine wc_region ?_
  refine wl_det (ow_move rfl) rfl ?_
  refine wl_det (ow_move rfl) rfl ?_
  refine wl_det (ow_len Try.underlying26 rfl hp (by decide) (m := ps.length) (by simp)) rfl ?_
  refine wl_det (ow_conv Try.underlying3 Try.underlying28 rfl (by first | exact IntWalk.u64_in _ (by omega) | rfl)) rfl ?_
  refine wl_some (ow_call call82 rfl (fun w hS => refnum_any _ bs ps.length 4 (by decide) (by omega) hr (by omega) hS)) rfl (fun v9 _ => ?_)
  refine wl_det (ow_move rfl) rfl ?_
  refine wl_some (ow_append Try.underlying26 Try.underlying26 info5 rfl (by decide) rfl rfl .here (hp.cons _) (B_one _) (by simp only [List.length_append, B_length, be_length]; omega) (by simp only [List.length_append, B_length, be_length]; omega)) rfl (fun v11 _ => ?_)
  refine wl_det (ow_assign rfl) rfl ?_
  refine wl_nil ?_
  refine dn_seq ?_
  refine wc_ret ?_
  refine dn_ret1 rfl rfl (fun w hS => ⟨_, rfl, v11, trivial, rfl, ?_⟩)
  rw [← List.append_assoc, B_append]
  exact hS

end Go.Proofs.Toll
