/- The walks of octet's Out: numbers, sums and blobs are laid behind bytes. Printed by tools/gen.py out of tools/octet.an.py. -/
import Derived.Test.YthcejmfaiekbeaaRRFacts
import Derived.Test.YthcejmfaiekbeaaRRBytes
set_option linter.unusedVariables false
set_option linter.unusedSimpArgs false
namespace Go.Proofs.Toll
open Go Go.Toll Go.RowKit
set_option maxRecDepth 100000 in
theorem num_any {w0 w : World} {Γ : List HP} (v : Value) (xs : List Value) (m size : Nat) (hsz : size ≤ 8) (hm : m < 2 ^ 64) (hl : xs.length ≤ 140737488355000) (hS : Sat w0 (own v xs 5 1 :: Γ) w) :
    Calls Try.prog 84 #[v, .int .u64 m, .int .i64 size] w (Ret (Some_ w0 (fun _ => True) id (fun v' => own v' (xs ++ B (be m size)) 5 1 :: Γ))) := by
  refine calls_of_wc Try.func84 rfl rfl (Nat.le_of_ble_eq_true rfl) ?_ w hS
  clear hS
  refine wc_seq ?_
  refine wc_region ?_
  refine wl_det (ow_assign rfl) rfl ?_
  refine wl_nil ?_
  refine dn_seq ?_
  refine wc_seq ?_
  refine wc_seq ?_
  refine wc_region ?_
  refine wl_det (ow_move rfl) rfl ?_
  refine wl_det (ow_sub rfl rfl (by first | exact IntWalk.i64_in _ (by omega) | rfl)) rfl ?_
  refine wl_det (ow_assign rfl) rfl ?_
  refine wl_nil ?_
  refine dn_seq ?_
  refine wc_block ?_
  refine wc_loop (α := Nat × Value × List Value) (fun x => x.1 ≤ size ∧ xs ++ B (be m size) = x.2.2 ++ B (be m x.1) ∧ x.2.2.length + x.1 = xs.length + size) (fun x => [(0, x.2.1), (1, .int .u64 m), (7, .int .i64 ((x.1 : Int) - 1))]) (fun x => own x.2.1 x.2.2 5 1 :: Γ) (fun x => x.1) (size, v, xs) ⟨Nat.le_refl _, rfl, rfl⟩ ⟨rfl, rfl, rfl, trivial⟩ (fun w h => h) ?_
  · rintro ⟨k, v1, ys⟩ ⟨hk, he, hlen⟩
    simp only at hk he hlen ⊢
    refine wc_seq ?_
    refine wc_seq ?_
    refine wc_region ?_
    refine wl_det (ow_move rfl) rfl ?_
    refine wl_det (ow_geI rfl rfl) rfl ?_
    refine wl_nil ?_
    refine dn_seq ?_
    refine wc_cond rfl (fun hc => ?_) (fun hc => ?_)
    · have hc11 := hc; simp only [decide_eq_true_eq, decide_eq_false_iff_not, Bool.not_eq_true', Bool.not_eq_false'] at hc
      refine wc_skip ?_
      refine dn_seq ?_
      refine wc_seq ?_
      refine wc_block ?_
      refine wc_region ?_
      refine wl_det (ow_move rfl) rfl ?_
      refine wl_det (ow_move rfl) rfl ?_
      refine wl_det (ow_move rfl) rfl ?_
      refine wl_det (ow_mul rfl rfl (by first | exact IntWalk.i64_in _ (by omega) | rfl)) rfl ?_
      have hsh := shr_u64 m (8 * (k - 1)) (8 * ((k : Int) - 1)) (by omega) (by omega)
      have h0 : (0 : Int) ≤ 8 * ((k : Int) - 1) := by omega
      refine wl_det (ow_shr rfl rfl h0 hsh) rfl ?_
      refine wl_det (ow_conv Try.underlying28 Try.underlying5 rfl (u8_of (m / 2 ^ (8 * (k - 1))))) rfl ?_
      refine wl_some (ow_bs1 Try.underlying27 zs5 rfl rfl rfl) rfl (fun b20 _ => ?_)
      refine wl_some (ow_append Try.underlying27 Try.underlying27 info5 rfl (by decide) rfl rfl (.there .here) (blk_reads [] _ [] 1 1 1 rfl rfl (by decide) (by decide)) (B_one [_]) (by simp; omega) (by simp; omega)) rfl (fun v2 _ => ?_)
      refine wl_det (ow_assign rfl) rfl ?_
      refine wl_nil ?_
      refine dn_block ?_
      refine dn_seq ?_
      refine wc_region ?_
      refine wl_det (ow_move rfl) rfl ?_
      refine wl_det (ow_sub rfl rfl (by first | exact IntWalk.i64_in _ (by omega) | rfl)) rfl ?_
      refine wl_det (ow_assign rfl) rfl ?_
      refine wl_nil ?_
      refine dn_back (k - 1, v2, ys ++ B [UInt8.ofNat (m / 2 ^ (8 * (k - 1)))]) ⟨by omega, ?_, ?_⟩ (by simp only; omega) ⟨rfl, rfl, lk_int rfl (by omega), trivial⟩ (fun w h => h.r1.tail)
      · rw [he, List.append_assoc, ← B_append]
        obtain ⟨j, rfl⟩ : ∃ j, k = j + 1 := ⟨k - 1, by omega⟩
        rfl
      · simp only [List.length_append, B_length, List.length_cons, List.length_nil]; omega
    · have hc11 := hc; simp only [decide_eq_true_eq, decide_eq_false_iff_not, Bool.not_eq_true', Bool.not_eq_false'] at hc
      refine wc_exit ?_
      refine dn_then_exit ?_
      refine dn_then_exit ?_
      refine dn_block_this ?_
      refine dn_seq ?_
      refine wc_seq ?_
      refine wc_region ?_
      refine wl_det (ow_move rfl) rfl ?_
      refine wl_det (ow_assign rfl) rfl ?_
      refine wl_nil ?_
      refine dn_seq ?_
      refine wc_ret ?_
      refine dn_ret1 rfl rfl (fun w hS => ⟨_, rfl, v1, trivial, rfl, ?_⟩)
      have : k = 0 := by omega
      subst this
      rw [he]
      simpa [be] using hS

set_option maxRecDepth 100000 in
theorem one_any {w0 w : World} {Γ : List HP} (v lv : Value) (xs : List Value) (l : List UInt8) (hr : Rd w0 Γ 1 lv (B l)) (hl : xs.length + l.length ≤ 140737488355328) (hS : Sat w0 (own v xs 5 1 :: Γ) w) :
    Calls Try.prog 25 #[v, lv] w (Ret (Some_ w0 (fun _ => True) id (fun v' => own v' (xs ++ B l) 5 1 :: Γ))) := by
  refine calls_of_wc Try.func25 rfl rfl (Nat.le_of_ble_eq_true rfl) ?_ w hS
  clear hS
  refine wc_seq ?_
  refine wc_region ?_
  refine wl_det (ow_assign rfl) rfl ?_
  refine wl_nil ?_
  refine dn_seq ?_
  refine wc_seq ?_
  refine wc_region ?_
  refine wl_det (ow_move rfl) rfl ?_
  refine wl_det (ow_move rfl) rfl ?_
  refine wl_some (ow_append Try.underlying27 Try.underlying26 info5 rfl (by decide) rfl rfl .here (hr.cons _) (B_one _) (by simp; omega) (by simp; omega)) rfl (fun v2 _ => ?_)
  refine wl_det (ow_assign rfl) rfl ?_
  refine wl_nil ?_
  refine dn_seq ?_
  refine wc_ret ?_
  exact dn_ret1 rfl rfl (fun w hS => ⟨_, rfl, v2, trivial, rfl, hS⟩)

set_option maxRecDepth 100000 in
theorem four_any {w0 w : World} {Γ : List HP} (v lv : Value) (xs : List Value) (l : List UInt32) (hr : Rd w0 Γ 1 lv (V32 l)) (hl : xs.length + 4 * l.length ≤ 140737488355000) (hS : Sat w0 (own v xs 5 1 :: Γ) w) :
    Calls Try.prog 26 #[v, lv] w (Ret (Some_ w0 (fun _ => True) id (fun v' => own v' (xs ++ B (fours l)) 5 1 :: Γ))) := by
  refine calls_of_wc Try.func26 rfl rfl (Nat.le_of_ble_eq_true rfl) ?_ w hS
  clear hS
  refine wc_seq ?_
  refine wc_region ?_
  refine wl_det (ow_assign rfl) rfl ?_
  refine wl_nil ?_
  refine dn_seq ?_
  refine wc_seq ?_
  refine wc_seq ?_
  refine wc_region ?_
  refine wl_det (ow_move rfl) rfl ?_
  refine wl_det (ow_len Try.underlying36 rfl (hr.cons _) (by decide) (m := l.length) (by simp)) rfl ?_
  refine wl_det (ow_move rfl) rfl ?_
  refine wl_nil ?_
  refine dn_seq ?_
  refine wc_block ?_
  refine wc_loop (α := Nat × Value) (fun x => x.1 ≤ l.length) (fun x => [(0, x.2), (7, lv), (8, .int .i64 l.length), (9, .int .i64 x.1)]) (fun x => own x.2 (xs ++ B ((l.take x.1).flatMap fun x => be x.toNat 4)) 5 1 :: Γ) (fun x => l.length - x.1) (0, v) (Nat.zero_le _) ⟨rfl, rfl, rfl, rfl, trivial⟩ (fun w h => by simpa using h) ?_
  · rintro ⟨i, v1⟩ hi0
    simp only at hi0 ⊢
    refine wc_seq ?_
    refine wc_region ?_
    refine wl_det (ow_ltI rfl rfl) rfl ?_
    refine wl_nil ?_
    refine dn_seq ?_
    refine wc_seq ?_
    refine wc_cond rfl (fun hc => ?_) (fun hc => ?_)
    · have hc10 := hc; simp only [decide_eq_true_eq, decide_eq_false_iff_not, Bool.not_eq_true', Bool.not_eq_false'] at hc
      refine wc_skip ?_
      refine dn_seq ?_
      refine wc_seq ?_
      refine wc_block ?_
      refine wc_seq ?_
      refine wc_region ?_
      refine wl_some (ow_indexAddr_rd Try.underlying36 size40 rfl rfl (hr.cons _) (by decide) (by omega) (by simp; omega)) rfl (fun ad had => ?_)
      have hi : i < l.length := by omega
      have hcell : ((V32 l).drop ((i : Int).toNat * 1)).take 1 = [.int .u32 ((l[i]).toNat : Int)] := by
        rw [take_one (by simpa using hi)]
        simp [V32]
      rw [hcell] at had
      have hx := (l[i]).toNat_lt
      refine wl_det (ow_load plain40 rfl had.cell) rfl ?_
      refine wl_det (ow_assign rfl) rfl ?_
      refine wl_nil ?_
      refine dn_seq ?_
      refine wc_region ?_
      refine wl_det (ow_move rfl) rfl ?_
      refine wl_det (ow_move rfl) rfl ?_
      refine wl_det (ow_conv Try.underlying40 Try.underlying28 rfl (by first | exact IntWalk.u64_in _ (by omega) | rfl)) rfl ?_
      have hlen : ((l.take i).flatMap fun x => be x.toNat 4).length ≤ 4 * l.length := by
        have := flatMap_take_le (fun x : UInt32 => be x.toNat 4) l i
        have h2 := fours_length l
        unfold fours at h2
        omega
      refine wl_some (ow_call call84 rfl (fun w hS => num_any _ _ (l[i]).toNat 4 (by decide) (by omega) (by simp only [List.length_append, B_length]; omega) hS)) rfl (fun v2 _ => ?_)
      refine wl_det (ow_assign rfl) rfl ?_
      refine wl_nil ?_
      refine dn_block ?_
      refine dn_seq ?_
      refine wc_region ?_
      refine wl_det (ow_add rfl rfl (by first | exact IntWalk.i64_in _ (by omega) | rfl)) rfl ?_
      refine wl_det (ow_move rfl) rfl ?_
      refine wl_nil ?_
      refine dn_back (i + 1, v2) (by simp only; omega) (by simp only; omega) ⟨rfl, rfl, rfl, lk_int rfl (by simp), trivial⟩ (fun w h => ?_)
      simp only
      rw [flatMap_take _ l i hi, B_append, ← List.append_assoc]
      exact h
    · have hc10 := hc; simp only [decide_eq_true_eq, decide_eq_false_iff_not, Bool.not_eq_true', Bool.not_eq_false'] at hc
      refine wc_exit ?_
      refine dn_then_exit ?_
      refine dn_then_exit ?_
      refine dn_block_this ?_
      refine dn_seq ?_
      refine wc_seq ?_
      refine wc_region ?_
      refine wl_det (ow_move rfl) rfl ?_
      refine wl_det (ow_assign rfl) rfl ?_
      refine wl_nil ?_
      refine dn_seq ?_
      refine wc_ret ?_
      refine dn_ret1 rfl rfl (fun w hS => ⟨_, rfl, v1, trivial, rfl, ?_⟩)
      have : i = l.length := by omega
      subst this
      rw [List.take_length] at hS
      exact hS

set_option maxRecDepth 100000 in
theorem eight_any {w0 w : World} {Γ : List HP} (v lv : Value) (xs : List Value) (l : List UInt64) (hr : Rd w0 Γ 1 lv (V64 l)) (hl : xs.length + 8 * l.length ≤ 140737488355000) (hS : Sat w0 (own v xs 5 1 :: Γ) w) :
    Calls Try.prog 24 #[v, lv] w (Ret (Some_ w0 (fun _ => True) id (fun v' => own v' (xs ++ B (eights l)) 5 1 :: Γ))) := by
  refine calls_of_wc Try.func24 rfl rfl (Nat.le_of_ble_eq_true rfl) ?_ w hS
  clear hS
  refine wc_seq ?_
  refine wc_region ?_
  refine wl_det (ow_assign rfl) rfl ?_
  refine wl_nil ?_
  refine dn_seq ?_
  refine wc_seq ?_
  refine wc_seq ?_
  refine wc_region ?_
  refine wl_det (ow_move rfl) rfl ?_
  refine wl_det (ow_len Try.underlying23 rfl (hr.cons _) (by decide) (m := l.length) (by simp)) rfl ?_
  refine wl_det (ow_move rfl) rfl ?_
  refine wl_nil ?_
  refine dn_seq ?_
  refine wc_block ?_
  refine wc_loop (α := Nat × Value) (fun x => x.1 ≤ l.length) (fun x => [(0, x.2), (7, lv), (8, .int .i64 l.length), (9, .int .i64 x.1)]) (fun x => own x.2 (xs ++ B ((l.take x.1).flatMap fun x => be x.toNat 8)) 5 1 :: Γ) (fun x => l.length - x.1) (0, v) (Nat.zero_le _) ⟨rfl, rfl, rfl, rfl, trivial⟩ (fun w h => by simpa using h) ?_
  · rintro ⟨i, v1⟩ hi0
    simp only at hi0 ⊢
    refine wc_seq ?_
    refine wc_region ?_
    refine wl_det (ow_ltI rfl rfl) rfl ?_
    refine wl_nil ?_
    refine dn_seq ?_
    refine wc_seq ?_
    refine wc_cond rfl (fun hc => ?_) (fun hc => ?_)
    · have hc10 := hc; simp only [decide_eq_true_eq, decide_eq_false_iff_not, Bool.not_eq_true', Bool.not_eq_false'] at hc
      refine wc_skip ?_
      refine dn_seq ?_
      refine wc_seq ?_
      refine wc_block ?_
      refine wc_seq ?_
      refine wc_region ?_
      refine wl_some (ow_indexAddr_rd Try.underlying23 size28 rfl rfl (hr.cons _) (by decide) (by omega) (by simp; omega)) rfl (fun ad had => ?_)
      have hi : i < l.length := by omega
      have hcell : ((V64 l).drop ((i : Int).toNat * 1)).take 1 = [.int .u64 ((l[i]).toNat : Int)] := by
        rw [take_one (by simpa using hi)]
        simp [V64]
      rw [hcell] at had
      have hx := (l[i]).toNat_lt
      refine wl_det (ow_load plain28 rfl had.cell) rfl ?_
      refine wl_det (ow_assign rfl) rfl ?_
      refine wl_nil ?_
      refine dn_seq ?_
      refine wc_region ?_
      refine wl_det (ow_move rfl) rfl ?_
      refine wl_det (ow_move rfl) rfl ?_
      have hlen : ((l.take i).flatMap fun x => be x.toNat 8).length ≤ 8 * l.length := by
        have := flatMap_take_le (fun x : UInt64 => be x.toNat 8) l i
        have h2 := eights_length l
        unfold eights at h2
        omega
      refine wl_some (ow_call call84 rfl (fun w hS => num_any _ _ (l[i]).toNat 8 (by decide) (by omega) (by simp only [List.length_append, B_length]; omega) hS)) rfl (fun v2 _ => ?_)
      refine wl_det (ow_assign rfl) rfl ?_
      refine wl_nil ?_
      refine dn_block ?_
      refine dn_seq ?_
      refine wc_region ?_
      refine wl_det (ow_add rfl rfl (by first | exact IntWalk.i64_in _ (by omega) | rfl)) rfl ?_
      refine wl_det (ow_move rfl) rfl ?_
      refine wl_nil ?_
      refine dn_back (i + 1, v2) (by simp only; omega) (by simp only; omega) ⟨rfl, rfl, rfl, lk_int rfl (by simp), trivial⟩ (fun w h => ?_)
      simp only
      rw [flatMap_take _ l i hi, B_append, ← List.append_assoc]
      exact h
    · have hc10 := hc; simp only [decide_eq_true_eq, decide_eq_false_iff_not, Bool.not_eq_true', Bool.not_eq_false'] at hc
      refine wc_exit ?_
      refine dn_then_exit ?_
      refine dn_then_exit ?_
      refine dn_block_this ?_
      refine dn_seq ?_
      refine wc_seq ?_
      refine wc_region ?_
      refine wl_det (ow_move rfl) rfl ?_
      refine wl_det (ow_assign rfl) rfl ?_
      refine wl_nil ?_
      refine dn_seq ?_
      refine wc_ret ?_
      refine dn_ret1 rfl rfl (fun w hS => ⟨_, rfl, v1, trivial, rfl, ?_⟩)
      have : i = l.length := by omega
      subst this
      rw [List.take_length] at hS
      exact hS

set_option maxRecDepth 100000 in
theorem osum_any {w0 w : World} {Γ : List HP} (v lv : Value) (xs : List Value) (l : List UInt8) (q : Nat) (hq : l.length = q * 32) (hr : Rd w0 Γ 32 lv (B l)) (hl : xs.length + l.length ≤ 140737488355000) (hS : Sat w0 (own v xs 5 1 :: Γ) w) :
    Calls Try.prog 27 #[v, lv] w (Ret (Some_ w0 (fun _ => True) id (fun v' => own v' (xs ++ B l) 5 1 :: Γ))) := by
  refine calls_of_wc Try.func27 rfl rfl (Nat.le_of_ble_eq_true rfl) ?_ w hS
  clear hS
  refine wc_seq ?_
  refine wc_region ?_
  refine wl_det (ow_assign rfl) rfl ?_
  refine wl_nil ?_
  refine dn_seq ?_
  refine wc_seq ?_
  refine wc_seq ?_
  refine wc_region ?_
  refine wl_det (ow_move rfl) rfl ?_
  refine wl_det (ow_len Try.underlying38 rfl (hr.cons _) (by decide) (m := q) (by simpa using hq)) rfl ?_
  refine wl_det (ow_move rfl) rfl ?_
  refine wl_nil ?_
  refine dn_seq ?_
  refine wc_block ?_
  refine wc_loop (α := Nat × Value) (fun x => x.1 ≤ q) (fun x => [(0, x.2), (7, lv), (8, .int .i64 q), (9, .int .i64 x.1)]) (fun x => own x.2 (xs ++ B (l.take (x.1 * 32))) 5 1 :: Γ) (fun x => q - x.1) (0, v) (Nat.zero_le _) ⟨rfl, rfl, rfl, rfl, trivial⟩ (fun w h => by simpa using h) ?_
  · rintro ⟨i, v1⟩ hi0
    simp only at hi0 ⊢
    refine wc_seq ?_
    refine wc_region ?_
    refine wl_det (ow_ltI rfl rfl) rfl ?_
    refine wl_nil ?_
    refine dn_seq ?_
    refine wc_seq ?_
    refine wc_cond rfl (fun hc => ?_) (fun hc => ?_)
    · have hc10 := hc; simp only [decide_eq_true_eq, decide_eq_false_iff_not, Bool.not_eq_true', Bool.not_eq_false'] at hc
      refine wc_skip ?_
      refine dn_seq ?_
      refine wc_seq ?_
      refine wc_block ?_
      refine wc_seq ?_
      refine wc_region ?_
      refine wl_some (ow_indexAddr_rd Try.underlying38 size85 rfl rfl (hr.cons _) (by decide) (by omega) (by simp; omega)) rfl (fun ad had => ?_)
      have hi : i < q := by omega
      have hcell : ((B l).drop ((i : Int).toNat * 32)).take 32 = B ((l.drop (i * 32)).take 32) := by
        rw [Int.toNat_natCast, B_drop, B_take]
      have hlen : ((l.drop (i * 32)).take 32).length = 32 := by simp; omega
      rw [hcell] at had
      refine wl_det (ow_load_rd _ rfl had Try.underlying85 rfl (by rw [size85, B_length, hlen])) rfl ?_
      refine wl_some (ow_alloc z85 zero85 rfl) rfl (fun b6 _ => ?_)
      refine wl_eff (ow_store_agg [] z85 [] rfl rfl (by rw [size85, B_length, hlen]) (B_one _) (by simp) rfl (by rw [B_length, hlen]; rfl) .here) ?_
      refine wl_nil ?_
      refine dn_seq ?_
      refine wc_region ?_
      refine wl_det (ow_move rfl) rfl ?_
      refine wl_det (ow_slice_arr (q := 0) Try.underlying85 size5 rfl (.none _ _) (.none _ _) (by decide) (by decide) (by decide) rfl) rfl ?_
      refine wl_some (ow_append Try.underlying27 Try.underlying26 info5 rfl (by decide) rfl rfl (.there .here) (blk_reads [] (B ((l.drop (i * 32)).take 32)) [] 32 32 1 (by simp) (by rw [B_length, hlen]) (by decide) (by decide)) (B_one _) (by simp [hlen]; omega) (by simp [hlen]; omega)) rfl (fun v2 _ => ?_)
      refine wl_det (ow_assign rfl) rfl ?_
      refine wl_nil ?_
      refine dn_block ?_
      refine dn_seq ?_
      refine wc_region ?_
      refine wl_det (ow_add rfl rfl (by first | exact IntWalk.i64_in _ (by omega) | rfl)) rfl ?_
      refine wl_det (ow_move rfl) rfl ?_
      refine wl_nil ?_
      refine dn_back (i + 1, v2) (by simp only; omega) (by simp only; omega) ⟨rfl, rfl, rfl, lk_int rfl (by simp), trivial⟩ (fun w h => ?_)
      simp only
      rw [show (i + 1) * 32 = i * 32 + 32 by omega, List.take_add, B_append, ← List.append_assoc]
      exact h.r1.tail
    · have hc10 := hc; simp only [decide_eq_true_eq, decide_eq_false_iff_not, Bool.not_eq_true', Bool.not_eq_false'] at hc
      refine wc_exit ?_
      refine dn_then_exit ?_
      refine dn_then_exit ?_
      refine dn_block_this ?_
      refine dn_seq ?_
      refine wc_seq ?_
      refine wc_region ?_
      refine wl_det (ow_move rfl) rfl ?_
      refine wl_det (ow_assign rfl) rfl ?_
      refine wl_nil ?_
      refine dn_seq ?_
      refine wc_ret ?_
      refine dn_ret1 rfl rfl (fun w hS => ⟨_, rfl, v1, trivial, rfl, ?_⟩)
      have : i = q := by omega
      subst this
      rw [← hq, List.take_length] at hS
      exact hS

set_option maxRecDepth 100000 in
theorem blob_any {w0 w : World} {Γ : List HP} (v lv : Value) (xs : List Value) (ps : List (List UInt8)) (hr : RdL w0 Γ lv ps) (hl : xs.length + (blobs ps).length ≤ 140737488355000) (hS : Sat w0 (own v xs 5 1 :: Γ) w) :
    Calls Try.prog 81 #[v, lv] w (Ret (Some_ w0 (fun _ => True) id (fun v' => own v' (xs ++ B (blobs ps)) 5 1 :: Γ))) := by
  obtain ⟨vs, hvl, hr, hin⟩ := hr
  have hge := blobs_ge ps
  refine calls_of_wc Try.func81 rfl rfl (Nat.le_of_ble_eq_true rfl) ?_ w hS
  clear hS
  refine wc_seq ?_
  refine wc_region ?_
  refine wl_det (ow_assign rfl) rfl ?_
  refine wl_nil ?_
  refine dn_seq ?_
  refine wc_seq ?_
  refine wc_seq ?_
  refine wc_region ?_
  refine wl_det (ow_move rfl) rfl ?_
  refine wl_det (ow_len Try.underlying105 rfl (hr.cons _) (by decide) (m := ps.length) (by simpa using hvl)) rfl ?_
  refine wl_det (ow_move rfl) rfl ?_
  refine wl_nil ?_
  refine dn_seq ?_
  refine wc_block ?_
  refine wc_loop (α := Nat × Value) (fun x => x.1 ≤ ps.length) (fun x => [(0, x.2), (7, lv), (8, .int .i64 ps.length), (9, .int .i64 x.1)]) (fun x => own x.2 (xs ++ B ((ps.take x.1).flatMap fun p => be p.length 4 ++ p)) 5 1 :: Γ) (fun x => ps.length - x.1) (0, v) (Nat.zero_le _) ⟨rfl, rfl, rfl, rfl, trivial⟩ (fun w h => by simpa using h) ?_
  · rintro ⟨i, v1⟩ hi0
    simp only at hi0 ⊢
    refine wc_seq ?_
    refine wc_region ?_
    refine wl_det (ow_ltI rfl rfl) rfl ?_
    refine wl_nil ?_
    refine dn_seq ?_
    refine wc_seq ?_
    refine wc_cond rfl (fun hc => ?_) (fun hc => ?_)
    · have hc10 := hc; simp only [decide_eq_true_eq, decide_eq_false_iff_not, Bool.not_eq_true', Bool.not_eq_false'] at hc
      refine wc_skip ?_
      refine dn_seq ?_
      refine wc_seq ?_
      refine wc_block ?_
      refine wc_seq ?_
      refine wc_region ?_
      refine wl_some (ow_indexAddr_rd Try.underlying105 size26 rfl rfl (hr.cons _) (by decide) (by omega) (by simp; omega)) rfl (fun ad had => ?_)
      have hi : i < ps.length := by omega
      have hi' : i < vs.length := by omega
      rw [take_one hi'] at had
      have hpi := hin i vs[i] ps[i] (List.getElem?_eq_getElem hi') (List.getElem?_eq_getElem hi)
      have hlen : ((ps.take (i + 1)).flatMap fun p => be p.length 4 ++ p).length ≤ (blobs ps).length := flatMap_take_le _ ps (i + 1)
      rw [flatMap_take _ ps i hi] at hlen
      simp only [List.length_append, be_length] at hlen
      refine wl_det (ow_load plain26 rfl had.cell) rfl ?_
      refine wl_det (ow_assign rfl) rfl ?_
      refine wl_nil ?_
      refine dn_seq ?_
      refine wc_region ?_
      refine wl_det (ow_move rfl) rfl ?_
      refine wl_det (ow_move rfl) rfl ?_
      refine wl_det (ow_len Try.underlying26 rfl (hpi.cons _) (by decide) (m := ps[i].length) (by simp)) rfl ?_
      refine wl_det (ow_conv Try.underlying3 Try.underlying40 rfl (u32_of _)) rfl ?_
      refine wl_some (ow_bs1 Try.underlying36 zs40 rfl rfl rfl) rfl (fun b17 _ => ?_)
      refine wl_pieces (fun w h => h.r1) ?_
      refine wl_some (ow_call call26 rfl (fun w hS => four_any _ _ _ [UInt32.ofNat ps[i].length] (blk_reads [] _ [] 1 1 1 rfl rfl (by decide) (by decide)) (by simp only [List.length_append, B_length, List.length_cons, List.length_nil]; omega) hS)) rfl (fun v2 _ => ?_)
      have hf : fours [UInt32.ofNat ps[i].length] = be ps[i].length 4 := by
        simp only [fours, List.flatMap_cons, List.flatMap_nil, List.append_nil, UInt32.toNat_ofNat']
        exact be_mod _ 4 (by decide)
      refine wl_det (ow_move rfl) rfl ?_
      refine wl_some (ow_append Try.underlying27 Try.underlying26 info5 rfl (by decide) rfl rfl .here ((hpi.cons _).cons _) (B_one _) (by rw [hf]; simp only [List.length_append, B_length, be_length]; omega) (by rw [hf]; simp only [List.length_append, B_length, be_length]; omega)) rfl (fun v3 _ => ?_)
      refine wl_det (ow_assign rfl) rfl ?_
      refine wl_nil ?_
      refine dn_block ?_
      refine dn_seq ?_
      refine wc_region ?_
      refine wl_det (ow_add rfl rfl (by first | exact IntWalk.i64_in _ (by omega) | rfl)) rfl ?_
      refine wl_det (ow_move rfl) rfl ?_
      refine wl_nil ?_
      refine dn_back (i + 1, v3) (by simp only; omega) (by simp only; omega) ⟨rfl, rfl, rfl, lk_int rfl (by simp), trivial⟩ (fun w h => ?_)
      simp only
      rw [flatMap_take _ ps i hi, B_append, B_append, ← List.append_assoc, ← List.append_assoc, ← hf]
      exact h.r1.tail
    · have hc10 := hc; simp only [decide_eq_true_eq, decide_eq_false_iff_not, Bool.not_eq_true', Bool.not_eq_false'] at hc
      refine wc_exit ?_
      refine dn_then_exit ?_
      refine dn_then_exit ?_
      refine dn_block_this ?_
      refine dn_seq ?_
      refine wc_seq ?_
      refine wc_region ?_
      refine wl_det (ow_move rfl) rfl ?_
      refine wl_det (ow_assign rfl) rfl ?_
      refine wl_nil ?_
      refine dn_seq ?_
      refine wc_ret ?_
      refine dn_ret1 rfl rfl (fun w hS => ⟨_, rfl, v1, trivial, rfl, ?_⟩)
      have : i = ps.length := by omega
      subst this
      rw [List.take_length] at hS
      exact hS

end Go.Proofs.Toll
