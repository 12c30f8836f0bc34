/- The walks of octet's readers, at a reader that has what is asked. Printed by tools/gen.py out of tools/octin2.an.py. -/
import Derived.Test.YthcejmfaiekbeaaRROctin
import Derived.Test.YthcejmfaiekbeaaRRBytes2
set_option linter.unusedVariables false
set_option linter.unusedSimpArgs false
namespace Go.Proofs.Toll
open Go Go.Toll Go.RowKit
set_option maxRecDepth 100000 in
theorem of_any {w0 w : World} {Γ : List HP} (lv : Value) (l : List UInt8) (hr : Rd w0 Γ 1 lv (B l)) (hl : l.length ≤ 140737488355328) (hS : Sat w0 Γ w) :
    Calls Try.prog 47 #[lv] w (Ret (Some_ w0 (fun x : Nat × Value => x.2.oneCell' = true) (fun x => .pointer (some ⟨x.1, 0, none⟩)) (fun x => blk x.1 [x.2, .int .i64 0] 161 :: own x.2 (B l) 5 1 :: Γ))) := by
  refine calls_of_wc Try.func47 rfl rfl (Nat.le_of_ble_eq_true rfl) ?_ w hS
  clear hS
  refine wc_seq ?_
  refine wc_region ?_
  refine wl_det (ow_assign rfl) rfl ?_
  refine wl_nil ?_
  refine dn_seq ?_
  refine wc_seq ?_
  refine wc_region ?_
  refine wl_some (ow_bs0 Try.underlying26 zs5) rfl (fun b3 _ => ?_)
  refine wl_det (ow_move rfl) rfl ?_
  refine wl_pieces (fun w h => h.head (own_of_blk [] [] (k := 0) (sz := 1) rfl rfl (by decide))) ?_
  refine wl_some (ow_append Try.underlying26 Try.underlying26 info5 rfl (by decide) rfl rfl .here (hr.cons _) (B_one _) (by simp; omega) (by simp; omega)) rfl (fun v5 _ => ?_)
  refine wl_fact (p := v5.oneCell' = true) (fun w h => own_one h) (fun h5 => ?_)
  refine wl_det (ow_build (places := [(0, 1), (1, 1)]) (vs := [(0, v5)]) [v5, .int .i64 0] Try.underlying161 zero161 (by kernel_rfl) rfl (by simp [Instr.fill, cells_of_one h5])) rfl ?_
  refine wl_some (ow_box [v5, .int .i64 0] rfl rfl) rfl (fun b7 _ => ?_)
  refine wl_det (ow_assign rfl) rfl ?_
  refine wl_nil ?_
  refine dn_seq ?_
  refine wc_ret ?_
  exact dn_ret1 rfl rfl (fun w hS => ⟨_, rfl, (b7, v5), h5, rfl, by simpa using hS⟩)

set_option maxRecDepth 100000 in
theorem bad_at {w0 w : World} {Γ : List HP} (b : Nat) (lv : Value) (er : Int) (hS : Sat w0 (blk b [lv, .int .i64 er] 161 :: Γ) w) :
    Calls Try.prog 40 #[.pointer (some ⟨b, 0, none⟩)] w (Ret (Det w0 (.int .i64 er) (blk b [lv, .int .i64 er] 161 :: Γ))) := by
  refine calls_of_wc Try.func40 rfl rfl (Nat.le_of_ble_eq_true rfl) ?_ w hS
  clear hS
  refine wc_seq ?_
  refine wc_region ?_
  refine wl_det (ow_assign rfl) rfl ?_
  refine wl_nil ?_
  refine dn_seq ?_
  refine wc_seq ?_
  refine wc_seq ?_
  refine wc_region ?_
  refine wl_det (ow_move rfl) rfl ?_
  refine wl_det (ow_eq_nil Try.underlying81 rfl rfl rfl) rfl ?_
  refine wl_nil ?_
  refine dn_seq ?_
  refine wc_cond_false rfl rfl ?_
  refine wc_skip ?_
  refine dn_seq ?_
  refine wc_seq ?_
  refine wc_region ?_
  refine wl_det (ow_move rfl) rfl ?_
  refine wl_det (ow_nilCheck rfl) rfl ?_
  refine wl_det (ow_field0 1 Try.underlying161 rfl size59 rfl) rfl ?_
  refine wl_det (ow_load plain59 rfl (cellOf (by first | exact .here | exact .there .here | exact .there (.there .here) | exact .there (.there (.there .here)) | exact .there (.there (.there (.there .here))) | exact .there (.there (.there (.there (.there .here))))) rfl)) rfl ?_
  refine wl_det (ow_assign rfl) rfl ?_
  refine wl_nil ?_
  refine dn_seq ?_
  refine wc_ret ?_
  exact dn_ret1 rfl rfl (fun w hS => ⟨_, rfl, rfl, hS⟩)

set_option maxRecDepth 100000 in
theorem left_at {w0 w : World} {Γ : List HP} (b : Nat) (lv : Value) (rest : List UInt8) (hone : lv.oneCell' = true) (hr : Rd w0 Γ 1 lv (B rest)) (hS : Sat w0 (blk b [lv, .int .i64 0] 161 :: Γ) w) :
    Calls Try.prog 39 #[.pointer (some ⟨b, 0, none⟩)] w (Ret (Det w0 (.int .i64 rest.length) (blk b [lv, .int .i64 0] 161 :: Γ))) := by
  refine calls_of_wc Try.func39 rfl rfl (Nat.le_of_ble_eq_true rfl) ?_ w hS
  clear hS
  refine wc_seq ?_
  refine wc_region ?_
  refine wl_det (ow_assign rfl) rfl ?_
  refine wl_nil ?_
  refine dn_seq ?_
  refine wc_seq ?_
  refine wc_seq ?_
  refine wc_region ?_
  refine wl_det (ow_move rfl) rfl ?_
  refine wl_det (ow_eq_nil Try.underlying81 rfl rfl rfl) rfl ?_
  refine wl_nil ?_
  refine dn_seq ?_
  refine wc_cond_false rfl rfl ?_
  refine wc_skip ?_
  refine dn_seq ?_
  refine wc_seq ?_
  refine wc_region ?_
  refine wl_det (ow_move rfl) rfl ?_
  refine wl_det (ow_nilCheck rfl) rfl ?_
  refine wl_det (ow_field0 0 Try.underlying161 rfl size26 rfl) rfl ?_
  refine wl_det (ow_load plain26 rfl (cellOf (by first | exact .here | exact .there .here | exact .there (.there .here) | exact .there (.there (.there .here)) | exact .there (.there (.there (.there .here))) | exact .there (.there (.there (.there (.there .here))))) rfl)) rfl ?_
  refine wl_det (ow_len Try.underlying26 rfl (hr.cons _) (by decide) (m := rest.length) (by simp)) rfl ?_
  refine wl_det (ow_assign rfl) rfl ?_
  refine wl_nil ?_
  refine dn_seq ?_
  refine wc_ret ?_
  exact dn_ret1 rfl rfl (fun w hS => ⟨_, rfl, rfl, hS⟩)

set_option maxRecDepth 100000 in
theorem cut_at {w0 w : World} {Γ : List HP} (b : Nat) (lv : Value) (rest : List UInt8) (k : Nat) (hk : k ≤ rest.length) (hone : lv.oneCell' = true) (hr : Rd w0 Γ 1 lv (B rest)) (hS : Sat w0 (blk b [lv, .int .i64 0] 161 :: Γ) w) :
    Calls Try.prog 91 #[.pointer (some ⟨b, 0, none⟩), .int .i64 (k : Int)] w (Ret (Det w0 (cutV lv 0 k 1) (blk b [cutV lv k rest.length 1, .int .i64 0] 161 :: Γ))) := by
  refine calls_of_wc Try.func91 rfl rfl (Nat.le_of_ble_eq_true rfl) ?_ w hS
  clear hS
  refine wc_seq ?_
  refine wc_region ?_
  refine wl_det (ow_assign rfl) rfl ?_
  refine wl_nil ?_
  refine dn_seq ?_
  refine wc_seq ?_
  refine wc_seq ?_
  refine wc_region ?_
  refine wl_det (ow_move rfl) rfl ?_
  refine wl_det_call (ow_call call40 rfl (fun w hS => bad_at b lv 0 hS)) rfl ?_
  refine wl_det (ow_neI rfl rfl) rfl ?_
  refine wl_nil ?_
  refine dn_seq ?_
  refine wc_cond_false rfl rfl ?_
  refine wc_skip ?_
  refine dn_seq ?_
  refine wc_seq ?_
  refine wc_seq ?_
  refine wc_region ?_
  refine wl_det (ow_move rfl) rfl ?_
  refine wl_det (ow_move rfl) rfl ?_
  refine wl_det (ow_nilCheck rfl) rfl ?_
  refine wl_det (ow_field0 0 Try.underlying161 rfl size26 rfl) rfl ?_
  refine wl_det (ow_load plain26 rfl (cellOf (by first | exact .here | exact .there .here | exact .there (.there .here) | exact .there (.there (.there .here)) | exact .there (.there (.there (.there .here))) | exact .there (.there (.there (.there (.there .here))))) rfl)) rfl ?_
  refine wl_det (ow_len Try.underlying26 rfl (hr.cons _) (by decide) (m := rest.length) (by simp)) rfl ?_
  refine wl_det (ow_gtI rfl rfl) rfl ?_
  refine wl_nil ?_
  refine dn_seq ?_
  refine wc_cond_false rfl (by simp; omega) ?_
  refine wc_skip ?_
  refine dn_seq ?_
  refine wc_seq ?_
  refine wc_region ?_
  refine wl_det (ow_move rfl) rfl ?_
  refine wl_det (ow_nilCheck rfl) rfl ?_
  refine wl_det (ow_field0 0 Try.underlying161 rfl size26 rfl) rfl ?_
  refine wl_det (ow_load plain26 rfl (cellOf (by first | exact .here | exact .there .here | exact .there (.there .here) | exact .there (.there (.there .here)) | exact .there (.there (.there (.there .here))) | exact .there (.there (.there (.there (.there .here))))) rfl)) rfl ?_
  refine wl_det (ow_move rfl) rfl ?_
  refine wl_det (ow_slice_det (m := rest.length) (h := k) Try.underlying26 size5 rfl (hr.cons _) (by decide) (by simp) (.none _ _) (.at rfl rfl) (Nat.zero_le _) hk) rfl ?_
  refine wl_det (ow_assign rfl) rfl ?_
  refine wl_nil ?_
  refine dn_seq ?_
  refine wc_seq ?_
  refine wc_region ?_
  refine wl_det (ow_move rfl) rfl ?_
  refine wl_det (ow_move rfl) rfl ?_
  refine wl_det (ow_nilCheck rfl) rfl ?_
  refine wl_det (ow_field0 0 Try.underlying161 rfl size26 rfl) rfl ?_
  refine wl_det (ow_load plain26 rfl (cellOf (by first | exact .here | exact .there .here | exact .there (.there .here) | exact .there (.there (.there .here)) | exact .there (.there (.there (.there .here))) | exact .there (.there (.there (.there (.there .here))))) rfl)) rfl ?_
  refine wl_det (ow_move rfl) rfl ?_
  refine wl_det (ow_slice_det (m := rest.length) (l := k) Try.underlying26 size5 rfl (hr.cons _) (by decide) (by simp) (.at rfl rfl) (.none _ _) hk (Nat.le_refl _)) rfl ?_
  refine wl_det (ow_nilCheck rfl) rfl ?_
  refine wl_det (ow_field0 0 Try.underlying161 rfl size26 rfl) rfl ?_
  refine wl_eff (ow_store plain26 size26 rfl rfl (cutV_one hone) (by simp) .here) ?_
  refine wl_nil ?_
  refine dn_seq ?_
  refine wc_seq ?_
  refine wc_region ?_
  refine wl_det (ow_move rfl) rfl ?_
  refine wl_det (ow_assign rfl) rfl ?_
  refine wl_nil ?_
  refine dn_seq ?_
  refine wc_ret ?_
  exact dn_ret1 rfl rfl (fun w hS => ⟨_, rfl, rfl, hS⟩)

set_option maxRecDepth 100000 in
theorem num_at {w0 w : World} {Γ : List HP} (b : Nat) (lv : Value) (rest : List UInt8) (k : Nat) (hk : k ≤ rest.length) (hk8 : k ≤ 8) (hone : lv.oneCell' = true) (hr : Rd w0 Γ 1 lv (B rest)) (hS : Sat w0 (blk b [lv, .int .i64 0] 161 :: Γ) w) :
    Calls Try.prog 90 #[.pointer (some ⟨b, 0, none⟩), .int .i64 (k : Int)] w (Ret (Det w0 (.int .u64 (nbe (rest.take k))) (blk b [cutV lv k rest.length 1, .int .i64 0] 161 :: Γ))) := by
  have hcut := rd_take k hr hk
  refine calls_of_wc Try.func90 rfl rfl (Nat.le_of_ble_eq_true rfl) ?_ w hS
  clear hS
  refine wc_seq ?_
  refine wc_region ?_
  refine wl_det (ow_assign rfl) rfl ?_
  refine wl_nil ?_
  refine dn_seq ?_
  refine wc_seq ?_
  refine wc_region ?_
  refine wl_det (ow_assign rfl) rfl ?_
  refine wl_nil ?_
  refine dn_seq ?_
  refine wc_seq ?_
  refine wc_seq ?_
  refine wc_region ?_
  refine wl_det (ow_move rfl) rfl ?_
  refine wl_det (ow_move rfl) rfl ?_
  refine wl_det_call (ow_call call91 rfl (fun w hS => cut_at b lv rest k hk hone hr hS)) rfl ?_
  refine wl_det (ow_len Try.underlying26 rfl (hcut.cons _) (by decide) (m := k) (by simp; omega)) rfl ?_
  refine wl_det (ow_move rfl) rfl ?_
  refine wl_nil ?_
  refine dn_seq ?_
  refine wc_block ?_
  refine wc_loop (α := Nat) (fun i => i ≤ k) (fun i => [(5, .int .u64 (nbe ((rest.take k).take i))), (10, cutV lv 0 k 1), (11, .int .i64 k), (12, .int .i64 i)]) (fun i => blk b [cutV lv k rest.length 1, .int .i64 0] 161 :: Γ) (fun i => k - i) 0 (Nat.zero_le _) ⟨rfl, rfl, rfl, rfl, trivial⟩ (fun w h => h) ?_
  · rintro i hi0
    refine wc_seq ?_
    refine wc_region ?_
    refine wl_det (ow_ltI rfl rfl) rfl ?_
    refine wl_nil ?_
    refine dn_seq ?_
    refine wc_seq ?_
    refine wc_cond rfl (fun hc => ?_) (fun hc => ?_)
    · have hc13 := hc; simp only [decide_eq_true_eq, decide_eq_false_iff_not, Bool.not_eq_true', Bool.not_eq_false'] at hc
      refine wc_skip ?_
      refine dn_seq ?_
      refine wc_seq ?_
      refine wc_block ?_
      refine wc_seq ?_
      refine wc_region ?_
      refine wl_some (ow_indexAddr_rd Try.underlying26 size5 rfl rfl (hcut.cons _) (by decide) (by omega) (by simp; omega)) rfl (fun ad had => ?_)
      have hi : i < k := by omega
      have hi2 : i < (rest.take k).length := by simp; omega
      have hcell : ((B (rest.take k)).drop ((i : Int).toNat * 1)).take 1 = [.int .u8 ((((rest.take k)[i])).toNat : Int)] := by
        rw [take_one (by simpa using hi2)]
        simp [B]
      rw [hcell] at had
      have hbyte := ((rest.take k)[i]).toNat_lt
      have hacc := nbe_take_lt (rest.take k) i 7 (by omega)
      refine wl_det (ow_load plain5 rfl had.cell) rfl ?_
      refine wl_det (ow_assign rfl) rfl ?_
      refine wl_nil ?_
      refine dn_seq ?_
      refine wc_region ?_
      refine wl_det (ow_move rfl) rfl ?_
      refine wl_det (ow_shl rfl rfl (by decide) (shl8_u64 _ (by omega))) rfl ?_
      refine wl_det (ow_move rfl) rfl ?_
      refine wl_det (ow_conv Try.underlying5 Try.underlying28 rfl (IntWalk.u64_in _ (by omega))) rfl ?_
      refine wl_det (ow_bits (by simp) rfl rfl ((bits_or64 _ _ (by omega) (by omega)).trans (congrArg Nat.cast (or_byte _ _ (by omega))))) rfl ?_
      refine wl_det (ow_assign rfl) rfl ?_
      refine wl_nil ?_
      refine dn_block ?_
      refine dn_seq ?_
      refine wc_region ?_
      refine wl_det (ow_add rfl rfl (by first | exact IntWalk.i64_in _ (by omega) | rfl)) rfl ?_
      refine wl_det (ow_move rfl) rfl ?_
      refine wl_nil ?_
      refine dn_back (i + 1) (by omega) (by omega) ⟨lk_int rfl (by rw [List.take_succ_eq_append_getElem hi2, nbe_snoc]), rfl, rfl, lk_int rfl (by simp), trivial⟩ (fun w h => h)
    · have hc13 := hc; simp only [decide_eq_true_eq, decide_eq_false_iff_not, Bool.not_eq_true', Bool.not_eq_false'] at hc
      refine wc_exit ?_
      refine dn_then_exit ?_
      refine dn_then_exit ?_
      refine dn_block_this ?_
      refine dn_seq ?_
      refine wc_seq ?_
      refine wc_region ?_
      refine wl_det (ow_move rfl) rfl ?_
      refine wl_det (ow_assign rfl) rfl ?_
      refine wl_nil ?_
      refine dn_seq ?_
      refine wc_ret ?_
      refine dn_ret1 rfl rfl (fun w hS => ⟨_, rfl, ?_, hS⟩)
      have : i = k := by omega
      subst this
      rw [List.take_of_length_le (by simp; omega)]

set_option maxRecDepth 100000 in
theorem one_at {w0 w : World} {Γ : List HP} (b : Nat) (lv : Value) (rest : List UInt8) (hk : 1 ≤ rest.length) (hone : lv.oneCell' = true) (hr : Rd w0 Γ 1 lv (B rest)) (hS : Sat w0 (blk b [lv, .int .i64 0] 161 :: Γ) w) :
    Calls Try.prog 34 #[.pointer (some ⟨b, 0, none⟩)] w (Ret (Det w0 (.int .u8 (nbe (rest.take 1))) (blk b [cutV lv 1 rest.length 1, .int .i64 0] 161 :: Γ))) := by
  refine calls_of_wc Try.func34 rfl rfl (Nat.le_of_ble_eq_true rfl) ?_ w hS
  clear hS
  refine wc_seq ?_
  refine wc_region ?_
  refine wl_det (ow_assign rfl) rfl ?_
  refine wl_nil ?_
  refine dn_seq ?_
  refine wc_seq ?_
  refine wc_region ?_
  refine wl_det (ow_move rfl) rfl ?_
  refine wl_det_call (ow_call call90 rfl (fun w hS => num_at b lv rest 1 hk (by decide) hone hr hS)) rfl ?_
  have hlt := nbe_take_lt rest 1 1 (Nat.le_refl _)
  refine wl_det (ow_conv Try.underlying28 Try.underlying5 rfl (IntWalk.u8_in _ (by omega))) rfl ?_
  refine wl_det (ow_assign rfl) rfl ?_
  refine wl_nil ?_
  refine dn_seq ?_
  refine wc_ret ?_
  exact dn_ret1 rfl rfl (fun w hS => ⟨_, rfl, rfl, hS⟩)

set_option maxRecDepth 100000 in
theorem four_at {w0 w : World} {Γ : List HP} (b : Nat) (lv : Value) (rest : List UInt8) (hk : 4 ≤ rest.length) (hone : lv.oneCell' = true) (hr : Rd w0 Γ 1 lv (B rest)) (hS : Sat w0 (blk b [lv, .int .i64 0] 161 :: Γ) w) :
    Calls Try.prog 48 #[.pointer (some ⟨b, 0, none⟩)] w (Ret (Det w0 (.int .u32 (nbe (rest.take 4))) (blk b [cutV lv 4 rest.length 1, .int .i64 0] 161 :: Γ))) := by
  refine calls_of_wc Try.func48 rfl rfl (Nat.le_of_ble_eq_true rfl) ?_ w hS
  clear hS
  refine wc_seq ?_
  refine wc_region ?_
  refine wl_det (ow_assign rfl) rfl ?_
  refine wl_nil ?_
  refine dn_seq ?_
  refine wc_seq ?_
  refine wc_region ?_
  refine wl_det (ow_move rfl) rfl ?_
  refine wl_det_call (ow_call call90 rfl (fun w hS => num_at b lv rest 4 hk (by decide) hone hr hS)) rfl ?_
  have hlt := nbe_take_lt rest 4 4 (Nat.le_refl _)
  refine wl_det (ow_conv Try.underlying28 Try.underlying40 rfl (IntWalk.u32_in _ (by omega))) rfl ?_
  refine wl_det (ow_assign rfl) rfl ?_
  refine wl_nil ?_
  refine dn_seq ?_
  refine wc_ret ?_
  exact dn_ret1 rfl rfl (fun w hS => ⟨_, rfl, rfl, hS⟩)

set_option maxRecDepth 100000 in
theorem eight_at {w0 w : World} {Γ : List HP} (b : Nat) (lv : Value) (rest : List UInt8) (hk : 8 ≤ rest.length) (hone : lv.oneCell' = true) (hr : Rd w0 Γ 1 lv (B rest)) (hS : Sat w0 (blk b [lv, .int .i64 0] 161 :: Γ) w) :
    Calls Try.prog 35 #[.pointer (some ⟨b, 0, none⟩)] w (Ret (Det w0 (.int .u64 (nbe (rest.take 8))) (blk b [cutV lv 8 rest.length 1, .int .i64 0] 161 :: Γ))) := by
  refine calls_of_wc Try.func35 rfl rfl (Nat.le_of_ble_eq_true rfl) ?_ w hS
  clear hS
  refine wc_seq ?_
  refine wc_region ?_
  refine wl_det (ow_assign rfl) rfl ?_
  refine wl_nil ?_
  refine dn_seq ?_
  refine wc_seq ?_
  refine wc_region ?_
  refine wl_det (ow_move rfl) rfl ?_
  refine wl_det_call (ow_call call90 rfl (fun w hS => num_at b lv rest 8 hk (by decide) hone hr hS)) rfl ?_
  refine wl_det (ow_assign rfl) rfl ?_
  refine wl_nil ?_
  refine dn_seq ?_
  refine wc_ret ?_
  exact dn_ret1 rfl rfl (fun w hS => ⟨_, rfl, rfl, hS⟩)

set_option maxRecDepth 100000 in
theorem sum_at {w0 w : World} {Γ : List HP} (b : Nat) (lv : Value) (rest : List UInt8) (hk32 : 32 ≤ rest.length) (hone : lv.oneCell' = true) (hr : Rd w0 Γ 1 lv (B rest)) (hS : Sat w0 (blk b [lv, .int .i64 0] 161 :: Γ) w) :
    Calls Try.prog 36 #[.pointer (some ⟨b, 0, none⟩)] w (Ret (Det w0 (.agg (B (rest.take 32)).toArray) (blk b [cutV lv 32 rest.length 1, .int .i64 0] 161 :: Γ))) := by
  have hlen : (B (rest.take 32)).length = 32 := by simp; omega
  have hcopy : [] ++ ((B (rest.take 32)).take (Nat.min (B (rest.take 32)).length 32) ++ []) = B (rest.take 32) := by rw [hlen, List.nil_append, List.append_nil, List.take_of_length_le (by rw [hlen]; decide)]
  have hrd := fun Δ : List HP => (((rd_take 32 hr hk32).cons (blk b [cutV lv 32 rest.length 1, .int .i64 0] 161)).inFrm Δ)
  refine calls_of_wc Try.func36 rfl rfl (Nat.le_of_ble_eq_true rfl) ?_ w hS
  clear hS
  refine wc_seq ?_
  refine wc_region ?_
  refine wl_some (ow_alloc z85 zero85 rfl) rfl (fun b2 _ => ?_)
  refine wl_nil ?_
  refine dn_seq ?_
  refine wc_seq ?_
  refine wc_region ?_
  refine wl_some (ow_alloc z85 zero85 rfl) rfl (fun b3 _ => ?_)
  refine wl_nil ?_
  refine dn_seq ?_
  refine wc_seq ?_
  refine wc_weak (ρ' := [(0, .pointer (some ⟨b, 0, none⟩)), (2, .pointer (some ⟨b2, 0, none⟩)), (3, .pointer (some ⟨b3, 0, none⟩))]) (Γ' := [blk b3 z85 85, blk b2 z85 85, blk b [lv, .int .i64 0] 161, frm Γ]) ?_ ⟨rfl, rfl, rfl, trivial⟩ (fun w h => Sat.fold [blk b3 z85 85, blk b2 z85 85, blk b [lv, .int .i64 0] 161] h)
  refine wc_flow (N := [⟨true, [], [], [3], [], [], [], [0], fun u => u = [.slice (some ⟨b3, 0, none⟩) 32 32], fun _ => tt⟩,
      ⟨true, [], [], [0], [], [], [], [1], fun u => u = [.pointer (some ⟨b, 0, none⟩)], fun _ => tt⟩,
      ⟨true, [1], [1], [], [1], [6, 7], [], [2], fun u => u = [cutV lv 0 32 1], fun _ => frm (blk b [cutV lv 32 rest.length 1, .int .i64 0] 161 :: Γ)⟩,
      ⟨true, [0, 1, 2], [0, 2], [], [0, 1, 2], [4], [2], [3], fun _ => True, fun _ => blk b3 (B (rest.take 32)) 85⟩]) [] [2, 3] [0, 1, 2, 3, 5] (by kernel_rfl) (by kernel_rfl) (by kernel_rfl) ?_ (fun V hV => ?_)
  · refine ⟨?_, ?_, ?_, ?_, trivial⟩
    · refine obl_run rfl fun V hk => ?_
      refine ⟨noGuard rfl, fun Δ' => ?_⟩
      refine ow_mono (ow_weak (ρ' := [(3, .pointer (some ⟨b3, 0, none⟩))]) ⟨rfl, trivial⟩ (ow_slice_arr (q := 0) Try.underlying85 size5 rfl (.none _ _) (.none _ _) (by decide) (by decide) (by decide) rfl)) (fun v w' h => ?_)
      obtain ⟨e, hS⟩ := h
      subst e
      exact ⟨rfl, Sat.add_tt hS⟩
    · refine obl_run rfl fun V hk => ?_
      refine ⟨noGuard rfl, fun Δ' => ?_⟩
      refine ow_mono (ow_weak (ρ' := [(0, .pointer (some ⟨b, 0, none⟩))]) ⟨rfl, trivial⟩ (ow_move rfl)) (fun v w' h => ?_)
      obtain ⟨e, hS⟩ := h
      subst e
      exact ⟨rfl, Sat.add_tt hS⟩
    · refine obl_run rfl fun V hk => ?_
      have k1 : V 1 = .pointer (some ⟨b, 0, none⟩) := one_eq (hk 1 (show 1 ∈ [1] by decide))
      refine ⟨noGuard rfl, fun Δ' => ?_⟩
      refine ow_mono (ow_weak (ρ' := [(5, .pointer (some ⟨b, 0, none⟩))]) ⟨congrArg some k1, trivial⟩ (ow_pieces (fun w h => Sat.scatter1 h) (ow_call call91 rfl (fun w hS => cut_at b lv rest 32 hk32 hone (hr.left _) hS)))) (fun v w' h => ?_)
      obtain ⟨rfl, hS⟩ := h
      exact ⟨rfl, Sat.gather (Γ := _ :: Γ) hS⟩
    · refine obl_run rfl fun V hk => ?_
      have k0 : V 0 = .slice (some ⟨b3, 0, none⟩) 32 32 := one_eq (hk 0 (show 0 ∈ [0, 1, 2] by decide))
      have k2 : V 2 = cutV lv 0 32 1 := one_eq (hk 2 (show 2 ∈ [0, 1, 2] by decide))
      refine ⟨noGuard rfl, fun Δ' => ?_⟩
      refine ow_mono (ow_weak (ρ' := [(4, .slice (some ⟨b3, 0, none⟩) 32 32), (6, cutV lv 0 32 1)]) ⟨congrArg some k0, congrArg some k2, trivial⟩ (ow_copy (news := B (rest.take 32)) [] z85 [] Try.underlying26 size5 rfl rfl ((hrd _).cons _) (B_one _) rfl rfl (by simp; omega) .here)) (fun v w' h => ?_)
      obtain ⟨rfl, hS⟩ := h
      exact ⟨trivial, hS.head (fun h hh => hcopy ▸ hh)⟩
  refine dn_weak (ρ' := [(2, .pointer (some ⟨b2, 0, none⟩)), (3, .pointer (some ⟨b3, 0, none⟩))]) ⟨rfl, rfl, trivial⟩ (Γ' := [frm (blk b [cutV lv 32 rest.length 1, .int .i64 0] 161 :: Γ), blk b3 (B (rest.take 32)) 85, blk b2 z85 85]) (fun w h => h.tail.tail) ?_
  refine dn_seq ?_
  refine wc_seq ?_
  refine wc_region ?_
  refine wl_det (ow_load_agg (B (rest.take 32)) rfl (wholeOf (.there .here)) Try.underlying85 rfl (by rw [size85, hlen])) rfl ?_
  refine wl_eff (ow_store_agg [] z85 [] rfl rfl (by rw [size85, hlen]) (B_one _) (by simp) rfl (by rw [hlen]; rfl) (.there (.there .here))) ?_
  simp only [List.nil_append, List.append_nil]
  refine wl_nil ?_
  refine dn_seq ?_
  refine wc_ret ?_
  exact dn_ret_cell rfl (B (rest.take 32)) rfl (wholeOf (.there (.there .here))) Try.underlying85 rfl (by rw [size85, hlen]) (fun w hS => ⟨_, rfl, rfl, hS.scatter.left⟩)

set_option maxRecDepth 100000 in
theorem blob_at {w0 w : World} {Γ : List HP} (b : Nat) (lv : Value) (rest : List UInt8) (m : Int) (p tl : List UInt8) (hrest : rest = be p.length 4 ++ (p ++ tl)) (hp : p.length ≤ 4096) (hm : (p.length : Int) ≤ m) (hone : lv.oneCell' = true) (hr : Rd w0 Γ 1 lv (B rest)) (hS : Sat w0 (blk b [lv, .int .i64 0] 161 :: Γ) w) :
    Calls Try.prog 37 #[.pointer (some ⟨b, 0, none⟩), .int .i64 m] w (Ret (Some_ w0 (fun _ => True) id (fun v => own v (B p) 5 1 :: blk b [cutV (cutV lv 4 rest.length 1) p.length (rest.drop 4).length 1, .int .i64 0] 161 :: Γ))) := by
  have h4 : 4 ≤ rest.length := by rw [hrest]; simp [be_length]
  have hn4 : nbe (rest.take 4) = p.length := by
    rw [hrest, List.take_left' (be_length _ 4), nbe_be]
    omega
  have hd4 : rest.drop 4 = p ++ tl := by rw [hrest, List.drop_left' (be_length _ 4)]
  have hr1 := rd_drop 4 hr h4
  have hone1 : (cutV lv 4 rest.length 1).oneCell' = true := cutV_one hone
  have hk1 : p.length ≤ (rest.drop 4).length := by rw [hd4]; simp
  have hr2 := rd_take p.length hr1 hk1
  rw [hd4, List.take_left' rfl] at hr2
  have hm0 : decide (m < 0) = false := by simp; omega
  have hmm : 0 ≤ (if 4096 < m then 4096 else m) ∧ (if 4096 < m then 4096 else m) ≤ 4096 ∧ (p.length : Int) ≤ (if 4096 < m then 4096 else m) := by split <;> omega
  have hgt : decide ((if 4096 < m then 4096 else m) < (p.length : Int)) = false := by simp only [decide_eq_false_iff_not]; omega
  refine calls_of_wc Try.func37 rfl rfl (Nat.le_of_ble_eq_true rfl) ?_ w hS
  clear hS
  refine wc_seq ?_
  refine wc_region ?_
  refine wl_det (ow_assign rfl) rfl ?_
  refine wl_nil ?_
  refine dn_seq ?_
  refine wc_seq ?_
  refine wc_region ?_
  refine wl_det (ow_move rfl) rfl ?_
  refine wl_det_call (ow_call call48 rfl (fun w hS => four_at b lv rest h4 hone hr hS)) rfl ?_
  rw [hn4]
  refine wl_det (ow_assign rfl) rfl ?_
  refine wl_nil ?_
  refine dn_seq ?_
  refine wc_seq ?_
  refine wc_seq ?_
  refine wc_region ?_
  refine wl_det (ow_move rfl) rfl ?_
  refine wl_det_call (ow_call call40 rfl (fun w hS => bad_at b _ 0 hS)) rfl ?_
  refine wl_det (ow_eqI rfl rfl) rfl ?_
  refine wl_det (ow_move rfl) rfl ?_
  refine wlg_det (s := 11) rfl rfl rfl (ow_move rfl) rfl ?_
  refine wlg_det (s := 11) rfl rfl rfl (ow_ltI rfl rfl) rfl ?_
  rw [hm0]
  refine wlg_det (s := 11) rfl rfl rfl (ow_move rfl) rfl ?_
  refine wlg_det (s := 14) rfl rfl rfl (ow_move rfl) rfl ?_
  refine wlg_det (s := 14) rfl rfl rfl (ow_move rfl) rfl ?_
  refine wlg_det (s := 14) rfl rfl rfl (ow_min rfl rfl rfl) rfl ?_
  refine wlg_det (s := 14) rfl rfl rfl (ow_conv Try.underlying3 Try.underlying40 rfl (IntWalk.u32_in _ (by omega))) rfl ?_
  refine wlg_det (s := 14) rfl rfl rfl (ow_gtI rfl rfl) rfl ?_
  rw [hgt]
  refine wlg_det (s := 11) rfl rfl rfl (ow_or rfl rfl) rfl ?_
  refine wl_det (ow_and rfl rfl) rfl ?_
  refine wl_nil ?_
  refine dn_seq ?_
  refine wc_cond_false rfl rfl ?_
  refine wc_skip ?_
  refine dn_seq ?_
  refine wc_seq ?_
  refine wc_region ?_
  refine wl_some (ow_bs0 Try.underlying26 zs5) rfl (fun b25 _ => ?_)
  refine wl_det (ow_move rfl) rfl ?_
  refine wl_det (ow_move rfl) rfl ?_
  refine wl_det (ow_conv Try.underlying40 Try.underlying3 rfl (IntWalk.i64_in _ (by omega))) rfl ?_
  refine wl_pieces (fun w h => h.r1) ?_
  refine wl_det_call (ow_call call91 rfl (fun w hS => cut_at b _ (rest.drop 4) p.length hk1 hone1 (hr1.cons _) hS)) rfl ?_
  refine wl_pieces (fun w h => h.r1.head (own_of_blk [] [] (k := 0) (sz := 1) rfl rfl (by decide))) ?_
  refine wl_some (ow_append (news := B p) Try.underlying26 Try.underlying26 info5 rfl (by decide) rfl rfl .here ((hr2.cons _).cons _) (B_one _) (by simp; omega) (by simp; omega)) rfl (fun v30 _ => ?_)
  refine wl_det (ow_assign rfl) rfl ?_
  refine wl_nil ?_
  refine dn_seq ?_
  refine wc_ret ?_
  exact dn_ret1 rfl rfl (fun w hS => ⟨_, rfl, v30, trivial, rfl, by simpa using hS⟩)

set_option maxRecDepth 100000 in
theorem end_at {w0 w : World} {Γ : List HP} (b : Nat) (lv : Value) (hone : lv.oneCell' = true) (hr : Rd w0 Γ 1 lv (B [])) (hS : Sat w0 (blk b [lv, .int .i64 0] 161 :: Γ) w) :
    Calls Try.prog 41 #[.pointer (some ⟨b, 0, none⟩)] w (Ret (Det w0 (.int .i64 0) (blk b [lv, .int .i64 0] 161 :: Γ))) := by
  refine calls_of_wc Try.func41 rfl rfl (Nat.le_of_ble_eq_true rfl) ?_ w hS
  clear hS
  refine wc_seq ?_
  refine wc_region ?_
  refine wl_det (ow_assign rfl) rfl ?_
  refine wl_nil ?_
  refine dn_seq ?_
  refine wc_seq ?_
  refine wc_seq ?_
  refine wc_region ?_
  refine wl_det (ow_move rfl) rfl ?_
  refine wl_det_call (ow_call call39 rfl (fun w hS => left_at b lv [] hone hr hS)) rfl ?_
  refine wl_det (ow_gtI rfl rfl) rfl ?_
  refine wl_nil ?_
  refine dn_seq ?_
  refine wc_cond_false rfl rfl ?_
  refine wc_skip ?_
  refine dn_seq ?_
  refine wc_seq ?_
  refine wc_region ?_
  refine wl_det (ow_move rfl) rfl ?_
  refine wl_det_call (ow_call call40 rfl (fun w hS => bad_at b lv 0 hS)) rfl ?_
  refine wl_det (ow_assign rfl) rfl ?_
  refine wl_nil ?_
  refine dn_seq ?_
  refine wc_ret ?_
  exact dn_ret1 rfl rfl (fun w hS => ⟨_, rfl, rfl, hS⟩)

end Go.Proofs.Toll
