/- The walks of octet's readers, at a nil reader. Printed by tools/gen.py out of tools/octin.an.py. -/
import Derived.Test.YthcejmfaiekbeaaRRLaw01
import Derived.Test.YthcejmfaiekbeaaRROps5
set_option linter.unusedVariables false
set_option linter.unusedSimpArgs false
namespace Go.Proofs.Toll
open Go Go.Toll Go.RowKit
set_option maxRecDepth 100000 in
theorem fail_nil {w0 w : World} {Γ : List HP} (e : Int) (hS : Sat w0 Γ w) :
    Calls Try.prog 33 #[.pointer none, .int .i64 e] w (Ret (Det w0 (.tuple #[]) Γ)) := by
  refine calls_of_wc Try.func33 rfl rfl (Nat.le_of_ble_eq_true rfl) ?_ w hS
  clear hS
  refine wc_seq ?_
  refine wc_region ?_
  refine wl_det (ow_move rfl) rfl ?_
  refine wl_det (ow_ne_nil Try.underlying81 rfl rfl rfl) rfl ?_
  refine wl_det (ow_move rfl) rfl ?_
  refine wlg_skip (s := 6) rfl rfl rfl rfl rfl ?_
  refine wlg_skip (s := 6) rfl rfl rfl rfl rfl ?_
  refine wlg_skip (s := 6) rfl rfl rfl rfl rfl ?_
  refine wlg_skip (s := 6) rfl rfl rfl rfl rfl ?_
  refine wlg_skip (s := 6) rfl rfl rfl rfl rfl ?_
  refine wl_det (ow_and_false rfl rfl) rfl ?_
  refine wl_det (ow_move rfl) rfl ?_
  refine wlg_skip (s := 13) rfl rfl rfl rfl rfl ?_
  refine wlg_skip (s := 13) rfl rfl rfl rfl rfl ?_
  refine wl_det (ow_and_false rfl rfl) rfl ?_
  refine wl_nil ?_
  refine dn_seq ?_
  refine wc_cond_false rfl rfl ?_
  refine wc_skip ?_
  exact dn_end0 rfl (fun w hS => ⟨_, rfl, rfl, hS⟩)

set_option maxRecDepth 100000 in
theorem bad_nil {w0 w : World} {Γ : List HP} (hS : Sat w0 Γ w) :
    Calls Try.prog 40 #[.pointer none] w (Ret (Det w0 (.int .i64 2) Γ)) := by
  refine calls_of_wc Try.func40 rfl rfl (Nat.le_of_ble_eq_true rfl) ?_ w hS
  clear hS
  refine wc_seq ?_
  refine wc_region ?_
  refine wl_det (ow_assign rfl) rfl ?_
  refine wl_nil ?_
  refine dn_seq ?_
  refine wc_seq ?_
  refine wc_seq ?_
  refine wc_region ?_
  refine wl_det (ow_move rfl) rfl ?_
  refine wl_det (ow_eq_nil Try.underlying81 rfl rfl rfl) rfl ?_
  refine wl_nil ?_
  refine dn_seq ?_
  refine wc_cond_true rfl rfl ?_
  refine wc_seq ?_
  refine wc_region ?_
  refine wl_det (ow_assign rfl) rfl ?_
  refine wl_nil ?_
  refine dn_seq ?_
  refine wc_ret ?_
  refine dn_then_ret ?_
  exact dn_ret1 rfl rfl (fun w hS => ⟨_, rfl, rfl, hS⟩)

set_option maxRecDepth 100000 in
theorem left_nil {w0 w : World} {Γ : List HP} (hS : Sat w0 Γ w) :
    Calls Try.prog 39 #[.pointer none] w (Ret (Det w0 (.int .i64 0) Γ)) := by
  refine calls_of_wc Try.func39 rfl rfl (Nat.le_of_ble_eq_true rfl) ?_ w hS
  clear hS
  refine wc_seq ?_
  refine wc_region ?_
  refine wl_det (ow_assign rfl) rfl ?_
  refine wl_nil ?_
  refine dn_seq ?_
  refine wc_seq ?_
  refine wc_seq ?_
  refine wc_region ?_
  refine wl_det (ow_move rfl) rfl ?_
  refine wl_det (ow_eq_nil Try.underlying81 rfl rfl rfl) rfl ?_
  refine wl_nil ?_
  refine dn_seq ?_
  refine wc_cond_true rfl rfl ?_
  refine wc_seq ?_
  refine wc_region ?_
  refine wl_det (ow_assign rfl) rfl ?_
  refine wl_nil ?_
  refine dn_seq ?_
  refine wc_ret ?_
  refine dn_then_ret ?_
  exact dn_ret1 rfl rfl (fun w hS => ⟨_, rfl, rfl, hS⟩)

set_option maxRecDepth 100000 in
theorem cut_nil {w0 w : World} {Γ : List HP} (k : Int) (hS : Sat w0 Γ w) :
    Calls Try.prog 91 #[.pointer none, .int .i64 k] w (Ret (Det w0 (.slice none 0 0) Γ)) := by
  refine calls_of_wc Try.func91 rfl rfl (Nat.le_of_ble_eq_true rfl) ?_ w hS
  clear hS
  refine wc_seq ?_
  refine wc_region ?_
  refine wl_det (ow_assign rfl) rfl ?_
  refine wl_nil ?_
  refine dn_seq ?_
  refine wc_seq ?_
  refine wc_seq ?_
  refine wc_region ?_
  refine wl_det (ow_move rfl) rfl ?_
  refine wl_det_call (ow_call call40 rfl (fun w hS => bad_nil hS)) rfl ?_
  refine wl_det (ow_neI rfl rfl) rfl ?_
  refine wl_nil ?_
  refine dn_seq ?_
  refine wc_cond_true rfl rfl ?_
  refine wc_seq ?_
  refine wc_region ?_
  refine wl_det (ow_assign rfl) rfl ?_
  refine wl_nil ?_
  refine dn_seq ?_
  refine wc_ret ?_
  refine dn_then_ret ?_
  exact dn_ret1 rfl rfl (fun w hS => ⟨_, rfl, rfl, hS⟩)

set_option maxRecDepth 100000 in
theorem num_nil {w0 w : World} {Γ : List HP} (k : Int) (hS : Sat w0 Γ w) :
    Calls Try.prog 90 #[.pointer none, .int .i64 k] w (Ret (Det w0 (.int .u64 0) Γ)) := by
  refine calls_of_wc Try.func90 rfl rfl (Nat.le_of_ble_eq_true rfl) ?_ w hS
  clear hS
  refine wc_seq ?_
  refine wc_region ?_
  refine wl_det (ow_assign rfl) rfl ?_
  refine wl_nil ?_
  refine dn_seq ?_
  refine wc_seq ?_
  refine wc_region ?_
  refine wl_det (ow_assign rfl) rfl ?_
  refine wl_nil ?_
  refine dn_seq ?_
  refine wc_seq ?_
  refine wc_seq ?_
  refine wc_region ?_
  refine wl_det (ow_move rfl) rfl ?_
  refine wl_det (ow_move rfl) rfl ?_
  refine wl_det_call (ow_call call91 rfl (fun w hS => cut_nil _ hS)) rfl ?_
  refine wl_det (ow_len Try.underlying26 rfl Rd.nil (sz := 1) (by decide) (m := 0) rfl) rfl ?_
  refine wl_det (ow_move rfl) rfl ?_
  refine wl_nil ?_
  refine dn_seq ?_
  refine wc_block ?_
  refine wc_loop (α := Unit) (fun _ => True) (fun _ => [(5, .int .u64 0), (11, .int .i64 0), (12, .int .i64 0)]) (fun _ => Γ) (fun _ => 0) () trivial ⟨rfl, rfl, rfl, trivial⟩ (fun w h => h) ?_
  · rintro ⟨⟩ -
    refine wc_seq ?_
    refine wc_region ?_
    refine wl_det (ow_ltI rfl rfl) rfl ?_
    refine wl_nil ?_
    refine dn_seq ?_
    refine wc_seq ?_
    refine wc_cond_false rfl rfl ?_
    refine wc_exit ?_
    refine dn_then_exit ?_
    refine dn_then_exit ?_
    refine dn_block_this ?_
    refine dn_seq ?_
    refine wc_seq ?_
    refine wc_region ?_
    refine wl_det (ow_move rfl) rfl ?_
    refine wl_det (ow_assign rfl) rfl ?_
    refine wl_nil ?_
    refine dn_seq ?_
    refine wc_ret ?_
    exact dn_ret1 rfl rfl (fun w hS => ⟨_, rfl, rfl, hS⟩)

set_option maxRecDepth 100000 in
theorem one_nil {w0 w : World} {Γ : List HP} (hS : Sat w0 Γ w) :
    Calls Try.prog 34 #[.pointer none] w (Ret (Det w0 (.int .u8 0) Γ)) := by
  refine calls_of_wc Try.func34 rfl rfl (Nat.le_of_ble_eq_true rfl) ?_ w hS
  clear hS
  refine wc_seq ?_
  refine wc_region ?_
  refine wl_det (ow_assign rfl) rfl ?_
  refine wl_nil ?_
  refine dn_seq ?_
  refine wc_seq ?_
  refine wc_region ?_
  refine wl_det (ow_move rfl) rfl ?_
  refine wl_det_call (ow_call call90 rfl (fun w hS => num_nil _ hS)) rfl ?_
  refine wl_det (ow_conv Try.underlying28 Try.underlying5 rfl rfl) rfl ?_
  refine wl_det (ow_assign rfl) rfl ?_
  refine wl_nil ?_
  refine dn_seq ?_
  refine wc_ret ?_
  exact dn_ret1 rfl rfl (fun w hS => ⟨_, rfl, rfl, hS⟩)

set_option maxRecDepth 100000 in
theorem four_nil {w0 w : World} {Γ : List HP} (hS : Sat w0 Γ w) :
    Calls Try.prog 48 #[.pointer none] w (Ret (Det w0 (.int .u32 0) Γ)) := by
  refine calls_of_wc Try.func48 rfl rfl (Nat.le_of_ble_eq_true rfl) ?_ w hS
  clear hS
  refine wc_seq ?_
  refine wc_region ?_
  refine wl_det (ow_assign rfl) rfl ?_
  refine wl_nil ?_
  refine dn_seq ?_
  refine wc_seq ?_
  refine wc_region ?_
  refine wl_det (ow_move rfl) rfl ?_
  refine wl_det_call (ow_call call90 rfl (fun w hS => num_nil _ hS)) rfl ?_
  refine wl_det (ow_conv Try.underlying28 Try.underlying40 rfl rfl) rfl ?_
  refine wl_det (ow_assign rfl) rfl ?_
  refine wl_nil ?_
  refine dn_seq ?_
  refine wc_ret ?_
  exact dn_ret1 rfl rfl (fun w hS => ⟨_, rfl, rfl, hS⟩)

set_option maxRecDepth 100000 in
theorem eight_nil {w0 w : World} {Γ : List HP} (hS : Sat w0 Γ w) :
    Calls Try.prog 35 #[.pointer none] w (Ret (Det w0 (.int .u64 0) Γ)) := by
  refine calls_of_wc Try.func35 rfl rfl (Nat.le_of_ble_eq_true rfl) ?_ w hS
  clear hS
  refine wc_seq ?_
  refine wc_region ?_
  refine wl_det (ow_assign rfl) rfl ?_
  refine wl_nil ?_
  refine dn_seq ?_
  refine wc_seq ?_
  refine wc_region ?_
  refine wl_det (ow_move rfl) rfl ?_
  refine wl_det_call (ow_call call90 rfl (fun w hS => num_nil _ hS)) rfl ?_
  refine wl_det (ow_assign rfl) rfl ?_
  refine wl_nil ?_
  refine dn_seq ?_
  refine wc_ret ?_
  exact dn_ret1 rfl rfl (fun w hS => ⟨_, rfl, rfl, hS⟩)

set_option maxRecDepth 100000 in
theorem sum_nil {w0 w : World} {Γ : List HP} (hS : Sat w0 Γ w) :
    Calls Try.prog 36 #[.pointer none] w (Ret (Det w0 (.agg (B (List.replicate 32 0)).toArray) Γ)) := by
  refine calls_of_wc Try.func36 rfl rfl (Nat.le_of_ble_eq_true rfl) ?_ w hS
  clear hS
  refine wc_seq ?_
  refine wc_region ?_
  refine wl_some (ow_alloc z85 zero85 rfl) rfl (fun b2 _ => ?_)
  refine wl_nil ?_
  refine dn_seq ?_
  refine wc_seq ?_
  refine wc_region ?_
  refine wl_some (ow_alloc z85 zero85 rfl) rfl (fun b3 _ => ?_)
  refine wl_nil ?_
  refine dn_seq ?_
  refine wc_seq ?_
  refine wc_weak (ρ' := [(0, .pointer none), (2, .pointer (some ⟨b2, 0, none⟩)), (3, .pointer (some ⟨b3, 0, none⟩))]) (Γ' := [blk b3 z85 85, blk b2 z85 85, frm Γ]) ?_ ⟨rfl, rfl, rfl, trivial⟩ (fun w h => Sat.fold [blk b3 z85 85, blk b2 z85 85] h)
  refine wc_flow (N := [⟨true, [], [], [3], [], [], [], [0], fun u => u = [.slice (some ⟨b3, 0, none⟩) 32 32], fun _ => tt⟩,
      ⟨true, [], [], [0], [], [], [], [1], fun u => u = [.pointer none], fun _ => tt⟩,
      ⟨true, [1], [1], [], [1], [], [], [2], fun u => u = [.slice none 0 0], fun _ => tt⟩,
      ⟨true, [0, 1, 2], [0, 2], [], [0, 1, 2], [4], [], [3], fun _ => True, fun _ => blk b3 z85 85⟩]) [] [2, 3] [0, 1, 2, 3, 5, 6] (by kernel_rfl) (by kernel_rfl) (by kernel_rfl) ?_ (fun V hV => ?_)
  · refine ⟨?_, ?_, ?_, ?_, trivial⟩
    · refine obl_run rfl fun V hk => ?_
      refine ⟨noGuard rfl, fun Γ => ?_⟩
      refine ow_mono (ow_weak (ρ' := [(3, .pointer (some ⟨b3, 0, none⟩))]) ⟨rfl, trivial⟩ (ow_slice_arr (q := 0) Try.underlying85 size5 rfl (.none _ _) (.none _ _) (by decide) (by decide) (by decide) rfl)) (fun v w' h => ?_)
      obtain ⟨e, hS⟩ := h
      subst e
      exact ⟨rfl, Sat.add_tt hS⟩
    · refine obl_run rfl fun V hk => ?_
      refine ⟨noGuard rfl, fun Γ => ?_⟩
      refine ow_mono (ow_weak (ρ' := [(0, .pointer none)]) ⟨rfl, trivial⟩ (ow_move rfl)) (fun v w' h => ?_)
      obtain ⟨e, hS⟩ := h
      subst e
      exact ⟨rfl, Sat.add_tt hS⟩
    · refine obl_run rfl fun V hk => ?_
      have k1 : V 1 = .pointer none := one_eq (hk 1 (show 1 ∈ [1] by decide))
      refine ⟨noGuard rfl, fun Γ => ?_⟩
      refine ow_mono (ow_weak (ρ' := [(5, .pointer none)]) ⟨congrArg some k1, trivial⟩ (ow_call call91 rfl (fun w hS => cut_nil _ hS))) (fun v w' h => ?_)
      obtain ⟨rfl, hS⟩ := h
      exact ⟨rfl, Sat.add_tt hS⟩
    · refine obl_run rfl fun V hk => ?_
      have k0 : V 0 = .slice (some ⟨b3, 0, none⟩) 32 32 := one_eq (hk 0 (show 0 ∈ [0, 1, 2] by decide))
      have k2 : V 2 = .slice none 0 0 := one_eq (hk 2 (show 2 ∈ [0, 1, 2] by decide))
      refine ⟨noGuard rfl, fun Γ => ?_⟩
      refine ow_mono (ow_weak (ρ' := [(4, .slice (some ⟨b3, 0, none⟩) 32 32), (6, .slice none 0 0)]) ⟨congrArg some k0, congrArg some k2, trivial⟩ (ow_copy (news := []) [] [] z85 Try.underlying26 size5 rfl rfl Rd.nil (by simp) rfl rfl rfl .here)) (fun v w' h => ?_)
      obtain ⟨rfl, hS⟩ := h
      exact ⟨trivial, hS⟩
  refine dn_weak (ρ' := [(2, .pointer (some ⟨b2, 0, none⟩)), (3, .pointer (some ⟨b3, 0, none⟩))]) ⟨rfl, rfl, trivial⟩ (Γ' := [blk b3 z85 85, blk b2 z85 85, frm Γ]) (fun w h => h.tail.tail.tail) ?_
  refine dn_seq ?_
  refine wc_seq ?_
  refine wc_region ?_
  refine wl_det (ow_load_agg z85 rfl (wholeOf .here) Try.underlying85 rfl size85) rfl ?_
  refine wl_eff (ow_store_agg [] z85 [] rfl rfl size85 (B_one (List.replicate 32 0)) (by simp) rfl rfl (.there .here)) ?_
  refine wl_nil ?_
  refine dn_seq ?_
  refine wc_ret ?_
  exact dn_ret_cell rfl z85 rfl (wholeOf (.there .here)) Try.underlying85 rfl size85 (fun w hS => ⟨_, rfl, rfl, (Sat.unfold [_, _] hS).tail.tail⟩)

set_option maxRecDepth 100000 in
theorem blob_nil {w0 w : World} {Γ : List HP} (m : Int) (hS : Sat w0 Γ w) :
    Calls Try.prog 37 #[.pointer none, .int .i64 m] w (Ret (Some_ w0 (fun _ => True) id (fun v => own v [] 5 1 :: Γ))) := by
  refine calls_of_wc Try.func37 rfl rfl (Nat.le_of_ble_eq_true rfl) ?_ w hS
  clear hS
  refine wc_seq ?_
  refine wc_region ?_
  refine wl_det (ow_assign rfl) rfl ?_
  refine wl_nil ?_
  refine dn_seq ?_
  refine wc_seq ?_
  refine wc_region ?_
  refine wl_det (ow_move rfl) rfl ?_
  refine wl_det_call (ow_call call48 rfl (fun w hS => four_nil hS)) rfl ?_
  refine wl_det (ow_assign rfl) rfl ?_
  refine wl_nil ?_
  refine dn_seq ?_
  refine wc_seq ?_
  refine wc_seq ?_
  refine wc_region ?_
  refine wl_det (ow_move rfl) rfl ?_
  refine wl_det_call (ow_call call40 rfl (fun w hS => bad_nil hS)) rfl ?_
  refine wl_det (ow_eqI rfl rfl) rfl ?_
  refine wl_det (ow_move rfl) rfl ?_
  refine wlg_skip (s := 11) rfl rfl rfl rfl rfl ?_
  refine wlg_skip (s := 11) rfl rfl rfl rfl rfl ?_
  refine wlg_skip (s := 11) rfl rfl rfl rfl rfl ?_
  refine wlg_undef (s := 14) rfl rfl rfl rfl ?_
  refine wlg_undef (s := 14) rfl rfl rfl rfl ?_
  refine wlg_undef (s := 14) rfl rfl rfl rfl ?_
  refine wlg_undef (s := 14) rfl rfl rfl rfl ?_
  refine wlg_undef (s := 14) rfl rfl rfl rfl ?_
  refine wlg_skip (s := 11) rfl rfl rfl rfl rfl ?_
  refine wl_det (ow_and_false rfl rfl) rfl ?_
  refine wl_nil ?_
  refine dn_seq ?_
  refine wc_cond_false rfl rfl ?_
  refine wc_skip ?_
  refine dn_seq ?_
  refine wc_seq ?_
  refine wc_region ?_
  refine wl_some (ow_bs0 Try.underlying26 zs5) rfl (fun b25 _ => ?_)
  refine wl_det (ow_move rfl) rfl ?_
  refine wl_det (ow_move rfl) rfl ?_
  refine wl_det (ow_conv Try.underlying40 Try.underlying3 rfl rfl) rfl ?_
  refine wl_det_call (ow_call call91 rfl (fun w hS => cut_nil _ hS)) rfl ?_
  refine wl_pieces (fun w h => h.head (own_of_blk [] [] (k := 0) (sz := 1) rfl rfl (by decide))) ?_
  refine wl_some (ow_append (news := []) Try.underlying26 Try.underlying26 info5 rfl (by decide) rfl rfl .here Rd.nil (by simp) (by simp) (by simp)) rfl (fun v30 _ => ?_)
  refine wl_det (ow_assign rfl) rfl ?_
  refine wl_nil ?_
  refine dn_seq ?_
  refine wc_ret ?_
  exact dn_ret1 rfl rfl (fun w hS => ⟨_, rfl, v30, trivial, rfl, hS⟩)

set_option maxRecDepth 100000 in
theorem many_nil {w0 w : World} {Γ : List HP} (m : Int) (hm : 0 ≤ m) (hS : Sat w0 Γ w) :
    Calls Try.prog 38 #[.pointer none, .int .i64 m] w (Ret (Det w0 (.int .i64 0) Γ)) := by
  refine calls_of_wc Try.func38 rfl rfl (Nat.le_of_ble_eq_true rfl) ?_ w hS
  clear hS
  refine wc_seq ?_
  refine wc_region ?_
  refine wl_det (ow_assign rfl) rfl ?_
  refine wl_nil ?_
  refine dn_seq ?_
  refine wc_seq ?_
  refine wc_region ?_
  refine wl_det (ow_move rfl) rfl ?_
  refine wl_det_call (ow_call call34 rfl (fun w hS => one_nil hS)) rfl ?_
  refine wl_det (v := .int .i64 0) (ow_conv Try.underlying5 Try.underlying3 rfl rfl) rfl ?_
  refine wl_det (ow_assign rfl) rfl ?_
  refine wl_nil ?_
  refine dn_seq ?_
  refine wc_seq ?_
  refine wc_seq ?_
  refine wc_region ?_
  refine wl_det (ow_move rfl) rfl ?_
  refine wl_det (ow_move rfl) rfl ?_
  refine wl_det (ow_gtI rfl rfl) rfl ?_
  refine wl_nil ?_
  refine dn_seq ?_
  refine wc_cond_false rfl (by simp; omega) ?_
  refine wc_skip ?_
  refine dn_seq ?_
  refine wc_seq ?_
  refine wc_region ?_
  refine wl_det (ow_move rfl) rfl ?_
  refine wl_det (ow_assign rfl) rfl ?_
  refine wl_nil ?_
  refine dn_seq ?_
  refine wc_ret ?_
  exact dn_ret1 rfl rfl (fun w hS => ⟨_, rfl, rfl, hS⟩)

set_option maxRecDepth 100000 in
theorem end_nil {w0 w : World} {Γ : List HP} (hS : Sat w0 Γ w) :
    Calls Try.prog 41 #[.pointer none] w (Ret (Det w0 (.int .i64 2) Γ)) := by
  refine calls_of_wc Try.func41 rfl rfl (Nat.le_of_ble_eq_true rfl) ?_ w hS
  clear hS
  refine wc_seq ?_
  refine wc_region ?_
  refine wl_det (ow_assign rfl) rfl ?_
  refine wl_nil ?_
  refine dn_seq ?_
  refine wc_seq ?_
  refine wc_seq ?_
  refine wc_region ?_
  refine wl_det (ow_move rfl) rfl ?_
  refine wl_det_call (ow_call call39 rfl (fun w hS => left_nil hS)) rfl ?_
  refine wl_det (ow_gtI rfl rfl) rfl ?_
  refine wl_nil ?_
  refine dn_seq ?_
  refine wc_cond_false rfl rfl ?_
  refine wc_skip ?_
  refine dn_seq ?_
  refine wc_seq ?_
  refine wc_region ?_
  refine wl_det (ow_move rfl) rfl ?_
  refine wl_det_call (ow_call call40 rfl (fun w hS => bad_nil hS)) rfl ?_
  refine wl_det (ow_assign rfl) rfl ?_
  refine wl_nil ?_
  refine dn_seq ?_
  refine wc_ret ?_
  exact dn_ret1 rfl rfl (fun w hS => ⟨_, rfl, rfl, hS⟩)

set_option maxRecDepth 100000 in
theorem OctetNil_any (w : World) (k : Int) :
    Calls Try.prog 6 #[.int .i64 k] w (Ret fun v w' => v = .bool true ∧ Below w.heap.size w w') := by
  have hS := Sat.start w
  refine calls_of_wc Try.func6 rfl rfl (Nat.le_of_ble_eq_true rfl) ?_ w hS
  clear hS
  refine wc_seq ?_
  refine wc_region ?_
  refine wl_det (ow_assign rfl) rfl ?_
  refine wl_nil ?_
  refine dn_seq ?_
  refine wc_seq ?_
  refine wc_region ?_
  refine wl_det (ow_assign rfl) rfl ?_
  refine wl_nil ?_
  refine dn_seq ?_
  refine wc_seq ?_
  refine wc_region ?_
  refine wl_det (ow_move rfl) rfl ?_
  refine wl_det_call (ow_call call33 rfl (fun w hS => fail_nil _ hS)) rfl ?_
  refine wl_nil ?_
  refine dn_seq ?_
  refine wc_seq ?_
  refine wc_region ?_
  refine wl_det_call (ow_mono (ow_call call21 rfl (fun w hS => awake01_any hS)) (fun v w' h => by obtain ⟨x, _, rfl, hS⟩ := h; exact ⟨rfl, Sat.dropl hS⟩)) rfl ?_
  refine wl_det (ow_move rfl) rfl ?_
  refine wlg_det (s := 7) rfl rfl rfl (ow_move rfl) rfl ?_
  refine wlg_det (s := 7) rfl rfl rfl (ow_call call34 rfl (fun w hS => one_nil hS)) rfl ?_
  refine wlg_det (s := 7) rfl rfl rfl (ow_eqI rfl rfl) rfl ?_
  refine wl_det (ow_and rfl rfl) rfl ?_
  refine wl_det (ow_move rfl) rfl ?_
  refine wlg_det (s := 12) rfl rfl rfl (ow_move rfl) rfl ?_
  refine wlg_det (s := 12) rfl rfl rfl (ow_call call35 rfl (fun w hS => eight_nil hS)) rfl ?_
  refine wlg_det (s := 12) rfl rfl rfl (ow_eqI rfl rfl) rfl ?_
  refine wl_det (ow_and rfl rfl) rfl ?_
  refine wl_det (ow_move rfl) rfl ?_
  refine wlg_det (s := 17) rfl rfl rfl (ow_move rfl) rfl ?_
  refine wlg_det (s := 17) rfl rfl rfl (ow_call call36 rfl (fun w hS => sum_nil hS)) rfl ?_
  refine wlg_det (s := 17) rfl rfl rfl (v := .agg (B (List.replicate 32 0)).toArray) (ow_build_nil z85 Try.underlying85 zero85 size5) rfl ?_
  refine wlg_det (s := 17) rfl rfl rfl (ow_eq_bytes (r := true) (List.replicate 32 0) (List.replicate 32 0) Try.underlying85 Try.underlying5 size5 (by kernel_rfl) rfl rfl rfl rfl rfl) rfl ?_
  refine wl_det (ow_and rfl rfl) rfl ?_
  refine wl_det (ow_move rfl) rfl ?_
  refine wlg_det (s := 23) rfl rfl rfl (ow_move rfl) rfl ?_
  refine wlg_det (s := 23) rfl rfl rfl (ow_move rfl) rfl ?_
  refine wlg_some (s := 23) rfl rfl rfl (ow_call call37 rfl (fun w hS => blob_nil _ hS)) rfl (fun v26 _ => ?_)
  refine wlg_det (s := 23) rfl rfl rfl (ow_len Try.underlying26 rfl own_reads (by decide) (m := 0) rfl) rfl ?_
  refine wlg_det (s := 23) rfl rfl rfl (ow_eqI rfl rfl) rfl ?_
  refine wl_det (ow_and rfl rfl) rfl ?_
  refine wl_det (ow_move rfl) rfl ?_
  refine wlg_det (s := 30) rfl rfl rfl (ow_move rfl) rfl ?_
  refine wlg_det (s := 30) rfl rfl rfl (ow_move rfl) rfl ?_
  refine wlg_det (s := 30) rfl rfl rfl (ow_max rfl rfl rfl) rfl ?_
  refine wlg_det (s := 30) rfl rfl rfl (ow_call call38 rfl (fun w hS => many_nil _ (by split <;> omega) hS)) rfl ?_
  refine wlg_det (s := 30) rfl rfl rfl (ow_eqI rfl rfl) rfl ?_
  refine wl_det (ow_and rfl rfl) rfl ?_
  refine wl_det (ow_move rfl) rfl ?_
  refine wlg_det (s := 37) rfl rfl rfl (ow_move rfl) rfl ?_
  refine wlg_det (s := 37) rfl rfl rfl (ow_call call39 rfl (fun w hS => left_nil hS)) rfl ?_
  refine wlg_det (s := 37) rfl rfl rfl (ow_eqI rfl rfl) rfl ?_
  refine wl_det (ow_and rfl rfl) rfl ?_
  refine wl_det (ow_move rfl) rfl ?_
  refine wlg_det (s := 42) rfl rfl rfl (ow_move rfl) rfl ?_
  refine wlg_det (s := 42) rfl rfl rfl (ow_call call40 rfl (fun w hS => bad_nil hS)) rfl ?_
  refine wlg_det (s := 42) rfl rfl rfl (ow_eqI rfl rfl) rfl ?_
  refine wl_det (ow_and rfl rfl) rfl ?_
  refine wl_det (ow_move rfl) rfl ?_
  refine wlg_det (s := 47) rfl rfl rfl (ow_move rfl) rfl ?_
  refine wlg_det (s := 47) rfl rfl rfl (ow_call call41 rfl (fun w hS => end_nil hS)) rfl ?_
  refine wlg_det (s := 47) rfl rfl rfl (ow_eqI rfl rfl) rfl ?_
  refine wl_det (ow_and rfl rfl) rfl ?_
  refine wl_det (ow_assign rfl) rfl ?_
  refine wl_nil ?_
  refine dn_seq ?_
  refine wc_ret ?_
  exact dn_ret1 rfl rfl (fun w hS => ⟨_, rfl, rfl, hS.below⟩)

end Go.Proofs.Toll
