/- The statement OctetBack as a walk. Printed by tools/gen.py out of tools/law01d.an.py. -/
import Derived.Test.YthcejmfaiekbeaaRROctin2
set_option linter.unusedVariables false
set_option linter.unusedSimpArgs false
namespace Go.Proofs.Toll
open Go Go.Toll Go.RowKit
set_option maxRecDepth 100000 in
theorem OctetBack_any (w : World) (va : Value) (l : List Thing) (hlr : RdItems w [] va l) (hb : l.length ≤ 140737488355328) :
    Calls Try.prog 8 #[va] w (Ret fun v w' => v = .bool true ∧ Below w.heap.size w w') := by
  have hS := Sat.start w
  have hl := hlr
  refine calls_of_wc Try.func8 rfl rfl (Nat.le_of_ble_eq_true rfl) ?_ w hS
  clear hS
  refine wc_seq ?_
  refine wc_region ?_
  refine wl_det (ow_assign rfl) rfl ?_
  refine wl_nil ?_
  refine dn_seq ?_
  refine wc_seq ?_
  refine wc_seq ?_
  refine wc_region ?_
  refine wl_det (ow_move rfl) rfl ?_
  refine wl_det_call (ow_call call20 rfl (fun w hS => fits_any va l hl hb hS)) rfl ?_
  refine wl_det (ow_not rfl) rfl ?_
  refine wl_nil ?_
  refine dn_seq ?_
  refine wc_cond rfl (fun hc => ?_) (fun hc => ?_)
  · have hc12 := hc; simp only [decide_eq_true_eq, decide_eq_false_iff_not, Bool.not_eq_true', Bool.not_eq_false'] at hc
    refine wc_seq ?_
    refine wc_region ?_
    refine wl_some (ow_call call21 rfl (fun w hS => awake01_any hS)) rfl (fun Δ _ => ?_)
    refine wl_det (ow_assign rfl) rfl ?_
    refine wl_nil ?_
    refine dn_seq ?_
    refine wc_ret ?_
    refine dn_then_ret ?_
    exact dn_ret1 rfl rfl (fun w hS => ⟨_, rfl, rfl, hS.below⟩)
  · have hc12 := hc; simp only [decide_eq_true_eq, decide_eq_false_iff_not, Bool.not_eq_true', Bool.not_eq_false'] at hc
    have hfit : (l.all fun x => decide (x.p.length ≤ 4096)) = true ∧ l.length ≤ 40 := by
      have h := hc
      unfold fitsB at h
      rw [Bool.and_eq_true, decide_eq_true_eq] at h
      exact h
    have hlay : ∀ k, (lays (l.take k)).length ≤ 164000 := fun k => by
      have h1 := lays_le (l := l.take k) (fun x hx => (hl.2 x (List.mem_of_mem_take hx)).hd) (fun x hx => by have := List.all_eq_true.1 hfit.1 x (List.mem_of_mem_take hx); simpa using this)
      have h2 : (l.take k).length ≤ 40 := Nat.le_trans (List.length_take_le' _ _) hfit.2
      omega
    have hplen : ∀ x ∈ l, x.p.length ≤ 4096 := fun x hx => by have := List.all_eq_true.1 hfit.1 x hx; simpa using this
    refine wc_skip ?_
    refine dn_seq ?_
    refine wc_seq ?_
    refine wc_region ?_
    refine wl_det (ow_assign rfl) rfl ?_
    refine wl_nil ?_
    refine dn_seq ?_
    refine wc_seq ?_
    refine wc_seq ?_
    refine wc_pieces (fun w h => Sat.own_nil (T := 5) (sz := 1) h) ?_
    refine wc_region ?_
    refine wl_det (ow_move rfl) rfl ?_
    refine wl_det (ow_len Try.underlying22 rfl ((hl.1.cons _)) (by decide) hl.length) rfl ?_
    refine wl_det (ow_move rfl) rfl ?_
    refine wl_nil ?_
    refine dn_seq ?_
    refine wc_block ?_
    refine wc_loop (α := Nat × Value) (fun x => x.1 ≤ l.length) (fun x => [(0, va), (3, x.2), (14, va), (15, .int .i64 l.length), (16, .int .i64 x.1)]) (fun x => [own x.2 (B (lays (l.take x.1))) 5 1]) (fun x => l.length - x.1) (0, .slice none 0 0) (Nat.zero_le _) ⟨rfl, rfl, rfl, rfl, rfl, trivial⟩ (fun w h => h) ?_
    · rintro ⟨i, vo⟩ hi0
      simp only at hi0 ⊢
      have hli := hlay i
      refine wc_seq ?_
      refine wc_region ?_
      refine wl_det (ow_ltI rfl rfl) rfl ?_
      refine wl_nil ?_
      refine dn_seq ?_
      refine wc_seq ?_
      refine wc_cond rfl (fun hc => ?_) (fun hc => ?_)
      · have hc17 := hc; simp only [decide_eq_true_eq, decide_eq_false_iff_not, Bool.not_eq_true', Bool.not_eq_false'] at hc
        refine wc_skip ?_
        refine dn_seq ?_
        refine wc_seq ?_
        refine wc_block ?_
        refine wc_seq ?_
        refine wc_region ?_
        refine wl_some (ow_indexAddr_rd Try.underlying22 size31 rfl rfl (hl.1.cons _) (by decide) (by omega) (by rw [hl.length]; omega)) rfl (fun ad had => ?_)
        have hi : i < l.length := by omega
        have hpl := hplen l[i] (List.getElem_mem hi)
        have hx := hl.2 l[i] (List.getElem_mem hi)
        rw [hl.chunk i hi] at had
        refine wl_det (ow_load_rd _ rfl had Try.underlying31 rfl (by rw [size31, Thing.cells_length hx.hd])) rfl ?_
        refine wl_some (ow_alloc z31 zero31 rfl) rfl (fun b5 _ => ?_)
        refine wl_eff (ow_store_agg [] z31 [] rfl rfl (by rw [size31, Thing.cells_length hx.hd]) (Thing.cells_one hx) (by simp) rfl (by rw [Thing.cells_length hx.hd]; rfl) .here) ?_
        simp only [List.nil_append, List.append_nil]
        refine wl_nil ?_
        refine dn_seq ?_
        refine wc_region ?_
        refine wl_det (ow_move rfl) rfl ?_
        refine wl_det (ow_load_agg l[i].cells rfl (wholeOf .here) Try.underlying31 rfl (by rw [size31, Thing.cells_length hx.hd])) rfl ?_
        refine wl_pieces (fun w h => h.r1) ?_
        refine wl_some (ow_call call22 rfl (fun w hS => lay_any _ _ l[i] (hx.cons _) (by rw [B_length]; omega) hS)) rfl (fun v22 _ => ?_)
        refine wl_det (ow_assign rfl) rfl ?_
        refine wl_nil ?_
        refine dn_block ?_
        refine dn_seq ?_
        refine wc_region ?_
        refine wl_det (ow_add rfl rfl (by first | exact IntWalk.i64_in _ (by omega) | rfl)) rfl ?_
        refine wl_det (ow_move rfl) rfl ?_
        refine wl_nil ?_
        refine dn_back (i + 1, v22) (by simp only; omega) (by simp only; omega) ⟨rfl, rfl, rfl, rfl, lk_int rfl (by simp), trivial⟩ (fun w h => ?_)
        simp only
        rw [lays_take l i hi, B_append]
        exact h.r1.tail
      · have hc17 := hc; simp only [decide_eq_true_eq, decide_eq_false_iff_not, Bool.not_eq_true', Bool.not_eq_false'] at hc
        refine wc_exit ?_
        refine dn_then_exit ?_
        refine dn_then_exit ?_
        refine dn_block_this ?_
        refine dn_seq ?_
        refine wc_seq ?_
        refine wc_region ?_
        refine wl_det (ow_move rfl) rfl ?_
        have hi : i = l.length := by omega
        subst hi
        simp only [List.take_length] at hli ⊢
        refine wl_some (ow_call call47 rfl (fun w hS => of_any _ (lays l) own_reads (by omega) hS)) rfl (fun x25 hx25 => ?_)
        refine wl_det (ow_assign rfl) rfl ?_
        refine wl_nil ?_
        refine dn_seq ?_
        refine wc_seq ?_
        refine wc_seq ?_
        refine wc_region ?_
        refine wl_det (ow_move rfl) rfl ?_
        refine wl_det (ow_len Try.underlying22 rfl (((hl.1.cons _).cons _).cons _) (by decide) hl.length) rfl ?_
        refine wl_det (ow_move rfl) rfl ?_
        refine wl_nil ?_
        refine dn_seq ?_
        refine wc_block ?_
        obtain ⟨b, v5⟩ := x25
        simp only at hx25 ⊢
        refine wc_loop (α := Nat × Value) (fun x => x.1 ≤ l.length ∧ x.2.oneCell' = true ∧ Rd w [own v5 (B (lays l)) 5 1] 1 x.2 (B (lays (l.drop x.1)))) (fun x => [(0, va), (6, .pointer (some ⟨b, 0, none⟩)), (26, va), (27, .int .i64 l.length), (28, .int .i64 x.1)]) (fun x => [blk b [x.2, .int .i64 0] 161, own v5 (B (lays l)) 5 1]) (fun x => l.length - x.1) (0, v5) ⟨Nat.zero_le _, hx25, own_reads⟩ ⟨rfl, rfl, rfl, rfl, rfl, trivial⟩ (fun w h => h.r2.tail) ?_
        · rintro ⟨i, lv⟩ ⟨hi0, hone, hrd⟩
          simp only at hi0 hone hrd ⊢
          refine wc_seq ?_
          refine wc_region ?_
          refine wl_det (ow_ltI rfl rfl) rfl ?_
          refine wl_nil ?_
          refine dn_seq ?_
          refine wc_seq ?_
          refine wc_cond rfl (fun hc => ?_) (fun hc => ?_)
          · have hc29 := hc; simp only [decide_eq_true_eq, decide_eq_false_iff_not, Bool.not_eq_true', Bool.not_eq_false'] at hc
            refine wc_skip ?_
            refine dn_seq ?_
            refine wc_seq ?_
            refine wc_block ?_
            refine wc_seq ?_
            refine wc_region ?_
            refine wl_some (ow_indexAddr_rd Try.underlying22 size31 rfl rfl ((hl.1.cons _).cons _) (by decide) (by omega) (by rw [hl.length]; omega)) rfl (fun ad had => ?_)
            have hi : i < l.length := by omega
            have hpl := hplen l[i] (List.getElem_mem hi)
            have hx := hl.2 l[i] (List.getElem_mem hi)
            rw [hl.chunk i hi] at had
            refine wl_det (ow_load_rd _ rfl had Try.underlying31 rfl (by rw [size31, Thing.cells_length hx.hd])) rfl ?_
            refine wl_some (ow_alloc z31 zero31 rfl) rfl (fun b8 _ => ?_)
            refine wl_eff (ow_store_agg [] z31 [] rfl rfl (by rw [size31, Thing.cells_length hx.hd]) (Thing.cells_one hx) (by simp) rfl (by rw [Thing.cells_length hx.hd]; rfl) .here) ?_
            simp only [List.nil_append, List.append_nil]
            refine wl_nil ?_
            refine dn_seq ?_
            refine wc_seq ?_
            refine wc_region ?_
            refine wl_det (ow_assign rfl) rfl ?_
            refine wl_nil ?_
            refine dn_seq ?_
            refine wc_seq ?_
            refine wc_seq ?_
            refine wc_region ?_
            refine wl_det (ow_field0 0 Try.underlying31 rfl size3 rfl) rfl ?_
            refine wl_det (ow_load plain3 rfl (cellOf (by first | exact .here | exact .there .here | exact .there (.there .here) | exact .there (.there (.there .here)) | exact .there (.there (.there (.there .here))) | exact .there (.there (.there (.there (.there .here))))) rfl)) rfl ?_
            refine wl_nil ?_
            refine dn_seq ?_
            refine wc_block ?_
            refine wc_seq ?_
            refine wc_region ?_
            refine wl_det (ow_eqI rfl rfl) rfl ?_
            refine wl_det (ow_assign rfl) rfl ?_
            refine wl_nil ?_
            refine dn_seq ?_
            refine wc_cond rfl (fun hc => ?_) (fun hc => ?_)
            · have hc34 := hc; simp only [decide_eq_true_eq, decide_eq_false_iff_not, Bool.not_eq_true', Bool.not_eq_false'] at hc
              refine wc_weak (ρ' := [(0, va), (6, .pointer (some ⟨b, 0, none⟩)), (8, .pointer (some ⟨b8, 0, none⟩)), (26, va), (27, .int .i64 l.length), (28, .int .i64 i)]) (Γ' := [blk b [lv, .int .i64 0] 161, own v5 (B (lays l)) 5 1, blk b8 l[i].cells 31]) ?_ ⟨rfl, rfl, rfl, rfl, rfl, rfl, trivial⟩ (fun w h => h.b2)
              obtain ⟨rest, hrest⟩ : ∃ r, r = lays (l.drop i) := ⟨_, rfl⟩
              rw [← hrest] at hrd
              have hd1 := lays_drop l i hi
              rw [← hrest] at hd1
              have hlay : l[i].lay = be l[i].num.toNat 1 := by simp [Thing.lay, hc]
              have hlen : l[i].lay.length = 1 := by rw [hlay]; first | exact be_length _ _ | exact hx.hd
              have hn : 1 ≤ rest.length := by rw [hd1, List.length_append, hlen]; omega
              have hdrop : rest.drop 1 = lays (l.drop (i + 1)) := by rw [hd1, List.drop_left' hlen]
              have htake : rest.take 1 = be l[i].num.toNat 1 := by rw [hd1, List.take_left' hlen, hlay]
              have hone2 : (cutV lv 1 rest.length 1).oneCell' = true := cutV_one hone
              have hrd2 := rd_drop 1 hrd hn
              rw [hdrop] at hrd2
              have hval : nbe (rest.take 1) = (UInt8.ofNat l[i].num.toNat).toNat := by rw [htake, nbe_be]; rw [UInt8.toNat_ofNat']
              refine wc_flow (N := [⟨true, [], [], [6], [], [], [], [0], fun u => u = [.pointer (some ⟨b, 0, none⟩)], fun _ => tt⟩,
                  ⟨true, [0], [0], [], [0], [7], [8], [1], fun u => u = [.int .u8 (nbe (rest.take 1) : Int)], fun _ => blk b [cutV lv 1 rest.length 1, .int .i64 0] 161⟩,
                  ⟨true, [], [], [8], [], [], [], [2], fun u => u = [.pointer (some ⟨b8, 1, none⟩)], fun _ => tt⟩,
                  ⟨true, [2], [2], [], [2], [], [9], [3], fun u => u = [.int .u64 (l[i].num.toNat : Int)], fun _ => tt⟩,
                  ⟨true, [2, 3], [3], [], [2, 3], [], [], [4], fun u => u = [.int .u8 ((UInt8.ofNat l[i].num.toNat).toNat : Int)], fun _ => tt⟩,
                  ⟨true, [0, 1, 2, 3, 4], [1, 4], [], [0, 1, 2, 3, 4], [], [], [5], fun u => u = [.bool true], fun _ => tt⟩,
                  ⟨true, [0, 1, 2, 3, 4, 5], [5], [], [0, 1, 2, 3, 4, 5], [], [], [6], fun u => u = [.bool true], fun _ => tt⟩]) [6] [0, 6, 26, 27, 28] [0, 1, 2, 3, 4, 5, 6, 8, 9] (by kernel_rfl) (by kernel_rfl) (by kernel_rfl) ?_ (fun V hV => ?_)
              · refine ⟨?_, ?_, ?_, ?_, ?_, ?_, ?_, trivial⟩
                · refine obl_run rfl fun V hk => ?_
                  refine ⟨noGuard rfl, fun Δ' => ?_⟩
                  refine ow_mono (ow_weak (ρ' := [(6, .pointer (some ⟨b, 0, none⟩))]) ⟨rfl, trivial⟩ (ow_move rfl)) (fun v w' h => ?_)
                  obtain ⟨e, hS⟩ := h
                  subst e
                  exact ⟨rfl, Sat.add_tt hS⟩
                · refine obl_run rfl fun V hk => ?_
                  have k0 : V 0 = .pointer (some ⟨b, 0, none⟩) := one_eq (hk 0 (show 0 ∈ [0] by decide))
                  refine ⟨noGuard rfl, fun Δ' => ?_⟩
                  refine ow_mono (ow_weak (ρ' := [(36, .pointer (some ⟨b, 0, none⟩))]) ⟨congrArg some k0, trivial⟩ (ow_call call34 rfl (fun w hS => one_at b lv rest hn hone (hrd.left _) hS))) (fun v w' h => ?_)
                  obtain ⟨rfl, hS⟩ := h
                  exact ⟨rfl, hS⟩
                · refine obl_run rfl fun V hk => ?_
                  refine ⟨noGuard rfl, fun Δ' => ?_⟩
                  refine ow_mono (ow_weak (ρ' := [(8, .pointer (some ⟨b8, 0, none⟩))]) ⟨rfl, trivial⟩ (ow_field0 1 Try.underlying31 rfl size28 rfl)) (fun v w' h => ?_)
                  obtain ⟨e, hS⟩ := h
                  subst e
                  exact ⟨rfl, Sat.add_tt hS⟩
                · refine obl_run rfl fun V hk => ?_
                  have k2 : V 2 = .pointer (some ⟨b8, 1, none⟩) := one_eq (hk 2 (show 2 ∈ [2] by decide))
                  refine ⟨noGuard rfl, fun Δ' => ?_⟩
                  refine ow_mono (ow_weak (ρ' := [(38, .pointer (some ⟨b8, 1, none⟩))]) ⟨congrArg some k2, trivial⟩ (ow_load (v := .int .u64 (l[i].num.toNat : Int)) plain28 rfl (cellOf .here rfl))) (fun v w' h => ?_)
                  obtain ⟨e, hS⟩ := h
                  subst e
                  exact ⟨rfl, Sat.add_tt hS⟩
                · refine obl_run rfl fun V hk => ?_
                  have k3 : V 3 = .int .u64 (l[i].num.toNat : Int) := one_eq (hk 3 (show 3 ∈ [2, 3] by decide))
                  refine ⟨noGuard rfl, fun Δ' => ?_⟩
                  refine ow_mono (ow_weak (ρ' := [(39, .int .u64 (l[i].num.toNat : Int))]) ⟨congrArg some k3, trivial⟩ (ow_conv Try.underlying28 Try.underlying5 rfl (u8_of _))) (fun v w' h => ?_)
                  obtain ⟨e, hS⟩ := h
                  subst e
                  exact ⟨rfl, Sat.add_tt hS⟩
                · refine obl_run rfl fun V hk => ?_
                  have k1 : V 1 = .int .u8 (nbe (rest.take 1) : Int) := one_eq (hk 1 (show 1 ∈ [0, 1, 2, 3, 4] by decide))
                  have k4 : V 4 = .int .u8 ((UInt8.ofNat l[i].num.toNat).toNat : Int) := one_eq (hk 4 (show 4 ∈ [0, 1, 2, 3, 4] by decide))
                  refine ⟨noGuard rfl, fun Δ' => ?_⟩
                  refine ow_mono (ow_weak (ρ' := [(37, .int .u8 (nbe (rest.take 1) : Int)), (40, .int .u8 ((UInt8.ofNat l[i].num.toNat).toNat : Int))]) ⟨congrArg some k1, congrArg some k4, trivial⟩ (ow_eqI rfl rfl)) (fun v w' h => ?_)
                  obtain ⟨e, hS⟩ := h
                  subst e
                  exact ⟨by first | rfl | simp [hval, upd], Sat.add_tt hS⟩
                · refine obl_run rfl fun V hk => ?_
                  have k5 : V 5 = .bool true := one_eq (hk 5 (show 5 ∈ [0, 1, 2, 3, 4, 5] by decide))
                  refine ⟨noGuard rfl, fun Δ' => ?_⟩
                  refine ow_mono (ow_weak (ρ' := [(41, .bool true)]) ⟨congrArg some k5, trivial⟩ (ow_assign rfl)) (fun v w' h => ?_)
                  obtain ⟨e, hS⟩ := h
                  subst e
                  exact ⟨rfl, Sat.add_tt hS⟩
              have e6 : V 6 = .bool true := one_eq (hV 6 (show 6 < 7 by decide))
              refine dn_weak (ρ' := [(9, .bool true), (0, va), (6, .pointer (some ⟨b, 0, none⟩)), (26, va), (27, .int .i64 l.length), (28, .int .i64 i)]) ⟨congrArg some e6, rfl, rfl, rfl, rfl, rfl, trivial⟩ (Γ' := [blk b [cutV lv 1 rest.length 1, .int .i64 0] 161, own v5 (B (lays l)) 5 1]) (fun w h => h.tail.r1.tail.r1.tail.r1.tail.r1.tail.r1.tail.r2.tail) ?_
              refine dn_block ?_
              refine dn_seq ?_
              refine wc_seq ?_
              refine wc_region ?_
              refine wl_det (ow_move rfl) rfl ?_
              refine wl_det (ow_not rfl) rfl ?_
              refine wl_det (ow_move rfl) rfl ?_
              refine wlg_det (s := 75) rfl rfl rfl (ow_move rfl) rfl ?_
              refine wlg_det (s := 75) rfl rfl rfl (ow_call call40 rfl (fun w hS => bad_at b _ 0 hS)) rfl ?_
              refine wlg_det (s := 75) rfl rfl rfl (ow_neI rfl rfl) rfl ?_
              refine wl_det (ow_or rfl rfl) rfl ?_
              refine wl_nil ?_
              refine dn_seq ?_
              refine wc_cond_false rfl rfl ?_
              refine wc_skip ?_
              refine dn_block ?_
              refine dn_seq ?_
              refine wc_region ?_
              refine wl_det (ow_add rfl rfl (by first | exact IntWalk.i64_in _ (by omega) | rfl)) rfl ?_
              refine wl_det (ow_move rfl) rfl ?_
              refine wl_nil ?_
              exact dn_back (i + 1, cutV lv 1 rest.length 1) ⟨by simp only; omega, hone2, hrd2⟩ (by simp only; omega) ⟨rfl, rfl, rfl, rfl, lk_int rfl (by simp), trivial⟩ (fun w h => h)
            · have hc34 := hc; simp only [decide_eq_true_eq, decide_eq_false_iff_not, Bool.not_eq_true', Bool.not_eq_false'] at hc
              refine wc_seq ?_
              refine wc_region ?_
              refine wl_det (ow_eqI rfl rfl) rfl ?_
              refine wl_det (ow_assign rfl) rfl ?_
              refine wl_nil ?_
              refine dn_seq ?_
              refine wc_cond rfl (fun hc => ?_) (fun hc => ?_)
              · have hc42 := hc; simp only [decide_eq_true_eq, decide_eq_false_iff_not, Bool.not_eq_true', Bool.not_eq_false'] at hc
                refine wc_weak (ρ' := [(0, va), (6, .pointer (some ⟨b, 0, none⟩)), (8, .pointer (some ⟨b8, 0, none⟩)), (26, va), (27, .int .i64 l.length), (28, .int .i64 i)]) (Γ' := [blk b [lv, .int .i64 0] 161, own v5 (B (lays l)) 5 1, blk b8 l[i].cells 31]) ?_ ⟨rfl, rfl, rfl, rfl, rfl, rfl, trivial⟩ (fun w h => h.b2)
                obtain ⟨rest, hrest⟩ : ∃ r, r = lays (l.drop i) := ⟨_, rfl⟩
                rw [← hrest] at hrd
                have hd1 := lays_drop l i hi
                rw [← hrest] at hd1
                have hlay : l[i].lay = be l[i].num.toNat 4 := by simp [Thing.lay, hc]
                have hlen : l[i].lay.length = 4 := by rw [hlay]; first | exact be_length _ _ | exact hx.hd
                have hn : 4 ≤ rest.length := by rw [hd1, List.length_append, hlen]; omega
                have hdrop : rest.drop 4 = lays (l.drop (i + 1)) := by rw [hd1, List.drop_left' hlen]
                have htake : rest.take 4 = be l[i].num.toNat 4 := by rw [hd1, List.take_left' hlen, hlay]
                have hone2 : (cutV lv 4 rest.length 1).oneCell' = true := cutV_one hone
                have hrd2 := rd_drop 4 hrd hn
                rw [hdrop] at hrd2
                have hval : nbe (rest.take 4) = (UInt32.ofNat l[i].num.toNat).toNat := by rw [htake, nbe_be]; rw [UInt32.toNat_ofNat']
                refine wc_flow (N := [⟨true, [], [], [6], [], [], [], [0], fun u => u = [.pointer (some ⟨b, 0, none⟩)], fun _ => tt⟩,
                    ⟨true, [0], [0], [], [0], [7], [8], [1], fun u => u = [.int .u32 (nbe (rest.take 4) : Int)], fun _ => blk b [cutV lv 4 rest.length 1, .int .i64 0] 161⟩,
                    ⟨true, [], [], [8], [], [], [], [2], fun u => u = [.pointer (some ⟨b8, 1, none⟩)], fun _ => tt⟩,
                    ⟨true, [2], [2], [], [2], [], [9], [3], fun u => u = [.int .u64 (l[i].num.toNat : Int)], fun _ => tt⟩,
                    ⟨true, [2, 3], [3], [], [2, 3], [], [], [4], fun u => u = [.int .u32 ((UInt32.ofNat l[i].num.toNat).toNat : Int)], fun _ => tt⟩,
                    ⟨true, [0, 1, 2, 3, 4], [1, 4], [], [0, 1, 2, 3, 4], [], [], [5], fun u => u = [.bool true], fun _ => tt⟩,
                    ⟨true, [0, 1, 2, 3, 4, 5], [5], [], [0, 1, 2, 3, 4, 5], [], [], [6], fun u => u = [.bool true], fun _ => tt⟩]) [6] [0, 6, 26, 27, 28] [0, 1, 2, 3, 4, 5, 6, 8, 9] (by kernel_rfl) (by kernel_rfl) (by kernel_rfl) ?_ (fun V hV => ?_)
                · refine ⟨?_, ?_, ?_, ?_, ?_, ?_, ?_, trivial⟩
                  · refine obl_run rfl fun V hk => ?_
                    refine ⟨noGuard rfl, fun Δ' => ?_⟩
                    refine ow_mono (ow_weak (ρ' := [(6, .pointer (some ⟨b, 0, none⟩))]) ⟨rfl, trivial⟩ (ow_move rfl)) (fun v w' h => ?_)
                    obtain ⟨e, hS⟩ := h
                    subst e
                    exact ⟨rfl, Sat.add_tt hS⟩
                  · refine obl_run rfl fun V hk => ?_
                    have k0 : V 0 = .pointer (some ⟨b, 0, none⟩) := one_eq (hk 0 (show 0 ∈ [0] by decide))
                    refine ⟨noGuard rfl, fun Δ' => ?_⟩
                    refine ow_mono (ow_weak (ρ' := [(44, .pointer (some ⟨b, 0, none⟩))]) ⟨congrArg some k0, trivial⟩ (ow_call call48 rfl (fun w hS => four_at b lv rest hn hone (hrd.left _) hS))) (fun v w' h => ?_)
                    obtain ⟨rfl, hS⟩ := h
                    exact ⟨rfl, hS⟩
                  · refine obl_run rfl fun V hk => ?_
                    refine ⟨noGuard rfl, fun Δ' => ?_⟩
                    refine ow_mono (ow_weak (ρ' := [(8, .pointer (some ⟨b8, 0, none⟩))]) ⟨rfl, trivial⟩ (ow_field0 1 Try.underlying31 rfl size28 rfl)) (fun v w' h => ?_)
                    obtain ⟨e, hS⟩ := h
                    subst e
                    exact ⟨rfl, Sat.add_tt hS⟩
                  · refine obl_run rfl fun V hk => ?_
                    have k2 : V 2 = .pointer (some ⟨b8, 1, none⟩) := one_eq (hk 2 (show 2 ∈ [2] by decide))
                    refine ⟨noGuard rfl, fun Δ' => ?_⟩
                    refine ow_mono (ow_weak (ρ' := [(46, .pointer (some ⟨b8, 1, none⟩))]) ⟨congrArg some k2, trivial⟩ (ow_load (v := .int .u64 (l[i].num.toNat : Int)) plain28 rfl (cellOf .here rfl))) (fun v w' h => ?_)
                    obtain ⟨e, hS⟩ := h
                    subst e
                    exact ⟨rfl, Sat.add_tt hS⟩
                  · refine obl_run rfl fun V hk => ?_
                    have k3 : V 3 = .int .u64 (l[i].num.toNat : Int) := one_eq (hk 3 (show 3 ∈ [2, 3] by decide))
                    refine ⟨noGuard rfl, fun Δ' => ?_⟩
                    refine ow_mono (ow_weak (ρ' := [(47, .int .u64 (l[i].num.toNat : Int))]) ⟨congrArg some k3, trivial⟩ (ow_conv Try.underlying28 Try.underlying40 rfl (u32_of _))) (fun v w' h => ?_)
                    obtain ⟨e, hS⟩ := h
                    subst e
                    exact ⟨rfl, Sat.add_tt hS⟩
                  · refine obl_run rfl fun V hk => ?_
                    have k1 : V 1 = .int .u32 (nbe (rest.take 4) : Int) := one_eq (hk 1 (show 1 ∈ [0, 1, 2, 3, 4] by decide))
                    have k4 : V 4 = .int .u32 ((UInt32.ofNat l[i].num.toNat).toNat : Int) := one_eq (hk 4 (show 4 ∈ [0, 1, 2, 3, 4] by decide))
                    refine ⟨noGuard rfl, fun Δ' => ?_⟩
                    refine ow_mono (ow_weak (ρ' := [(45, .int .u32 (nbe (rest.take 4) : Int)), (48, .int .u32 ((UInt32.ofNat l[i].num.toNat).toNat : Int))]) ⟨congrArg some k1, congrArg some k4, trivial⟩ (ow_eqI rfl rfl)) (fun v w' h => ?_)
                    obtain ⟨e, hS⟩ := h
                    subst e
                    exact ⟨by first | rfl | simp [hval, upd], Sat.add_tt hS⟩
                  · refine obl_run rfl fun V hk => ?_
                    have k5 : V 5 = .bool true := one_eq (hk 5 (show 5 ∈ [0, 1, 2, 3, 4, 5] by decide))
                    refine ⟨noGuard rfl, fun Δ' => ?_⟩
                    refine ow_mono (ow_weak (ρ' := [(49, .bool true)]) ⟨congrArg some k5, trivial⟩ (ow_assign rfl)) (fun v w' h => ?_)
                    obtain ⟨e, hS⟩ := h
                    subst e
                    exact ⟨rfl, Sat.add_tt hS⟩
                have e6 : V 6 = .bool true := one_eq (hV 6 (show 6 < 7 by decide))
                refine dn_weak (ρ' := [(9, .bool true), (0, va), (6, .pointer (some ⟨b, 0, none⟩)), (26, va), (27, .int .i64 l.length), (28, .int .i64 i)]) ⟨congrArg some e6, rfl, rfl, rfl, rfl, rfl, trivial⟩ (Γ' := [blk b [cutV lv 4 rest.length 1, .int .i64 0] 161, own v5 (B (lays l)) 5 1]) (fun w h => h.tail.r1.tail.r1.tail.r1.tail.r1.tail.r1.tail.r2.tail) ?_
                refine dn_block ?_
                refine dn_seq ?_
                refine wc_seq ?_
                refine wc_region ?_
                refine wl_det (ow_move rfl) rfl ?_
                refine wl_det (ow_not rfl) rfl ?_
                refine wl_det (ow_move rfl) rfl ?_
                refine wlg_det (s := 75) rfl rfl rfl (ow_move rfl) rfl ?_
                refine wlg_det (s := 75) rfl rfl rfl (ow_call call40 rfl (fun w hS => bad_at b _ 0 hS)) rfl ?_
                refine wlg_det (s := 75) rfl rfl rfl (ow_neI rfl rfl) rfl ?_
                refine wl_det (ow_or rfl rfl) rfl ?_
                refine wl_nil ?_
                refine dn_seq ?_
                refine wc_cond_false rfl rfl ?_
                refine wc_skip ?_
                refine dn_block ?_
                refine dn_seq ?_
                refine wc_region ?_
                refine wl_det (ow_add rfl rfl (by first | exact IntWalk.i64_in _ (by omega) | rfl)) rfl ?_
                refine wl_det (ow_move rfl) rfl ?_
                refine wl_nil ?_
                exact dn_back (i + 1, cutV lv 4 rest.length 1) ⟨by simp only; omega, hone2, hrd2⟩ (by simp only; omega) ⟨rfl, rfl, rfl, rfl, lk_int rfl (by simp), trivial⟩ (fun w h => h)
              · have hc42 := hc; simp only [decide_eq_true_eq, decide_eq_false_iff_not, Bool.not_eq_true', Bool.not_eq_false'] at hc
                refine wc_seq ?_
                refine wc_region ?_
                refine wl_det (ow_eqI rfl rfl) rfl ?_
                refine wl_det (ow_assign rfl) rfl ?_
                refine wl_nil ?_
                refine dn_seq ?_
                refine wc_cond rfl (fun hc => ?_) (fun hc => ?_)
                · have hc50 := hc; simp only [decide_eq_true_eq, decide_eq_false_iff_not, Bool.not_eq_true', Bool.not_eq_false'] at hc
                  refine wc_weak (ρ' := [(0, va), (6, .pointer (some ⟨b, 0, none⟩)), (8, .pointer (some ⟨b8, 0, none⟩)), (26, va), (27, .int .i64 l.length), (28, .int .i64 i)]) (Γ' := [blk b [lv, .int .i64 0] 161, own v5 (B (lays l)) 5 1, blk b8 l[i].cells 31]) ?_ ⟨rfl, rfl, rfl, rfl, rfl, rfl, trivial⟩ (fun w h => h.b2)
                  obtain ⟨rest, hrest⟩ : ∃ r, r = lays (l.drop i) := ⟨_, rfl⟩
                  rw [← hrest] at hrd
                  have hd1 := lays_drop l i hi
                  rw [← hrest] at hd1
                  have hlay : l[i].lay = be l[i].num.toNat 8 := by simp [Thing.lay, hc]
                  have hlen : l[i].lay.length = 8 := by rw [hlay]; first | exact be_length _ _ | exact hx.hd
                  have hn : 8 ≤ rest.length := by rw [hd1, List.length_append, hlen]; omega
                  have hdrop : rest.drop 8 = lays (l.drop (i + 1)) := by rw [hd1, List.drop_left' hlen]
                  have htake : rest.take 8 = be l[i].num.toNat 8 := by rw [hd1, List.take_left' hlen, hlay]
                  have hone2 : (cutV lv 8 rest.length 1).oneCell' = true := cutV_one hone
                  have hrd2 := rd_drop 8 hrd hn
                  rw [hdrop] at hrd2
                  have hval : nbe (rest.take 8) = l[i].num.toNat := by rw [htake, nbe_be]; exact Nat.mod_eq_of_lt l[i].num.toNat_lt
                  refine wc_flow (N := [⟨true, [], [], [6], [], [], [], [0], fun u => u = [.pointer (some ⟨b, 0, none⟩)], fun _ => tt⟩,
                      ⟨true, [0], [0], [], [0], [6], [7], [1], fun u => u = [.int .u64 (nbe (rest.take 8) : Int)], fun _ => blk b [cutV lv 8 rest.length 1, .int .i64 0] 161⟩,
                      ⟨true, [], [], [8], [], [], [], [2], fun u => u = [.pointer (some ⟨b8, 1, none⟩)], fun _ => tt⟩,
                      ⟨true, [2], [2], [], [2], [], [8], [3], fun u => u = [.int .u64 (l[i].num.toNat : Int)], fun _ => tt⟩,
                      ⟨true, [0, 1, 2, 3], [1, 3], [], [0, 1, 2, 3], [], [], [4], fun u => u = [.bool true], fun _ => tt⟩,
                      ⟨true, [0, 1, 2, 3, 4], [4], [], [0, 1, 2, 3, 4], [], [], [5], fun u => u = [.bool true], fun _ => tt⟩]) [5] [0, 6, 26, 27, 28] [0, 1, 2, 3, 4, 5, 7, 8] (by kernel_rfl) (by kernel_rfl) (by kernel_rfl) ?_ (fun V hV => ?_)
                  · refine ⟨?_, ?_, ?_, ?_, ?_, ?_, trivial⟩
                    · refine obl_run rfl fun V hk => ?_
                      refine ⟨noGuard rfl, fun Δ' => ?_⟩
                      refine ow_mono (ow_weak (ρ' := [(6, .pointer (some ⟨b, 0, none⟩))]) ⟨rfl, trivial⟩ (ow_move rfl)) (fun v w' h => ?_)
                      obtain ⟨e, hS⟩ := h
                      subst e
                      exact ⟨rfl, Sat.add_tt hS⟩
                    · refine obl_run rfl fun V hk => ?_
                      have k0 : V 0 = .pointer (some ⟨b, 0, none⟩) := one_eq (hk 0 (show 0 ∈ [0] by decide))
                      refine ⟨noGuard rfl, fun Δ' => ?_⟩
                      refine ow_mono (ow_weak (ρ' := [(52, .pointer (some ⟨b, 0, none⟩))]) ⟨congrArg some k0, trivial⟩ (ow_call call35 rfl (fun w hS => eight_at b lv rest hn hone (hrd.left _) hS))) (fun v w' h => ?_)
                      obtain ⟨rfl, hS⟩ := h
                      exact ⟨rfl, hS⟩
                    · refine obl_run rfl fun V hk => ?_
                      refine ⟨noGuard rfl, fun Δ' => ?_⟩
                      refine ow_mono (ow_weak (ρ' := [(8, .pointer (some ⟨b8, 0, none⟩))]) ⟨rfl, trivial⟩ (ow_field0 1 Try.underlying31 rfl size28 rfl)) (fun v w' h => ?_)
                      obtain ⟨e, hS⟩ := h
                      subst e
                      exact ⟨rfl, Sat.add_tt hS⟩
                    · refine obl_run rfl fun V hk => ?_
                      have k2 : V 2 = .pointer (some ⟨b8, 1, none⟩) := one_eq (hk 2 (show 2 ∈ [2] by decide))
                      refine ⟨noGuard rfl, fun Δ' => ?_⟩
                      refine ow_mono (ow_weak (ρ' := [(54, .pointer (some ⟨b8, 1, none⟩))]) ⟨congrArg some k2, trivial⟩ (ow_load (v := .int .u64 (l[i].num.toNat : Int)) plain28 rfl (cellOf .here rfl))) (fun v w' h => ?_)
                      obtain ⟨e, hS⟩ := h
                      subst e
                      exact ⟨rfl, Sat.add_tt hS⟩
                    · refine obl_run rfl fun V hk => ?_
                      have k1 : V 1 = .int .u64 (nbe (rest.take 8) : Int) := one_eq (hk 1 (show 1 ∈ [0, 1, 2, 3] by decide))
                      have k3 : V 3 = .int .u64 (l[i].num.toNat : Int) := one_eq (hk 3 (show 3 ∈ [0, 1, 2, 3] by decide))
                      refine ⟨noGuard rfl, fun Δ' => ?_⟩
                      refine ow_mono (ow_weak (ρ' := [(53, .int .u64 (nbe (rest.take 8) : Int)), (55, .int .u64 (l[i].num.toNat : Int))]) ⟨congrArg some k1, congrArg some k3, trivial⟩ (ow_eqI rfl rfl)) (fun v w' h => ?_)
                      obtain ⟨e, hS⟩ := h
                      subst e
                      exact ⟨by first | rfl | simp [hval, upd], Sat.add_tt hS⟩
                    · refine obl_run rfl fun V hk => ?_
                      have k4 : V 4 = .bool true := one_eq (hk 4 (show 4 ∈ [0, 1, 2, 3, 4] by decide))
                      refine ⟨noGuard rfl, fun Δ' => ?_⟩
                      refine ow_mono (ow_weak (ρ' := [(56, .bool true)]) ⟨congrArg some k4, trivial⟩ (ow_assign rfl)) (fun v w' h => ?_)
                      obtain ⟨e, hS⟩ := h
                      subst e
                      exact ⟨rfl, Sat.add_tt hS⟩
                  have e5 : V 5 = .bool true := one_eq (hV 5 (show 5 < 6 by decide))
                  refine dn_weak (ρ' := [(9, .bool true), (0, va), (6, .pointer (some ⟨b, 0, none⟩)), (26, va), (27, .int .i64 l.length), (28, .int .i64 i)]) ⟨congrArg some e5, rfl, rfl, rfl, rfl, rfl, trivial⟩ (Γ' := [blk b [cutV lv 8 rest.length 1, .int .i64 0] 161, own v5 (B (lays l)) 5 1]) (fun w h => h.tail.r1.tail.r1.tail.r1.tail.r1.tail.r2.tail) ?_
                  refine dn_block ?_
                  refine dn_seq ?_
                  refine wc_seq ?_
                  refine wc_region ?_
                  refine wl_det (ow_move rfl) rfl ?_
                  refine wl_det (ow_not rfl) rfl ?_
                  refine wl_det (ow_move rfl) rfl ?_
                  refine wlg_det (s := 75) rfl rfl rfl (ow_move rfl) rfl ?_
                  refine wlg_det (s := 75) rfl rfl rfl (ow_call call40 rfl (fun w hS => bad_at b _ 0 hS)) rfl ?_
                  refine wlg_det (s := 75) rfl rfl rfl (ow_neI rfl rfl) rfl ?_
                  refine wl_det (ow_or rfl rfl) rfl ?_
                  refine wl_nil ?_
                  refine dn_seq ?_
                  refine wc_cond_false rfl rfl ?_
                  refine wc_skip ?_
                  refine dn_block ?_
                  refine dn_seq ?_
                  refine wc_region ?_
                  refine wl_det (ow_add rfl rfl (by first | exact IntWalk.i64_in _ (by omega) | rfl)) rfl ?_
                  refine wl_det (ow_move rfl) rfl ?_
                  refine wl_nil ?_
                  exact dn_back (i + 1, cutV lv 8 rest.length 1) ⟨by simp only; omega, hone2, hrd2⟩ (by simp only; omega) ⟨rfl, rfl, rfl, rfl, lk_int rfl (by simp), trivial⟩ (fun w h => h)
                · have hc50 := hc; simp only [decide_eq_true_eq, decide_eq_false_iff_not, Bool.not_eq_true', Bool.not_eq_false'] at hc
                  refine wc_seq ?_
                  refine wc_region ?_
                  refine wl_det (ow_eqI rfl rfl) rfl ?_
                  refine wl_det (ow_assign rfl) rfl ?_
                  refine wl_nil ?_
                  refine dn_seq ?_
                  refine wc_cond rfl (fun hc => ?_) (fun hc => ?_)
                  · have hc57 := hc; simp only [decide_eq_true_eq, decide_eq_false_iff_not, Bool.not_eq_true', Bool.not_eq_false'] at hc
                    refine wc_weak (ρ' := [(0, va), (6, .pointer (some ⟨b, 0, none⟩)), (8, .pointer (some ⟨b8, 0, none⟩)), (26, va), (27, .int .i64 l.length), (28, .int .i64 i)]) (Γ' := [blk b [lv, .int .i64 0] 161, own v5 (B (lays l)) 5 1, blk b8 l[i].cells 31]) ?_ ⟨rfl, rfl, rfl, rfl, rfl, rfl, trivial⟩ (fun w h => h.b2)
                    obtain ⟨rest, hrest⟩ : ∃ r, r = lays (l.drop i) := ⟨_, rfl⟩
                    rw [← hrest] at hrd
                    have hd1 := lays_drop l i hi
                    rw [← hrest] at hd1
                    have hlay : l[i].lay = l[i].d := by simp [Thing.lay, hc]
                    have hlen : l[i].lay.length = 32 := by rw [hlay]; first | exact be_length _ _ | exact hx.hd
                    have hn : 32 ≤ rest.length := by rw [hd1, List.length_append, hlen]; omega
                    have hdrop : rest.drop 32 = lays (l.drop (i + 1)) := by rw [hd1, List.drop_left' hlen]
                    have htake : rest.take 32 = l[i].d := by rw [hd1, List.take_left' hlen, hlay]
                    have hone2 : (cutV lv 32 rest.length 1).oneCell' = true := cutV_one hone
                    have hrd2 := rd_drop 32 hrd hn
                    rw [hdrop] at hrd2
                    refine wc_flow (N := [⟨true, [], [], [6], [], [], [], [0], fun u => u = [.pointer (some ⟨b, 0, none⟩)], fun _ => tt⟩,
                        ⟨true, [0], [0], [], [0], [6], [7], [1], fun u => u = [.agg (B (rest.take 32)).toArray], fun _ => blk b [cutV lv 32 rest.length 1, .int .i64 0] 161⟩,
                        ⟨true, [], [], [8], [], [], [], [2], fun u => u = [.pointer (some ⟨b8, 2, none⟩)], fun _ => tt⟩,
                        ⟨true, [2], [2], [], [2], [], [8], [3], fun u => u = [.agg (B l[i].d).toArray], fun _ => tt⟩,
                        ⟨true, [0, 1, 2, 3], [1, 3], [], [0, 1, 2, 3], [], [], [4], fun u => u = [.bool true], fun _ => tt⟩,
                        ⟨true, [0, 1, 2, 3, 4], [4], [], [0, 1, 2, 3, 4], [], [], [5], fun u => u = [.bool true], fun _ => tt⟩]) [5] [0, 6, 26, 27, 28] [0, 1, 2, 3, 4, 5, 7, 8] (by kernel_rfl) (by kernel_rfl) (by kernel_rfl) ?_ (fun V hV => ?_)
                    · refine ⟨?_, ?_, ?_, ?_, ?_, ?_, trivial⟩
                      · refine obl_run rfl fun V hk => ?_
                        refine ⟨noGuard rfl, fun Δ' => ?_⟩
                        refine ow_mono (ow_weak (ρ' := [(6, .pointer (some ⟨b, 0, none⟩))]) ⟨rfl, trivial⟩ (ow_move rfl)) (fun v w' h => ?_)
                        obtain ⟨e, hS⟩ := h
                        subst e
                        exact ⟨rfl, Sat.add_tt hS⟩
                      · refine obl_run rfl fun V hk => ?_
                        have k0 : V 0 = .pointer (some ⟨b, 0, none⟩) := one_eq (hk 0 (show 0 ∈ [0] by decide))
                        refine ⟨noGuard rfl, fun Δ' => ?_⟩
                        refine ow_mono (ow_weak (ρ' := [(59, .pointer (some ⟨b, 0, none⟩))]) ⟨congrArg some k0, trivial⟩ (ow_call call36 rfl (fun w hS => sum_at b lv rest hn hone (hrd.left _) hS))) (fun v w' h => ?_)
                        obtain ⟨rfl, hS⟩ := h
                        exact ⟨rfl, hS⟩
                      · refine obl_run rfl fun V hk => ?_
                        refine ⟨noGuard rfl, fun Δ' => ?_⟩
                        refine ow_mono (ow_weak (ρ' := [(8, .pointer (some ⟨b8, 0, none⟩))]) ⟨rfl, trivial⟩ (ow_field0 2 Try.underlying31 rfl size29 rfl)) (fun v w' h => ?_)
                        obtain ⟨e, hS⟩ := h
                        subst e
                        exact ⟨rfl, Sat.add_tt hS⟩
                      · refine obl_run rfl fun V hk => ?_
                        have k2 : V 2 = .pointer (some ⟨b8, 2, none⟩) := one_eq (hk 2 (show 2 ∈ [2] by decide))
                        refine ⟨noGuard rfl, fun Δ' => ?_⟩
                        refine ow_mono (ow_weak (ρ' := [(61, .pointer (some ⟨b8, 2, none⟩))]) ⟨congrArg some k2, trivial⟩ (ow_load_agg (B l[i].d) rfl (rangeOf [.int .i64 l[i].kind, .int .u64 (l[i].num.toNat : Int)] (B l[i].d) [l[i].pv, .int .i64 l[i].most] .here rfl rfl) Try.underlying29 rfl (by rw [size29, B_length, hx.hd]))) (fun v w' h => ?_)
                        obtain ⟨e, hS⟩ := h
                        subst e
                        exact ⟨rfl, Sat.add_tt hS⟩
                      · refine obl_run rfl fun V hk => ?_
                        have k1 : V 1 = .agg (B (rest.take 32)).toArray := one_eq (hk 1 (show 1 ∈ [0, 1, 2, 3] by decide))
                        have k3 : V 3 = .agg (B l[i].d).toArray := one_eq (hk 3 (show 3 ∈ [0, 1, 2, 3] by decide))
                        refine ⟨noGuard rfl, fun Δ' => ?_⟩
                        refine ow_mono (ow_weak (ρ' := [(60, .agg (B (rest.take 32)).toArray), (62, .agg (B l[i].d).toArray)]) ⟨congrArg some k1, congrArg some k3, trivial⟩ (ow_eq_bytes (r := true) (rest.take 32) l[i].d Try.underlying85 Try.underlying5 size5 (by kernel_rfl) (by rw [htake, hx.hd]) hx.hd rfl rfl (by rw [htake]; simp))) (fun v w' h => ?_)
                        obtain ⟨e, hS⟩ := h
                        subst e
                        exact ⟨by first | rfl | simp [hval, upd], Sat.add_tt hS⟩
                      · refine obl_run rfl fun V hk => ?_
                        have k4 : V 4 = .bool true := one_eq (hk 4 (show 4 ∈ [0, 1, 2, 3, 4] by decide))
                        refine ⟨noGuard rfl, fun Δ' => ?_⟩
                        refine ow_mono (ow_weak (ρ' := [(63, .bool true)]) ⟨congrArg some k4, trivial⟩ (ow_assign rfl)) (fun v w' h => ?_)
                        obtain ⟨e, hS⟩ := h
                        subst e
                        exact ⟨rfl, Sat.add_tt hS⟩
                    have e5 : V 5 = .bool true := one_eq (hV 5 (show 5 < 6 by decide))
                    refine dn_weak (ρ' := [(9, .bool true), (0, va), (6, .pointer (some ⟨b, 0, none⟩)), (26, va), (27, .int .i64 l.length), (28, .int .i64 i)]) ⟨congrArg some e5, rfl, rfl, rfl, rfl, rfl, trivial⟩ (Γ' := [blk b [cutV lv 32 rest.length 1, .int .i64 0] 161, own v5 (B (lays l)) 5 1]) (fun w h => h.tail.r1.tail.r1.tail.r1.tail.r1.tail.r2.tail) ?_
                    refine dn_block ?_
                    refine dn_seq ?_
                    refine wc_seq ?_
                    refine wc_region ?_
                    refine wl_det (ow_move rfl) rfl ?_
                    refine wl_det (ow_not rfl) rfl ?_
                    refine wl_det (ow_move rfl) rfl ?_
                    refine wlg_det (s := 75) rfl rfl rfl (ow_move rfl) rfl ?_
                    refine wlg_det (s := 75) rfl rfl rfl (ow_call call40 rfl (fun w hS => bad_at b _ 0 hS)) rfl ?_
                    refine wlg_det (s := 75) rfl rfl rfl (ow_neI rfl rfl) rfl ?_
                    refine wl_det (ow_or rfl rfl) rfl ?_
                    refine wl_nil ?_
                    refine dn_seq ?_
                    refine wc_cond_false rfl rfl ?_
                    refine wc_skip ?_
                    refine dn_block ?_
                    refine dn_seq ?_
                    refine wc_region ?_
                    refine wl_det (ow_add rfl rfl (by first | exact IntWalk.i64_in _ (by omega) | rfl)) rfl ?_
                    refine wl_det (ow_move rfl) rfl ?_
                    refine wl_nil ?_
                    exact dn_back (i + 1, cutV lv 32 rest.length 1) ⟨by simp only; omega, hone2, hrd2⟩ (by simp only; omega) ⟨rfl, rfl, rfl, rfl, lk_int rfl (by simp), trivial⟩ (fun w h => h)
                  · have hc57 := hc; simp only [decide_eq_true_eq, decide_eq_false_iff_not, Bool.not_eq_true', Bool.not_eq_false'] at hc
                    refine wc_seq ?_
                    refine wc_region ?_
                    refine wl_det (ow_eqI rfl rfl) rfl ?_
                    refine wl_det (ow_assign rfl) rfl ?_
                    refine wl_nil ?_
                    refine dn_seq ?_
                    refine wc_cond rfl (fun hc => ?_) (fun hc => ?_)
                    · have hc64 := hc; simp only [decide_eq_true_eq, decide_eq_false_iff_not, Bool.not_eq_true', Bool.not_eq_false'] at hc
                      refine wc_weak (ρ' := [(0, va), (6, .pointer (some ⟨b, 0, none⟩)), (8, .pointer (some ⟨b8, 0, none⟩)), (26, va), (27, .int .i64 l.length), (28, .int .i64 i)]) (Γ' := [blk b [lv, .int .i64 0] 161, own v5 (B (lays l)) 5 1, blk b8 l[i].cells 31]) ?_ ⟨rfl, rfl, rfl, rfl, rfl, rfl, trivial⟩ (fun w h => h.b2)
                      obtain ⟨rest, hrest⟩ : ∃ r, r = lays (l.drop i) := ⟨_, rfl⟩
                      rw [← hrest] at hrd
                      have hd1 := lays_drop l i hi
                      rw [← hrest] at hd1
                      have hlay : l[i].lay = be l[i].p.length 4 ++ l[i].p := by simp [Thing.lay, hc]
                      have hrest4 : rest = be l[i].p.length 4 ++ (l[i].p ++ lays (l.drop (i + 1))) := by rw [hd1, hlay, List.append_assoc]
                      have hd4 : rest.drop 4 = l[i].p ++ lays (l.drop (i + 1)) := by rw [hrest4, List.drop_left' (be_length _ 4)]
                      have hone2 : (cutV (cutV lv 4 rest.length 1) l[i].p.length (rest.drop 4).length 1).oneCell' = true := cutV_one (cutV_one hone)
                      have hrd2 := rd_drop l[i].p.length (rd_drop 4 hrd (by rw [hrest4]; simp [be_length])) (by rw [hd4]; simp)
                      rw [show (rest.drop 4).drop l[i].p.length = lays (l.drop (i + 1)) by rw [hd4, List.drop_left' rfl]] at hrd2
                      refine wc_flow (N := [⟨true, [], [], [6], [], [], [], [0], fun u => u = [.pointer (some ⟨b, 0, none⟩)], fun _ => tt⟩,
                          ⟨true, [0], [0], [], [0], [8], [9], [1], fun _ => True, fun u => match u with | [v] => frm [own v (B l[i].p) 5 1, blk b [cutV (cutV lv 4 rest.length 1) l[i].p.length (rest.drop 4).length 1, .int .i64 0] 161] | _ => tt⟩,
                          ⟨true, [0, 1], [1], [], [0, 1], [], [1], [2], fun u => u = [.string ⟨(l[i].p).toArray⟩], fun _ => tt⟩,
                          ⟨true, [], [], [8], [], [], [], [3], fun u => u = [.pointer (some ⟨b8, 34, none⟩)], fun _ => tt⟩,
                          ⟨true, [3], [3], [], [3], [], [10], [4], fun u => u = [l[i].pv], fun _ => tt⟩,
                          ⟨true, [3, 4], [4], [], [3, 4], [], [], [5], fun u => u = [.string ⟨(l[i].p).toArray⟩], fun _ => tt⟩,
                          ⟨true, [0, 1, 2, 3, 4, 5], [2, 5], [], [0, 1, 2, 3, 4, 5], [], [], [6], fun u => u = [.bool true], fun _ => tt⟩,
                          ⟨true, [0, 1, 2, 3, 4, 5, 6], [6], [], [0, 1, 2, 3, 4, 5, 6], [], [], [7], fun u => u = [.bool true], fun _ => tt⟩]) [7] [0, 6, 26, 27, 28] [0, 1, 2, 3, 4, 5, 6, 7, 9, 10] (by kernel_rfl) (by kernel_rfl) (by kernel_rfl) ?_ (fun V hV => ?_)
                      · refine ⟨?_, ?_, ?_, ?_, ?_, ?_, ?_, ?_, trivial⟩
                        · refine obl_run rfl fun V hk => ?_
                          refine ⟨noGuard rfl, fun Δ' => ?_⟩
                          refine ow_mono (ow_weak (ρ' := [(6, .pointer (some ⟨b, 0, none⟩))]) ⟨rfl, trivial⟩ (ow_move rfl)) (fun v w' h => ?_)
                          obtain ⟨e, hS⟩ := h
                          subst e
                          exact ⟨rfl, Sat.add_tt hS⟩
                        · refine obl_run rfl fun V hk => ?_
                          have k0 : V 0 = .pointer (some ⟨b, 0, none⟩) := one_eq (hk 0 (show 0 ∈ [0] by decide))
                          refine ⟨noGuard rfl, fun Δ' => ?_⟩
                          refine ow_mono (ow_weak (ρ' := [(66, .pointer (some ⟨b, 0, none⟩))]) ⟨congrArg some k0, trivial⟩ (ow_call call37 rfl (fun w hS => blob_at b lv rest 4096 l[i].p (lays (l.drop (i + 1))) hrest4 hpl (by omega) hone (hrd.left _) hS))) (fun v w' h => ?_)
                          obtain ⟨x, _, rfl, hS⟩ := h
                          exact ⟨trivial, Sat.gather (Γ := [_, _]) hS⟩
                        · refine obl_run rfl fun V hk => ?_
                          refine ⟨noGuard rfl, fun Δ' => ?_⟩
                          refine ow_mono (ow_weak (ρ' := [(67, V 1)]) ⟨rfl, trivial⟩ (ow_str Try.underlying26 Try.underlying5 Try.underlying9 rfl (own_reads.inFrm _))) (fun v w' h => ?_)
                          obtain ⟨e, hS⟩ := h
                          subst e
                          exact ⟨rfl, Sat.add_tt hS⟩
                        · refine obl_run rfl fun V hk => ?_
                          refine ⟨noGuard rfl, fun Δ' => ?_⟩
                          refine ow_mono (ow_weak (ρ' := [(8, .pointer (some ⟨b8, 0, none⟩))]) ⟨rfl, trivial⟩ (ow_field0 34 Try.underlying31 rfl size26 rfl)) (fun v w' h => ?_)
                          obtain ⟨e, hS⟩ := h
                          subst e
                          exact ⟨rfl, Sat.add_tt hS⟩
                        · refine obl_run rfl fun V hk => ?_
                          have k3 : V 3 = .pointer (some ⟨b8, 34, none⟩) := one_eq (hk 3 (show 3 ∈ [3] by decide))
                          refine ⟨noGuard rfl, fun Δ' => ?_⟩
                          refine ow_mono (ow_weak (ρ' := [(69, .pointer (some ⟨b8, 34, none⟩))]) ⟨congrArg some k3, trivial⟩ (ow_load (v := l[i].pv) plain26 rfl (cellOf .here (Thing.cell34 hx.hd)))) (fun v w' h => ?_)
                          obtain ⟨e, hS⟩ := h
                          subst e
                          exact ⟨rfl, Sat.add_tt hS⟩
                        · refine obl_run rfl fun V hk => ?_
                          have k4 : V 4 = l[i].pv := one_eq (hk 4 (show 4 ∈ [3, 4] by decide))
                          refine ⟨noGuard rfl, fun Δ' => ?_⟩
                          refine ow_mono (ow_weak (ρ' := [(70, l[i].pv)]) ⟨congrArg some k4, trivial⟩ (ow_str Try.underlying26 Try.underlying5 Try.underlying9 rfl (hx.hp.left _))) (fun v w' h => ?_)
                          obtain ⟨e, hS⟩ := h
                          subst e
                          exact ⟨rfl, Sat.add_tt hS⟩
                        · refine obl_run rfl fun V hk => ?_
                          have k2 : V 2 = .string ⟨(l[i].p).toArray⟩ := one_eq (hk 2 (show 2 ∈ [0, 1, 2, 3, 4, 5] by decide))
                          have k5 : V 5 = .string ⟨(l[i].p).toArray⟩ := one_eq (hk 5 (show 5 ∈ [0, 1, 2, 3, 4, 5] by decide))
                          refine ⟨noGuard rfl, fun Δ' => ?_⟩
                          refine ow_mono (ow_weak (ρ' := [(68, .string ⟨(l[i].p).toArray⟩), (71, .string ⟨(l[i].p).toArray⟩)]) ⟨congrArg some k2, congrArg some k5, trivial⟩ (ow_eq_str (r := true) rfl rfl (by simp))) (fun v w' h => ?_)
                          obtain ⟨e, hS⟩ := h
                          subst e
                          exact ⟨rfl, Sat.add_tt hS⟩
                        · refine obl_run rfl fun V hk => ?_
                          have k6 : V 6 = .bool true := one_eq (hk 6 (show 6 ∈ [0, 1, 2, 3, 4, 5, 6] by decide))
                          refine ⟨noGuard rfl, fun Δ' => ?_⟩
                          refine ow_mono (ow_weak (ρ' := [(72, .bool true)]) ⟨congrArg some k6, trivial⟩ (ow_assign rfl)) (fun v w' h => ?_)
                          obtain ⟨e, hS⟩ := h
                          subst e
                          exact ⟨rfl, Sat.add_tt hS⟩
                      have e7 : V 7 = .bool true := one_eq (hV 7 (show 7 < 8 by decide))
                      refine dn_weak (ρ' := [(9, .bool true), (0, va), (6, .pointer (some ⟨b, 0, none⟩)), (26, va), (27, .int .i64 l.length), (28, .int .i64 i)]) ⟨congrArg some e7, rfl, rfl, rfl, rfl, rfl, trivial⟩ (Γ' := [blk b [cutV (cutV lv 4 rest.length 1) l[i].p.length (rest.drop 4).length 1, .int .i64 0] 161, own v5 (B (lays l)) 5 1]) (fun w h => (Sat.scatter (Γ := [_, _]) (h.tail.r1.tail.r1.tail.r1.tail.r1.tail.r1.tail.r1.tail.r2.tail)).tail) ?_
                      refine dn_block ?_
                      refine dn_seq ?_
                      refine wc_seq ?_
                      refine wc_region ?_
                      refine wl_det (ow_move rfl) rfl ?_
                      refine wl_det (ow_not rfl) rfl ?_
                      refine wl_det (ow_move rfl) rfl ?_
                      refine wlg_det (s := 75) rfl rfl rfl (ow_move rfl) rfl ?_
                      refine wlg_det (s := 75) rfl rfl rfl (ow_call call40 rfl (fun w hS => bad_at b _ 0 hS)) rfl ?_
                      refine wlg_det (s := 75) rfl rfl rfl (ow_neI rfl rfl) rfl ?_
                      refine wl_det (ow_or rfl rfl) rfl ?_
                      refine wl_nil ?_
                      refine dn_seq ?_
                      refine wc_cond_false rfl rfl ?_
                      refine wc_skip ?_
                      refine dn_block ?_
                      refine dn_seq ?_
                      refine wc_region ?_
                      refine wl_det (ow_add rfl rfl (by first | exact IntWalk.i64_in _ (by omega) | rfl)) rfl ?_
                      refine wl_det (ow_move rfl) rfl ?_
                      refine wl_nil ?_
                      exact dn_back (i + 1, cutV (cutV lv 4 rest.length 1) l[i].p.length (rest.drop 4).length 1) ⟨by simp only; omega, hone2, hrd2⟩ (by simp only; omega) ⟨rfl, rfl, rfl, rfl, lk_int rfl (by simp), trivial⟩ (fun w h => h)
                    · have hc64 := hc; simp only [decide_eq_true_eq, decide_eq_false_iff_not, Bool.not_eq_true', Bool.not_eq_false'] at hc
                      refine wc_skip ?_
                      refine dn_block ?_
                      refine dn_seq ?_
                      refine wc_seq ?_
                      refine wc_region ?_
                      refine wl_det (ow_move rfl) rfl ?_
                      refine wl_det (ow_not rfl) rfl ?_
                      refine wl_det (ow_move rfl) rfl ?_
                      refine wlg_det (s := 75) rfl rfl rfl (ow_move rfl) rfl ?_
                      refine wl_pieces (fun w h => h.r1) ?_
                      refine wlg_det (s := 75) rfl rfl rfl (ow_call call40 rfl (fun w hS => bad_at b _ 0 hS)) rfl ?_
                      refine wlg_det (s := 75) rfl rfl rfl (ow_neI rfl rfl) rfl ?_
                      refine wl_det (ow_or rfl rfl) rfl ?_
                      refine wl_nil ?_
                      refine dn_seq ?_
                      refine wc_cond_false rfl rfl ?_
                      refine wc_skip ?_
                      refine dn_block ?_
                      refine dn_seq ?_
                      refine wc_region ?_
                      refine wl_det (ow_add rfl rfl (by first | exact IntWalk.i64_in _ (by omega) | rfl)) rfl ?_
                      refine wl_det (ow_move rfl) rfl ?_
                      refine wl_nil ?_
                      have hlay : l[i].lay = [] := by simp [Thing.lay, *]
                      have hd1 := lays_drop l i hi
                      rw [hlay, List.nil_append] at hd1
                      rw [hd1] at hrd
                      exact dn_back (i + 1, lv) ⟨by simp only; omega, hone, hrd⟩ (by simp only; omega) ⟨rfl, rfl, rfl, rfl, lk_int rfl (by simp), trivial⟩ (fun w h => h.r1.tail)
          · have hc29 := hc; simp only [decide_eq_true_eq, decide_eq_false_iff_not, Bool.not_eq_true', Bool.not_eq_false'] at hc
            refine wc_exit ?_
            refine dn_then_exit ?_
            refine dn_then_exit ?_
            refine dn_block_this ?_
            refine dn_seq ?_
            refine wc_seq ?_
            refine wc_region ?_
            refine wl_det_call (ow_mono (ow_call call21 rfl (fun w hS => awake01_any hS)) (fun v w' h => by obtain ⟨x, _, rfl, hS⟩ := h; exact ⟨rfl, Sat.dropl hS⟩)) rfl ?_
            refine wl_det (ow_move rfl) rfl ?_
            refine wlg_det (s := 82) rfl rfl rfl (ow_move rfl) rfl ?_
            have hi : i = l.length := by omega
            subst hi
            rw [List.drop_length] at hrd
            refine wlg_det (s := 82) rfl rfl rfl (ow_call call41 rfl (fun w hS => end_at b lv hone (hrd.left []) hS)) rfl ?_
            refine wlg_det (s := 82) rfl rfl rfl (ow_eqI rfl rfl) rfl ?_
            refine wl_det (ow_and rfl rfl) rfl ?_
            refine wl_det (ow_assign rfl) rfl ?_
            refine wl_nil ?_
            refine dn_seq ?_
            refine wc_ret ?_
            exact dn_ret1 rfl rfl (fun w hS => ⟨_, rfl, rfl, hS.below⟩)

end Go.Proofs.Toll
