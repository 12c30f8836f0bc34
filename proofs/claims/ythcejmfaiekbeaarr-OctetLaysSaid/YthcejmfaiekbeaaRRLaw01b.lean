/- The statements OctetLays and OctetOnes as walks. Printed by tools/gen.py out of tools/law01b.an.py. -/
import Derived.Test.YthcejmfaiekbeaaRRLaw01
set_option linter.unusedVariables false
set_option linter.unusedSimpArgs false
namespace Go.Proofs.Toll
open Go Go.Toll Go.RowKit
set_option maxRecDepth 100000 in
theorem OctetLays_any (w : World) (lv nv : Value) (l : List Thing) (ns : List UInt64) (hlr : RdItems w [] lv l) (hns : Reads 1 w nv (V64 ns)) (hb : l.length ≤ 140737488355328) (hnb : 8 * ns.length ≤ 140737488351232) :
    Calls Try.prog 3 #[lv, nv] w (Ret fun v w' => v = .bool true ∧ Below w.heap.size w w') := by
  have hS := Sat.start w
  have hl := hlr
  refine calls_of_wc Try.func3 rfl rfl (Nat.le_of_ble_eq_true rfl) ?_ w hS
  clear hS
  refine wc_seq ?_
  refine wc_region ?_
  refine wl_det (ow_assign rfl) rfl ?_
  refine wl_nil ?_
  refine dn_seq ?_
  refine wc_seq ?_
  refine wc_seq ?_
  refine wc_region ?_
  refine wl_det (ow_move rfl) rfl ?_
  refine wl_det_call (ow_call call20 rfl (fun w hS => fits_any lv l hl hb hS)) rfl ?_
  refine wl_det (ow_not rfl) rfl ?_
  refine wl_nil ?_
  refine dn_seq ?_
  refine wc_cond rfl (fun hc => ?_) (fun hc => ?_)
  · have hc14 := hc; simp only [decide_eq_true_eq, decide_eq_false_iff_not, Bool.not_eq_true', Bool.not_eq_false'] at hc
    refine wc_seq ?_
    refine wc_region ?_
    refine wl_some (ow_call call21 rfl (fun w hS => awake01_any hS)) rfl (fun Δ _ => ?_)
    refine wl_det (ow_assign rfl) rfl ?_
    refine wl_nil ?_
    refine dn_seq ?_
    refine wc_ret ?_
    refine dn_then_ret ?_
    exact dn_ret1 rfl rfl (fun w hS => ⟨_, rfl, rfl, hS.below⟩)
  · have hc14 := hc; simp only [decide_eq_true_eq, decide_eq_false_iff_not, Bool.not_eq_true', Bool.not_eq_false'] at hc
    have hfit : (l.all fun x => decide (x.p.length ≤ 4096)) = true ∧ l.length ≤ 40 := by
      have h := hc
      unfold fitsB at h
      rw [Bool.and_eq_true, decide_eq_true_eq] at h
      exact h
    have hlay : ∀ k, (lays (l.take k)).length ≤ 164000 := fun k => by
      have h1 := lays_le (l := l.take k) (fun x hx => (hl.2 x (List.mem_of_mem_take hx)).hd) (fun x hx => by have := List.all_eq_true.1 hfit.1 x (List.mem_of_mem_take hx); simpa using this)
      have h2 : (l.take k).length ≤ 40 := Nat.le_trans (List.length_take_le' _ _) hfit.2
      omega
    have hplen : ∀ x ∈ l, x.p.length ≤ 4096 := fun x hx => by have := List.all_eq_true.1 hfit.1 x hx; simpa using this
    refine wc_skip ?_
    refine dn_seq ?_
    refine wc_seq ?_
    refine wc_region ?_
    refine wl_det (ow_assign rfl) rfl ?_
    refine wl_nil ?_
    refine dn_seq ?_
    refine wc_seq ?_
    refine wc_region ?_
    refine wl_det (ow_assign rfl) rfl ?_
    refine wl_nil ?_
    refine dn_seq ?_
    refine wc_seq ?_
    refine wc_seq ?_
    refine wc_pieces (fun w h => (Sat.own_nil (T := 5) (sz := 1) (Sat.own_nil (T := 5) (sz := 1) h))) ?_
    refine wc_region ?_
    refine wl_det (ow_move rfl) rfl ?_
    refine wl_det (ow_len Try.underlying22 rfl ((hl.1.cons _).cons _) (by decide) hl.length) rfl ?_
    refine wl_det (ow_move rfl) rfl ?_
    refine wl_nil ?_
    refine dn_seq ?_
    refine wc_block ?_
    refine wc_loop (α := Nat × Value × Value) (fun x => x.1 ≤ l.length) (fun x => [(1, nv), (5, x.2.1), (6, x.2.2), (16, lv), (17, .int .i64 l.length), (18, .int .i64 x.1)]) (fun x => [own x.2.1 (B (lays (l.take x.1))) 5 1, own x.2.2 (B (lays (l.take x.1))) 5 1]) (fun x => l.length - x.1) (0, .slice none 0 0, .slice none 0 0) (Nat.zero_le _) ⟨rfl, rfl, rfl, rfl, rfl, rfl, trivial⟩ (fun w h => h) ?_
    · rintro ⟨i, vo, vw⟩ hi0
      simp only at hi0 ⊢
      have hli := hlay i
      refine wc_seq ?_
      refine wc_region ?_
      refine wl_det (ow_ltI rfl rfl) rfl ?_
      refine wl_nil ?_
      refine dn_seq ?_
      refine wc_seq ?_
      refine wc_cond rfl (fun hc => ?_) (fun hc => ?_)
      · have hc19 := hc; simp only [decide_eq_true_eq, decide_eq_false_iff_not, Bool.not_eq_true', Bool.not_eq_false'] at hc
        refine wc_skip ?_
        refine dn_seq ?_
        refine wc_seq ?_
        refine wc_block ?_
        refine wc_seq ?_
        refine wc_region ?_
        refine wl_some (ow_indexAddr_rd Try.underlying22 size31 rfl rfl ((hl.1.cons _).cons _) (by decide) (by omega) (by rw [hl.length]; omega)) rfl (fun ad had => ?_)
        have hi : i < l.length := by omega
        have hpl := hplen l[i] (List.getElem_mem hi)
        have hx := hl.2 l[i] (List.getElem_mem hi)
        rw [hl.chunk i hi] at had
        refine wl_det (ow_load_rd _ rfl had Try.underlying31 rfl (by rw [size31, Thing.cells_length hx.hd])) rfl ?_
        refine wl_some (ow_alloc z31 zero31 rfl) rfl (fun b8 _ => ?_)
        refine wl_eff (ow_store_agg [] z31 [] rfl rfl (by rw [size31, Thing.cells_length hx.hd]) (Thing.cells_one hx) (by simp) rfl (by rw [Thing.cells_length hx.hd]; rfl) .here) ?_
        simp only [List.nil_append, List.append_nil]
        refine wl_nil ?_
        refine dn_seq ?_
        refine wc_seq ?_
        refine wc_region ?_
        refine wl_det (ow_move rfl) rfl ?_
        refine wl_det (ow_load_agg l[i].cells rfl (wholeOf .here) Try.underlying31 rfl (by rw [size31, Thing.cells_length hx.hd])) rfl ?_
        refine wl_pieces (fun w h => h.r1) ?_
        refine wl_some (ow_call call22 rfl (fun w hS => lay_any _ _ l[i] (((hx.cons _).cons _)) (by rw [B_length]; omega) hS)) rfl (fun v24 _ => ?_)
        refine wl_det (ow_assign rfl) rfl ?_
        refine wl_nil ?_
        refine dn_seq ?_
        refine wc_region ?_
        refine wl_det (ow_move rfl) rfl ?_
        refine wl_det (ow_load_agg l[i].cells rfl (wholeOf (.there .here)) Try.underlying31 rfl (by rw [size31, Thing.cells_length hx.hd])) rfl ?_
        refine wl_pieces (fun w h => h.r2) ?_
        refine wl_some (ow_call call23 rfl (fun w hS => laid_any _ _ l[i] (((hx.cons _).cons _)) (by omega) hS)) rfl (fun v27 _ => ?_)
        refine wl_det (ow_assign rfl) rfl ?_
        refine wl_nil ?_
        refine dn_block ?_
        refine dn_seq ?_
        refine wc_region ?_
        refine wl_det (ow_add rfl rfl (by first | exact IntWalk.i64_in _ (by omega) | rfl)) rfl ?_
        refine wl_det (ow_move rfl) rfl ?_
        refine wl_nil ?_
        refine dn_back (i + 1, v24, v27) (by simp only; omega) (by simp only; omega) ⟨rfl, rfl, rfl, rfl, rfl, lk_int rfl (by simp), trivial⟩ (fun w h => ?_)
        simp only
        rw [lays_take l i hi, B_append]
        rw [B_append] at h
        exact (h.r1.r2.tail)
      · have hc19 := hc; simp only [decide_eq_true_eq, decide_eq_false_iff_not, Bool.not_eq_true', Bool.not_eq_false'] at hc
        refine wc_exit ?_
        refine dn_then_exit ?_
        refine dn_then_exit ?_
        refine dn_block_this ?_
        refine dn_seq ?_
        refine wc_seq ?_
        refine wc_region ?_
        refine wl_det (ow_assign rfl) rfl ?_
        refine wl_nil ?_
        refine dn_seq ?_
        refine wc_seq ?_
        refine wc_seq ?_
        refine wc_pieces (fun w h => (Sat.own_nil (T := 5) (sz := 1) h)) ?_
        refine wc_region ?_
        refine wl_det (ow_move rfl) rfl ?_
        refine wl_det (ow_len Try.underlying23 rfl (Rd.old hns) (by decide) (m := ns.length) (by simp)) rfl ?_
        refine wl_det (ow_move rfl) rfl ?_
        refine wl_nil ?_
        refine dn_seq ?_
        refine wc_block ?_
        refine wc_loop (α := Nat × Value) (fun x => x.1 ≤ ns.length) (fun x => [(1, nv), (5, vo), (6, vw), (9, x.2), (29, nv), (30, .int .i64 ns.length), (31, .int .i64 x.1)]) (fun x => [own x.2 (B (eights (ns.take x.1))) 5 1, own vo (B (lays (l.take i))) 5 1, own vw (B (lays (l.take i))) 5 1]) (fun x => ns.length - x.1) (0, .slice none 0 0) (Nat.zero_le _) ⟨rfl, rfl, rfl, rfl, rfl, rfl, rfl, trivial⟩ (fun w h => h) ?_
        · rintro ⟨j, vp⟩ hj0
          simp only at hj0 ⊢
          refine wc_seq ?_
          refine wc_region ?_
          refine wl_det (ow_ltI rfl rfl) rfl ?_
          refine wl_nil ?_
          refine dn_seq ?_
          refine wc_seq ?_
          refine wc_cond rfl (fun hc => ?_) (fun hc => ?_)
          · have hc32 := hc; simp only [decide_eq_true_eq, decide_eq_false_iff_not, Bool.not_eq_true', Bool.not_eq_false'] at hc
            refine wc_skip ?_
            refine dn_seq ?_
            refine wc_seq ?_
            refine wc_block ?_
            refine wc_seq ?_
            refine wc_region ?_
            refine wl_some (ow_indexAddr_rd Try.underlying23 size28 rfl rfl (Rd.old hns) (by decide) (by omega) (by simp; omega)) rfl (fun ad had => ?_)
            have hj : j < ns.length := by omega
            have hcell : ((V64 ns).drop ((j : Int).toNat * 1)).take 1 = [.int .u64 ((ns[j]).toNat : Int)] := by
              rw [take_one (by simpa using hj)]
              simp [V64]
            rw [hcell] at had
            refine wl_det (ow_load plain28 rfl had.cell) rfl ?_
            refine wl_det (ow_assign rfl) rfl ?_
            refine wl_nil ?_
            refine dn_seq ?_
            refine wc_region ?_
            refine wl_det (ow_move rfl) rfl ?_
            refine wl_det (ow_move rfl) rfl ?_
            refine wl_some (ow_bs1 Try.underlying23 zs28 rfl rfl rfl) rfl (fun b37 _ => ?_)
            refine wl_pieces (fun w h => h.r1) ?_
            refine wl_some (ow_call call24 rfl (fun w hS => eight_any _ _ _ [ns[j]] (blk_reads [] _ [] 1 1 1 rfl rfl (by decide) (by decide)) (by have := eights_length (ns.take j); simp only [List.length_take, B_length, List.length_cons, List.length_nil] at this ⊢; omega) hS)) rfl (fun v38 _ => ?_)
            refine wl_det (ow_assign rfl) rfl ?_
            refine wl_nil ?_
            refine dn_block ?_
            refine dn_seq ?_
            refine wc_region ?_
            refine wl_det (ow_add rfl rfl (by first | exact IntWalk.i64_in _ (by omega) | rfl)) rfl ?_
            refine wl_det (ow_move rfl) rfl ?_
            refine wl_nil ?_
            refine dn_back (j + 1, v38) (by simp only; omega) (by simp only; omega) ⟨rfl, rfl, rfl, rfl, rfl, rfl, lk_int rfl (by simp), trivial⟩ (fun w h => ?_)
            simp only
            rw [show eights (ns.take (j + 1)) = eights (ns.take j) ++ eights [ns[j]] by unfold eights; rw [take_snoc ns j hj, List.flatMap_append], B_append]
            exact h.r1.tail
          · have hc32 := hc; simp only [decide_eq_true_eq, decide_eq_false_iff_not, Bool.not_eq_true', Bool.not_eq_false'] at hc
            refine wc_exit ?_
            refine dn_then_exit ?_
            refine dn_then_exit ?_
            refine dn_block_this ?_
            refine dn_seq ?_
            refine wc_seq ?_
            have hj : j = ns.length := by omega
            have hi : i = l.length := by omega
            subst hj
            subst hi
            simp only [List.take_length]
            refine wc_weak (ρ' := [(1, nv), (5, vo), (6, vw), (9, vp)]) (Γ' := [own vo (B (lays l)) 5 1, own vw (B (lays l)) 5 1, own vp (B (eights ns)) 5 1]) ?_ ⟨rfl, rfl, rfl, rfl, trivial⟩ (fun w h => h.b2)
            refine wc_flow (N := [⟨true, [], [], [], [], [], [], [0], fun u => u = [.bool true], fun _ => tt⟩,
                ⟨true, [0], [0], [], [0], [], [], [1], fun u => u = [.bool true], fun _ => tt⟩,
                ⟨true, [0, 1], [], [5], [0, 1], [], [], [2], fun u => u = [vo], fun _ => tt⟩,
                ⟨true, [0, 1, 2], [2], [], [0, 1, 2], [], [18], [3], fun u => u = [.string ⟨(lays l).toArray⟩], fun _ => tt⟩,
                ⟨true, [0, 1], [], [6], [0, 1], [], [], [4], fun u => u = [vw], fun _ => tt⟩,
                ⟨true, [0, 1, 4], [4], [], [0, 1, 4], [], [19], [5], fun u => u = [.string ⟨(lays l).toArray⟩], fun _ => tt⟩,
                ⟨true, [0, 1, 2, 3, 4, 5], [3, 5], [], [0, 1, 2, 3, 4, 5], [], [], [6], fun u => u = [.bool true], fun _ => tt⟩,
                ⟨true, [0, 1, 2, 3, 4, 5, 6], [1, 6], [], [0, 1, 2, 3, 4, 5, 6], [], [], [7], fun u => u = [.bool true], fun _ => tt⟩,
                ⟨true, [0, 1, 2, 3, 4, 5, 6, 7], [7], [], [0, 1, 2, 3, 4, 5, 6, 7], [], [], [8], fun u => u = [.bool true], fun _ => tt⟩,
                ⟨true, [0, 1, 2, 3, 4, 5, 6, 7, 8], [], [], [0, 1, 2, 3, 4, 5, 6, 7, 8], [], [], [9], fun _ => True, fun u => match u with | [v] => own v [] 5 1 | _ => tt⟩,
                ⟨true, [0, 1, 2, 3, 4, 5, 6, 7, 8], [], [1], [0, 1, 2, 3, 4, 5, 6, 7, 8], [], [], [10], fun u => u = [nv], fun _ => tt⟩,
                ⟨true, [0, 1, 2, 3, 4, 5, 6, 7, 8, 9, 10], [9, 10], [], [0, 1, 2, 3, 4, 5, 6, 7, 8, 9, 10], [9], [], [11], fun _ => True, fun u => match u with | [v] => own v (B (eights ns)) 5 1 | _ => tt⟩,
                ⟨true, [0, 1, 2, 3, 4, 5, 6, 7, 8, 9, 10, 11], [11], [], [0, 1, 2, 3, 4, 5, 6, 7, 8, 9, 10, 11], [], [11], [12], fun u => u = [.string ⟨(eights ns).toArray⟩], fun _ => tt⟩,
                ⟨true, [0, 1, 2, 3, 4, 5, 6, 7, 8], [], [9], [0, 1, 2, 3, 4, 5, 6, 7, 8], [], [], [13], fun u => u = [vp], fun _ => tt⟩,
                ⟨true, [0, 1, 2, 3, 4, 5, 6, 7, 8, 13], [13], [], [0, 1, 2, 3, 4, 5, 6, 7, 8, 13], [], [20], [14], fun u => u = [.string ⟨(eights ns).toArray⟩], fun _ => tt⟩,
                ⟨true, [0, 1, 2, 3, 4, 5, 6, 7, 8, 9, 10, 11, 12, 13, 14], [12, 14], [], [0, 1, 2, 3, 4, 5, 6, 7, 8, 9, 10, 11, 12, 13, 14], [], [], [15], fun u => u = [.bool true], fun _ => tt⟩,
                ⟨true, [0, 1, 2, 3, 4, 5, 6, 7, 8, 9, 10, 11, 12, 13, 14, 15], [8, 15], [], [0, 1, 2, 3, 4, 5, 6, 7, 8, 9, 10, 11, 12, 13, 14, 15], [], [], [16], fun u => u = [.bool true], fun _ => tt⟩,
                ⟨true, [0, 1, 2, 3, 4, 5, 6, 7, 8, 9, 10, 11, 12, 13, 14, 15, 16], [16], [], [0, 1, 2, 3, 4, 5, 6, 7, 8, 9, 10, 11, 12, 13, 14, 15, 16], [], [], [17], fun u => u = [.bool true], fun _ => tt⟩]) [17] [] [0, 1, 2, 3, 4, 5, 6, 7, 8, 10, 11, 12, 13, 14, 15, 16, 17, 18, 19, 20] (by kernel_rfl) (by kernel_rfl) (by kernel_rfl) ⟨?_, ?_, ?_, ?_, ?_, ?_, ?_, ?_, ?_, ?_, ?_, ?_, ?_, ?_, ?_, ?_, ?_, ?_, trivial⟩ (fun V hV => ?_)
            · refine obl_run rfl fun V hk => ?_
              refine ⟨noGuard rfl, fun Γ => ?_⟩
              refine ow_mono (ow_call call21 rfl (fun w hS => awake01_any hS)) (fun v w' h => ?_)
              obtain ⟨x, _, rfl, hS⟩ := h
              exact ⟨rfl, Sat.add_tt (Sat.dropl hS)⟩
            · refine obl_run rfl fun V hk => ?_
              have k0 : V 0 = .bool true := one_eq (hk 0 (show 0 ∈ [0] by decide))
              refine ⟨noGuard rfl, fun Γ => ?_⟩
              refine ow_mono (ow_weak (ρ' := [(40, .bool true)]) ⟨congrArg some k0, trivial⟩ (ow_move rfl)) (fun v w' h => ?_)
              obtain ⟨e, hS⟩ := h
              subst e
              exact ⟨rfl, Sat.add_tt hS⟩
            · refine obl_run rfl fun V hk => ?_
              have k1 : V 1 = .bool true := one_eq (hk 1 (show 1 ∈ [0, 1] by decide))
              refine ⟨theGuard rfl k1, fun Γ => ?_⟩
              refine ow_mono (ow_weak (ρ' := [(5, vo)]) ⟨rfl, trivial⟩ (ow_move rfl)) (fun v w' h => ?_)
              obtain ⟨e, hS⟩ := h
              subst e
              exact ⟨rfl, Sat.add_tt hS⟩
            · refine obl_run rfl fun V hk => ?_
              have k1 : V 1 = .bool true := one_eq (hk 1 (show 1 ∈ [0, 1, 2] by decide))
              have k2 : V 2 = vo := one_eq (hk 2 (show 2 ∈ [0, 1, 2] by decide))
              refine ⟨theGuard rfl k1, fun Γ => ?_⟩
              refine ow_mono (ow_weak (ρ' := [(42, vo)]) ⟨congrArg some k2, trivial⟩ (ow_str Try.underlying27 Try.underlying5 Try.underlying9 rfl own_reads)) (fun v w' h => ?_)
              obtain ⟨e, hS⟩ := h
              subst e
              exact ⟨rfl, Sat.add_tt hS⟩
            · refine obl_run rfl fun V hk => ?_
              have k1 : V 1 = .bool true := one_eq (hk 1 (show 1 ∈ [0, 1] by decide))
              refine ⟨theGuard rfl k1, fun Γ => ?_⟩
              refine ow_mono (ow_weak (ρ' := [(6, vw)]) ⟨rfl, trivial⟩ (ow_move rfl)) (fun v w' h => ?_)
              obtain ⟨e, hS⟩ := h
              subst e
              exact ⟨rfl, Sat.add_tt hS⟩
            · refine obl_run rfl fun V hk => ?_
              have k1 : V 1 = .bool true := one_eq (hk 1 (show 1 ∈ [0, 1, 4] by decide))
              have k4 : V 4 = vw := one_eq (hk 4 (show 4 ∈ [0, 1, 4] by decide))
              refine ⟨theGuard rfl k1, fun Γ => ?_⟩
              refine ow_mono (ow_weak (ρ' := [(44, vw)]) ⟨congrArg some k4, trivial⟩ (ow_str Try.underlying26 Try.underlying5 Try.underlying9 rfl own_reads)) (fun v w' h => ?_)
              obtain ⟨e, hS⟩ := h
              subst e
              exact ⟨rfl, Sat.add_tt hS⟩
            · refine obl_run rfl fun V hk => ?_
              have k1 : V 1 = .bool true := one_eq (hk 1 (show 1 ∈ [0, 1, 2, 3, 4, 5] by decide))
              have k3 : V 3 = .string ⟨(lays l).toArray⟩ := one_eq (hk 3 (show 3 ∈ [0, 1, 2, 3, 4, 5] by decide))
              have k5 : V 5 = .string ⟨(lays l).toArray⟩ := one_eq (hk 5 (show 5 ∈ [0, 1, 2, 3, 4, 5] by decide))
              refine ⟨theGuard rfl k1, fun Γ => ?_⟩
              refine ow_mono (ow_weak (ρ' := [(43, .string ⟨(lays l).toArray⟩), (45, .string ⟨(lays l).toArray⟩)]) ⟨congrArg some k3, congrArg some k5, trivial⟩ (ow_eq_str (r := true) rfl rfl (by simp))) (fun v w' h => ?_)
              obtain ⟨e, hS⟩ := h
              subst e
              exact ⟨rfl, Sat.add_tt hS⟩
            · refine obl_run rfl fun V hk => ?_
              have k1 : V 1 = .bool true := one_eq (hk 1 (show 1 ∈ [0, 1, 2, 3, 4, 5, 6] by decide))
              have k6 : V 6 = .bool true := one_eq (hk 6 (show 6 ∈ [0, 1, 2, 3, 4, 5, 6] by decide))
              refine ⟨noGuard rfl, fun Γ => ?_⟩
              refine ow_mono (ow_weak (ρ' := [(41, .bool true), (46, .bool true)]) ⟨congrArg some k1, congrArg some k6, trivial⟩ (ow_and rfl rfl)) (fun v w' h => ?_)
              obtain ⟨e, hS⟩ := h
              subst e
              exact ⟨rfl, Sat.add_tt hS⟩
            · refine obl_run rfl fun V hk => ?_
              have k7 : V 7 = .bool true := one_eq (hk 7 (show 7 ∈ [0, 1, 2, 3, 4, 5, 6, 7] by decide))
              refine ⟨noGuard rfl, fun Γ => ?_⟩
              refine ow_mono (ow_weak (ρ' := [(47, .bool true)]) ⟨congrArg some k7, trivial⟩ (ow_move rfl)) (fun v w' h => ?_)
              obtain ⟨e, hS⟩ := h
              subst e
              exact ⟨rfl, Sat.add_tt hS⟩
            · refine obl_run rfl fun V hk => ?_
              have k8 : V 8 = .bool true := one_eq (hk 8 (show 8 ∈ [0, 1, 2, 3, 4, 5, 6, 7, 8] by decide))
              refine ⟨theGuard rfl k8, fun Γ => ?_⟩
              refine ow_mono (ow_bs0 Try.underlying27 zs5) (fun v w' h => ?_)
              obtain ⟨b, _, rfl, hS⟩ := h
              exact ⟨trivial, hS.head (own_of_blk [] [] (k := 0) (sz := 1) rfl rfl (by decide))⟩
            · refine obl_run rfl fun V hk => ?_
              have k8 : V 8 = .bool true := one_eq (hk 8 (show 8 ∈ [0, 1, 2, 3, 4, 5, 6, 7, 8] by decide))
              refine ⟨theGuard rfl k8, fun Γ => ?_⟩
              refine ow_mono (ow_weak (ρ' := [(1, nv)]) ⟨rfl, trivial⟩ (ow_move rfl)) (fun v w' h => ?_)
              obtain ⟨e, hS⟩ := h
              subst e
              exact ⟨rfl, Sat.add_tt hS⟩
            · refine obl_run rfl fun V hk => ?_
              have k8 : V 8 = .bool true := one_eq (hk 8 (show 8 ∈ [0, 1, 2, 3, 4, 5, 6, 7, 8, 9, 10] by decide))
              have k10 : V 10 = nv := one_eq (hk 10 (show 10 ∈ [0, 1, 2, 3, 4, 5, 6, 7, 8, 9, 10] by decide))
              refine ⟨theGuard rfl k8, fun Γ => ?_⟩
              refine ow_mono (ow_weak (ρ' := [(49, V 9), (50, nv)]) ⟨rfl, congrArg some k10, trivial⟩ (ow_call call24 rfl (fun w hS => eight_any (V 9) nv [] ns (Rd.old hns) (by simp only [List.length_nil]; omega) hS))) (fun v w' h => ?_)
              obtain ⟨x, _, rfl, hS⟩ := h
              exact ⟨trivial, hS⟩
            · refine obl_run rfl fun V hk => ?_
              have k8 : V 8 = .bool true := one_eq (hk 8 (show 8 ∈ [0, 1, 2, 3, 4, 5, 6, 7, 8, 9, 10, 11] by decide))
              refine ⟨theGuard rfl k8, fun Γ => ?_⟩
              refine ow_mono (ow_weak (ρ' := [(51, V 11)]) ⟨rfl, trivial⟩ (ow_str Try.underlying27 Try.underlying5 Try.underlying9 rfl own_reads)) (fun v w' h => ?_)
              obtain ⟨e, hS⟩ := h
              subst e
              exact ⟨rfl, Sat.add_tt hS⟩
            · refine obl_run rfl fun V hk => ?_
              have k8 : V 8 = .bool true := one_eq (hk 8 (show 8 ∈ [0, 1, 2, 3, 4, 5, 6, 7, 8] by decide))
              refine ⟨theGuard rfl k8, fun Γ => ?_⟩
              refine ow_mono (ow_weak (ρ' := [(9, vp)]) ⟨rfl, trivial⟩ (ow_move rfl)) (fun v w' h => ?_)
              obtain ⟨e, hS⟩ := h
              subst e
              exact ⟨rfl, Sat.add_tt hS⟩
            · refine obl_run rfl fun V hk => ?_
              have k8 : V 8 = .bool true := one_eq (hk 8 (show 8 ∈ [0, 1, 2, 3, 4, 5, 6, 7, 8, 13] by decide))
              have k13 : V 13 = vp := one_eq (hk 13 (show 13 ∈ [0, 1, 2, 3, 4, 5, 6, 7, 8, 13] by decide))
              refine ⟨theGuard rfl k8, fun Γ => ?_⟩
              refine ow_mono (ow_weak (ρ' := [(53, vp)]) ⟨congrArg some k13, trivial⟩ (ow_str Try.underlying27 Try.underlying5 Try.underlying9 rfl own_reads)) (fun v w' h => ?_)
              obtain ⟨e, hS⟩ := h
              subst e
              exact ⟨rfl, Sat.add_tt hS⟩
            · refine obl_run rfl fun V hk => ?_
              have k8 : V 8 = .bool true := one_eq (hk 8 (show 8 ∈ [0, 1, 2, 3, 4, 5, 6, 7, 8, 9, 10, 11, 12, 13, 14] by decide))
              have k12 : V 12 = .string ⟨(eights ns).toArray⟩ := one_eq (hk 12 (show 12 ∈ [0, 1, 2, 3, 4, 5, 6, 7, 8, 9, 10, 11, 12, 13, 14] by decide))
              have k14 : V 14 = .string ⟨(eights ns).toArray⟩ := one_eq (hk 14 (show 14 ∈ [0, 1, 2, 3, 4, 5, 6, 7, 8, 9, 10, 11, 12, 13, 14] by decide))
              refine ⟨theGuard rfl k8, fun Γ => ?_⟩
              refine ow_mono (ow_weak (ρ' := [(52, .string ⟨(eights ns).toArray⟩), (54, .string ⟨(eights ns).toArray⟩)]) ⟨congrArg some k12, congrArg some k14, trivial⟩ (ow_eq_str (r := true) rfl rfl (by simp))) (fun v w' h => ?_)
              obtain ⟨e, hS⟩ := h
              subst e
              exact ⟨rfl, Sat.add_tt hS⟩
            · refine obl_run rfl fun V hk => ?_
              have k8 : V 8 = .bool true := one_eq (hk 8 (show 8 ∈ [0, 1, 2, 3, 4, 5, 6, 7, 8, 9, 10, 11, 12, 13, 14, 15] by decide))
              have k15 : V 15 = .bool true := one_eq (hk 15 (show 15 ∈ [0, 1, 2, 3, 4, 5, 6, 7, 8, 9, 10, 11, 12, 13, 14, 15] by decide))
              refine ⟨noGuard rfl, fun Γ => ?_⟩
              refine ow_mono (ow_weak (ρ' := [(48, .bool true), (55, .bool true)]) ⟨congrArg some k8, congrArg some k15, trivial⟩ (ow_and rfl rfl)) (fun v w' h => ?_)
              obtain ⟨e, hS⟩ := h
              subst e
              exact ⟨rfl, Sat.add_tt hS⟩
            · refine obl_run rfl fun V hk => ?_
              have k16 : V 16 = .bool true := one_eq (hk 16 (show 16 ∈ [0, 1, 2, 3, 4, 5, 6, 7, 8, 9, 10, 11, 12, 13, 14, 15, 16] by decide))
              refine ⟨noGuard rfl, fun Γ => ?_⟩
              refine ow_mono (ow_weak (ρ' := [(56, .bool true)]) ⟨congrArg some k16, trivial⟩ (ow_assign rfl)) (fun v w' h => ?_)
              obtain ⟨e, hS⟩ := h
              subst e
              exact ⟨rfl, Sat.add_tt hS⟩
            have e17 : V 17 = .bool true := one_eq (hV 17 (show 17 < 18 by decide))
            refine dn_weak (ρ' := [(4, .bool true)]) ⟨congrArg some e17, trivial⟩ (fun w h => h) ?_
            refine dn_seq ?_
            refine wc_ret ?_
            exact dn_ret1 rfl rfl (fun w hS => ⟨_, rfl, rfl, hS.below⟩)

end Go.Proofs.Toll
