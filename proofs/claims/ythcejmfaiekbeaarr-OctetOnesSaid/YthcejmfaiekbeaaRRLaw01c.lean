/- The statement OctetOnes as a walk. Printed by tools/gen.py out of tools/law01c.an.py. -/
import Derived.Test.YthcejmfaiekbeaaRRLaw01
set_option linter.unusedVariables false
set_option linter.unusedSimpArgs false
namespace Go.Proofs.Toll
open Go Go.Toll Go.RowKit
set_option maxRecDepth 100000 in
theorem OctetOnes_any (w : World) (bv fv nv dv : Value) (bs : List UInt8) (fs : List UInt32) (ns : List UInt64) (ds : List UInt8) (q : Nat) (hq : ds.length = q * 32) (hbr : Reads 1 w bv (B bs)) (hfr : Reads 1 w fv (V32 fs)) (hnr : Reads 1 w nv (V64 ns)) (hdr : Reads 32 w dv (B ds))
    (hb : bs.length ≤ 140737488355328) (hf : fs.length ≤ 140737488355328) (hn : ns.length ≤ 140737488355328) (hd : q ≤ 140737488355328) :
    Calls Try.prog 4 #[bv, fv, nv, dv] w (Ret fun v w' => v = .bool true ∧ Below w.heap.size w w') := by
  have hS := Sat.start w
  have hend : (bs ++ fours fs ++ eights ns ++ ds).length = bs.length + 4 * fs.length + 8 * ns.length + 32 * q := by simp only [List.length_append, B_length, fours_length, eights_length, List.length_take, List.length_cons, List.length_nil]; omega
  have hendI : ((bs ++ fours fs ++ eights ns ++ ds).length : Int) = bs.length + 4 * fs.length + 8 * ns.length + 32 * q := by omega
  refine calls_of_wc Try.func4 rfl rfl (Nat.le_of_ble_eq_true rfl) ?_ w hS
  clear hS
  refine wc_seq ?_
  refine wc_region ?_
  refine wl_det (ow_assign rfl) rfl ?_
  refine wl_nil ?_
  refine dn_seq ?_
  refine wc_seq ?_
  refine wc_seq ?_
  refine wc_region ?_
  refine wl_det (ow_move rfl) rfl ?_
  refine wl_det (ow_len Try.underlying26 rfl (Rd.old hbr) (by decide) (m := bs.length) (by simp)) rfl ?_
  refine wl_det (ow_move rfl) rfl ?_
  refine wl_det (ow_len Try.underlying36 rfl (Rd.old hfr) (by decide) (m := fs.length) (by simp)) rfl ?_
  refine wl_det (ow_add rfl rfl (by first | exact IntWalk.i64_in _ (by omega) | rfl)) rfl ?_
  refine wl_det (ow_move rfl) rfl ?_
  refine wl_det (ow_len Try.underlying23 rfl (Rd.old hnr) (by decide) (m := ns.length) (by simp)) rfl ?_
  refine wl_det (ow_add rfl rfl (by first | exact IntWalk.i64_in _ (by omega) | rfl)) rfl ?_
  refine wl_det (ow_move rfl) rfl ?_
  refine wl_det (ow_len Try.underlying37 rfl (Rd.old hdr) (by decide) (m := q) (by simpa using hq)) rfl ?_
  refine wl_det (ow_add rfl rfl (by first | exact IntWalk.i64_in _ (by omega) | rfl)) rfl ?_
  refine wl_det (ow_gtI rfl rfl) rfl ?_
  refine wl_nil ?_
  refine dn_seq ?_
  refine wc_cond rfl (fun hc => ?_) (fun hc => ?_)
  · have hc31 := hc; simp only [decide_eq_true_eq, decide_eq_false_iff_not, Bool.not_eq_true', Bool.not_eq_false'] at hc
    refine wc_seq ?_
    refine wc_region ?_
    refine wl_some (ow_call call21 rfl (fun w hS => awake01_any hS)) rfl (fun Δ _ => ?_)
    refine wl_det (ow_assign rfl) rfl ?_
    refine wl_nil ?_
    refine dn_seq ?_
    refine wc_ret ?_
    refine dn_then_ret ?_
    refine dn_ret1 rfl rfl (fun w hS => ⟨_, rfl, ?_, hS.below⟩)
    rfl
  · have hc31 := hc; simp only [decide_eq_true_eq, decide_eq_false_iff_not, Bool.not_eq_true', Bool.not_eq_false'] at hc
    refine wc_skip ?_
    refine dn_seq ?_
    refine wc_seq ?_
    refine wc_region ?_
    refine wl_det (ow_assign rfl) rfl ?_
    refine wl_nil ?_
    refine dn_seq ?_
    refine wc_seq ?_
    refine wc_region ?_
    refine wl_some (ow_bs0 Try.underlying27 zs5) rfl (fun b33 _ => ?_)
    refine wl_det (ow_assign rfl) rfl ?_
    refine wl_nil ?_
    refine dn_seq ?_
    refine wc_seq ?_
    refine wc_seq ?_
    refine wc_pieces (fun w h => (Sat.own_nil (T := 85) (sz := 32) h).r1.head (own_of_blk [] (B (bs.take 0)) (k := 0) (sz := 1) rfl rfl (by decide))) ?_
    refine wc_region ?_
    refine wl_det (ow_move rfl) rfl ?_
    refine wl_det (ow_len Try.underlying26 rfl (Rd.old hbr) (by decide) (m := bs.length) (by simp)) rfl ?_
    refine wl_det (ow_move rfl) rfl ?_
    refine wl_nil ?_
    refine dn_seq ?_
    refine wc_block ?_
    refine wc_loop (α := Nat × Value) (fun x => x.1 ≤ bs.length) (fun x => [(0, bv), (1, fv), (2, nv), (3, dv), (9, .slice none 0 0), (10, x.2), (34, bv), (35, .int .i64 bs.length), (36, .int .i64 x.1)]) (fun x => [own x.2 (B (bs.take x.1)) 5 1, own (.slice none 0 0) [] 85 32]) (fun x => bs.length - x.1) (0, _) (Nat.zero_le _) ⟨rfl, rfl, rfl, rfl, rfl, rfl, rfl, rfl, rfl, trivial⟩ (fun w h => h) ?_
    · rintro ⟨i, vo⟩ hi0
      simp only at hi0 ⊢
      refine wc_seq ?_
      refine wc_region ?_
      refine wl_det (ow_ltI rfl rfl) rfl ?_
      refine wl_nil ?_
      refine dn_seq ?_
      refine wc_seq ?_
      refine wc_cond rfl (fun hc => ?_) (fun hc => ?_)
      · have hc37 := hc; simp only [decide_eq_true_eq, decide_eq_false_iff_not, Bool.not_eq_true', Bool.not_eq_false'] at hc
        refine wc_skip ?_
        refine dn_seq ?_
        refine wc_seq ?_
        refine wc_block ?_
        refine wc_seq ?_
        refine wc_region ?_
        refine wl_some (ow_indexAddr_rd Try.underlying26 size5 rfl rfl (Rd.old hbr) (by decide) (by omega) (by simp; omega)) rfl (fun ad had => ?_)
        have hj : i < bs.length := by omega
        have hcell : ((B bs).drop ((i : Int).toNat * 1)).take 1 = [.int .u8 ((bs[i]).toNat : Int)] := by
          rw [take_one (by simpa using hj)]
          simp [B]
        rw [hcell] at had
        refine wl_det (ow_load plain5 rfl had.cell) rfl ?_
        refine wl_det (ow_assign rfl) rfl ?_
        refine wl_nil ?_
        refine dn_seq ?_
        refine wc_region ?_
        refine wl_det (ow_move rfl) rfl ?_
        refine wl_det (ow_move rfl) rfl ?_
        refine wl_some (ow_bs1 Try.underlying26 zs5 rfl rfl rfl) rfl (fun b42 _ => ?_)
        refine wl_pieces (fun w h => h.r1) ?_
        refine wl_some (ow_call call25 rfl (fun w hS => one_any _ _ _ [bs[i]] (blk_reads [] _ [] 1 1 1 rfl rfl (by decide) (by decide)) (by simp only [List.length_append, B_length, fours_length, eights_length, List.length_take, List.length_cons, List.length_nil]; omega) hS)) rfl (fun v43 _ => ?_)
        refine wl_det (ow_assign rfl) rfl ?_
        refine wl_nil ?_
        refine dn_block ?_
        refine dn_seq ?_
        refine wc_region ?_
        refine wl_det (ow_add rfl rfl (by first | exact IntWalk.i64_in _ (by omega) | rfl)) rfl ?_
        refine wl_det (ow_move rfl) rfl ?_
        refine wl_nil ?_
        refine dn_back (i + 1, v43) (by simp only; omega) (by simp only; omega) ⟨rfl, rfl, rfl, rfl, rfl, rfl, rfl, rfl, lk_int rfl (by simp), trivial⟩ (fun w h => ?_)
        simp only
        rw [take_snoc bs i hj, B_append]
        exact h.r1.tail
      · have hc37 := hc; simp only [decide_eq_true_eq, decide_eq_false_iff_not, Bool.not_eq_true', Bool.not_eq_false'] at hc
        refine wc_exit ?_
        refine dn_then_exit ?_
        refine dn_then_exit ?_
        refine dn_block_this ?_
        refine dn_seq ?_
        refine wc_seq ?_
        refine wc_seq ?_
        refine wc_region ?_
        refine wl_det (ow_move rfl) rfl ?_
        refine wl_det (ow_len Try.underlying36 rfl (Rd.old hfr) (by decide) (m := fs.length) (by simp)) rfl ?_
        refine wl_det (ow_move rfl) rfl ?_
        refine wl_nil ?_
        refine dn_seq ?_
        refine wc_block ?_
        have hi : i = bs.length := by omega
        subst hi
        simp only [List.take_length]
        refine wc_loop (α := Nat × Value) (fun x => x.1 ≤ fs.length) (fun x => [(0, bv), (1, fv), (2, nv), (3, dv), (9, .slice none 0 0), (10, x.2), (45, fv), (46, .int .i64 fs.length), (47, .int .i64 x.1)]) (fun x => [own x.2 (B (bs ++ fours (fs.take x.1))) 5 1, own (.slice none 0 0) [] 85 32]) (fun x => fs.length - x.1) (0, _) (Nat.zero_le _) ⟨rfl, rfl, rfl, rfl, rfl, rfl, rfl, rfl, rfl, trivial⟩ (fun w h => by simpa [fours] using h) ?_
        · rintro ⟨i, vo⟩ hi0
          simp only at hi0 ⊢
          refine wc_seq ?_
          refine wc_region ?_
          refine wl_det (ow_ltI rfl rfl) rfl ?_
          refine wl_nil ?_
          refine dn_seq ?_
          refine wc_seq ?_
          refine wc_cond rfl (fun hc => ?_) (fun hc => ?_)
          · have hc48 := hc; simp only [decide_eq_true_eq, decide_eq_false_iff_not, Bool.not_eq_true', Bool.not_eq_false'] at hc
            refine wc_skip ?_
            refine dn_seq ?_
            refine wc_seq ?_
            refine wc_block ?_
            refine wc_seq ?_
            refine wc_region ?_
            refine wl_some (ow_indexAddr_rd Try.underlying36 size40 rfl rfl (Rd.old hfr) (by decide) (by omega) (by simp; omega)) rfl (fun ad had => ?_)
            have hj : i < fs.length := by omega
            have hcell : ((V32 fs).drop ((i : Int).toNat * 1)).take 1 = [.int .u32 ((fs[i]).toNat : Int)] := by
              rw [take_one (by simpa using hj)]
              simp [V32]
            rw [hcell] at had
            refine wl_det (ow_load plain40 rfl had.cell) rfl ?_
            refine wl_det (ow_assign rfl) rfl ?_
            refine wl_nil ?_
            refine dn_seq ?_
            refine wc_region ?_
            refine wl_det (ow_move rfl) rfl ?_
            refine wl_det (ow_move rfl) rfl ?_
            refine wl_some (ow_bs1 Try.underlying36 zs40 rfl rfl rfl) rfl (fun b53 _ => ?_)
            refine wl_pieces (fun w h => h.r1) ?_
            refine wl_some (ow_call call26 rfl (fun w hS => four_any _ _ _ [fs[i]] (blk_reads [] _ [] 1 1 1 rfl rfl (by decide) (by decide)) (by simp only [List.length_append, B_length, fours_length, eights_length, List.length_take, List.length_cons, List.length_nil]; omega) hS)) rfl (fun v54 _ => ?_)
            refine wl_det (ow_assign rfl) rfl ?_
            refine wl_nil ?_
            refine dn_block ?_
            refine dn_seq ?_
            refine wc_region ?_
            refine wl_det (ow_add rfl rfl (by first | exact IntWalk.i64_in _ (by omega) | rfl)) rfl ?_
            refine wl_det (ow_move rfl) rfl ?_
            refine wl_nil ?_
            refine dn_back (i + 1, v54) (by simp only; omega) (by simp only; omega) ⟨rfl, rfl, rfl, rfl, rfl, rfl, rfl, rfl, lk_int rfl (by simp), trivial⟩ (fun w h => ?_)
            simp only
            rw [show fours (fs.take (i + 1)) = fours (fs.take i) ++ fours [fs[i]] by unfold fours; rw [take_snoc fs i hj, List.flatMap_append], ← List.append_assoc, B_append]
            exact h.r1.tail
          · have hc48 := hc; simp only [decide_eq_true_eq, decide_eq_false_iff_not, Bool.not_eq_true', Bool.not_eq_false'] at hc
            refine wc_exit ?_
            refine dn_then_exit ?_
            refine dn_then_exit ?_
            refine dn_block_this ?_
            refine dn_seq ?_
            refine wc_seq ?_
            refine wc_seq ?_
            refine wc_region ?_
            refine wl_det (ow_move rfl) rfl ?_
            refine wl_det (ow_len Try.underlying23 rfl (Rd.old hnr) (by decide) (m := ns.length) (by simp)) rfl ?_
            refine wl_det (ow_move rfl) rfl ?_
            refine wl_nil ?_
            refine dn_seq ?_
            refine wc_block ?_
            have hi : i = fs.length := by omega
            subst hi
            simp only [List.take_length]
            refine wc_loop (α := Nat × Value) (fun x => x.1 ≤ ns.length) (fun x => [(0, bv), (1, fv), (2, nv), (3, dv), (9, .slice none 0 0), (10, x.2), (56, nv), (57, .int .i64 ns.length), (58, .int .i64 x.1)]) (fun x => [own x.2 (B (bs ++ fours fs ++ eights (ns.take x.1))) 5 1, own (.slice none 0 0) [] 85 32]) (fun x => ns.length - x.1) (0, _) (Nat.zero_le _) ⟨rfl, rfl, rfl, rfl, rfl, rfl, rfl, rfl, rfl, trivial⟩ (fun w h => by simpa [eights] using h) ?_
            · rintro ⟨i, vo⟩ hi0
              simp only at hi0 ⊢
              refine wc_seq ?_
              refine wc_region ?_
              refine wl_det (ow_ltI rfl rfl) rfl ?_
              refine wl_nil ?_
              refine dn_seq ?_
              refine wc_seq ?_
              refine wc_cond rfl (fun hc => ?_) (fun hc => ?_)
              · have hc59 := hc; simp only [decide_eq_true_eq, decide_eq_false_iff_not, Bool.not_eq_true', Bool.not_eq_false'] at hc
                refine wc_skip ?_
                refine dn_seq ?_
                refine wc_seq ?_
                refine wc_block ?_
                refine wc_seq ?_
                refine wc_region ?_
                refine wl_some (ow_indexAddr_rd Try.underlying23 size28 rfl rfl (Rd.old hnr) (by decide) (by omega) (by simp; omega)) rfl (fun ad had => ?_)
                have hj : i < ns.length := by omega
                have hcell : ((V64 ns).drop ((i : Int).toNat * 1)).take 1 = [.int .u64 ((ns[i]).toNat : Int)] := by
                  rw [take_one (by simpa using hj)]
                  simp [V64]
                rw [hcell] at had
                refine wl_det (ow_load plain28 rfl had.cell) rfl ?_
                refine wl_det (ow_assign rfl) rfl ?_
                refine wl_nil ?_
                refine dn_seq ?_
                refine wc_region ?_
                refine wl_det (ow_move rfl) rfl ?_
                refine wl_det (ow_move rfl) rfl ?_
                refine wl_some (ow_bs1 Try.underlying23 zs28 rfl rfl rfl) rfl (fun b64 _ => ?_)
                refine wl_pieces (fun w h => h.r1) ?_
                refine wl_some (ow_call call24 rfl (fun w hS => eight_any _ _ _ [ns[i]] (blk_reads [] _ [] 1 1 1 rfl rfl (by decide) (by decide)) (by simp only [List.length_append, B_length, fours_length, eights_length, List.length_take, List.length_cons, List.length_nil]; omega) hS)) rfl (fun v65 _ => ?_)
                refine wl_det (ow_assign rfl) rfl ?_
                refine wl_nil ?_
                refine dn_block ?_
                refine dn_seq ?_
                refine wc_region ?_
                refine wl_det (ow_add rfl rfl (by first | exact IntWalk.i64_in _ (by omega) | rfl)) rfl ?_
                refine wl_det (ow_move rfl) rfl ?_
                refine wl_nil ?_
                refine dn_back (i + 1, v65) (by simp only; omega) (by simp only; omega) ⟨rfl, rfl, rfl, rfl, rfl, rfl, rfl, rfl, lk_int rfl (by simp), trivial⟩ (fun w h => ?_)
                simp only
                rw [show eights (ns.take (i + 1)) = eights (ns.take i) ++ eights [ns[i]] by unfold eights; rw [take_snoc ns i hj, List.flatMap_append], ← List.append_assoc, B_append]
                exact h.r1.tail
              · have hc59 := hc; simp only [decide_eq_true_eq, decide_eq_false_iff_not, Bool.not_eq_true', Bool.not_eq_false'] at hc
                refine wc_exit ?_
                refine dn_then_exit ?_
                refine dn_then_exit ?_
                refine dn_block_this ?_
                refine dn_seq ?_
                refine wc_seq ?_
                refine wc_seq ?_
                refine wc_region ?_
                refine wl_det (ow_move rfl) rfl ?_
                refine wl_det (ow_len Try.underlying37 rfl (Rd.old hdr) (by decide) (m := q) (by simpa using hq)) rfl ?_
                refine wl_det (ow_move rfl) rfl ?_
                refine wl_nil ?_
                refine dn_seq ?_
                refine wc_block ?_
                have hi : i = ns.length := by omega
                subst hi
                simp only [List.take_length]
                refine wc_loop (α := Nat × Value × Value) (fun x => x.1 ≤ q) (fun x => [(0, bv), (1, fv), (2, nv), (3, dv), (9, x.2.2), (10, x.2.1), (67, dv), (68, .int .i64 q), (69, .int .i64 x.1)]) (fun x => [own x.2.1 (B (bs ++ fours fs ++ eights ns ++ ds.take (x.1 * 32))) 5 1, own x.2.2 (B (ds.take (x.1 * 32))) 85 32]) (fun x => q - x.1) (0, _, _) (Nat.zero_le _) ⟨rfl, rfl, rfl, rfl, rfl, rfl, rfl, rfl, rfl, trivial⟩ (fun w h => by simpa using h) ?_
                · rintro ⟨i, vo, vs⟩ hi0
                  simp only at hi0 ⊢
                  refine wc_seq ?_
                  refine wc_region ?_
                  refine wl_det (ow_ltI rfl rfl) rfl ?_
                  refine wl_nil ?_
                  refine dn_seq ?_
                  refine wc_seq ?_
                  refine wc_cond rfl (fun hc => ?_) (fun hc => ?_)
                  · have hc70 := hc; simp only [decide_eq_true_eq, decide_eq_false_iff_not, Bool.not_eq_true', Bool.not_eq_false'] at hc
                    refine wc_skip ?_
                    refine dn_seq ?_
                    refine wc_seq ?_
                    refine wc_block ?_
                    refine wc_seq ?_
                    refine wc_region ?_
                    refine wl_some (ow_indexAddr_rd Try.underlying37 size29 rfl rfl (Rd.old hdr) (by decide) (by omega) (by simp; omega)) rfl (fun ad had => ?_)
                    have hi : i < q := by omega
                    have hcell : ((B ds).drop ((i : Int).toNat * 32)).take 32 = B ((ds.drop (i * 32)).take 32) := by
                      rw [Int.toNat_natCast, B_drop, B_take]
                    have hlen : ((ds.drop (i * 32)).take 32).length = 1 * 32 := by simp; omega
                    rw [hcell] at had
                    refine wl_det (ow_load_rd _ rfl had Try.underlying29 rfl (by rw [size29, B_length, hlen])) rfl ?_
                    refine wl_some (ow_alloc z29 zero29 rfl) rfl (fun b18 _ => ?_)
                    refine wl_eff (ow_store_agg [] z29 [] rfl rfl (by rw [size29, B_length, hlen]) (B_one _) (by simp) rfl (by rw [B_length, hlen]; rfl) .here) ?_
                    refine wl_nil ?_
                    refine dn_seq ?_
                    simp only [List.nil_append, List.append_nil]
                    refine wc_weak (ρ' := [(0, bv), (1, fv), (2, nv), (67, dv), (68, .int .i64 q), (69, .int .i64 i), (3, dv), (10, vo), (9, vs), (18, .pointer (some ⟨b18, 0, none⟩))]) (Γ' := [own vo (B (bs ++ fours fs ++ eights ns ++ ds.take (i * 32))) 5 1, own vs (B (ds.take (i * 32))) 85 32, blk b18 (B ((ds.drop (i * 32)).take 32)) 29]) ?_ ⟨rfl, rfl, rfl, rfl, rfl, rfl, rfl, rfl, rfl, rfl, trivial⟩ (fun w h => h.b2)
                    refine wc_flow (N := [⟨true, [], [], [10], [], [], [], [0], fun u => u = [vo], fun _ => tt⟩,
                        ⟨true, [], [], [18], [], [], [12], [1], fun u => u = [.agg (B ((ds.drop (i * 32)).take 32)).toArray], fun _ => tt⟩,
                        ⟨true, [1], [1], [], [1], [], [], [2], fun _ => True, fun u => match u with | [v] => own v (B ((ds.drop (i * 32)).take 32)) 85 32 | _ => tt⟩,
                        ⟨true, [0, 1, 2], [0, 2], [], [0, 1, 2], [10, 2], [], [3], fun _ => True, fun u => match u with | [v] => own v (B (bs ++ fours fs ++ eights ns ++ ds.take (i * 32)) ++ B ((ds.drop (i * 32)).take 32)) 5 1 | _ => tt⟩,
                        ⟨true, [], [], [9], [], [], [], [4], fun u => u = [vs], fun _ => tt⟩,
                        ⟨true, [], [], [18], [], [], [12], [5], fun u => u = [.agg (B ((ds.drop (i * 32)).take 32)).toArray], fun _ => tt⟩,
                        ⟨true, [5], [5], [], [5], [], [], [6], fun _ => True, fun u => match u with | [v] => own v (B ((ds.drop (i * 32)).take 32)) 85 32 | _ => tt⟩,
                        ⟨true, [0, 1, 2, 3, 4, 5, 6], [4, 6], [], [0, 1, 2, 3, 4, 5, 6], [11, 6], [], [7], fun _ => True, fun u => match u with | [v] => own v (B (ds.take (i * 32)) ++ B ((ds.drop (i * 32)).take 32)) 85 32 | _ => tt⟩,
                        ⟨true, [0, 1, 2, 3, 4, 5, 6, 7], [3], [], [0, 1, 2, 3, 4, 5, 6, 7], [], [], [8, 3], fun u => match u with | [a, b] => a = b | _ => False, fun _ => tt⟩,
                        ⟨true, [0, 1, 2, 3, 4, 5, 6, 7, 8], [7], [], [0, 1, 2, 3, 4, 5, 6, 7, 8], [], [], [9, 7], fun u => match u with | [a, b] => a = b | _ => False, fun _ => tt⟩]) [8, 9] [0, 1, 2, 3, 67, 68, 69] [0, 1, 3, 4, 5, 7, 8, 9, 12] (by kernel_rfl) (by kernel_rfl) (by kernel_rfl) ?_ (fun V hV => ?_)
                    · refine ⟨?_, ?_, ?_, ?_, ?_, ?_, ?_, ?_, ?_, ?_, trivial⟩
                      · refine obl_run rfl fun V hk => ?_
                        refine ⟨noGuard rfl, fun Γ => ?_⟩
                        refine ow_mono (ow_weak (ρ' := [(10, vo)]) ⟨rfl, trivial⟩ (ow_move rfl)) (fun v w' h => ?_)
                        obtain ⟨e, hS⟩ := h
                        subst e
                        exact ⟨rfl, Sat.add_tt hS⟩
                      · refine obl_run rfl fun V hk => ?_
                        refine ⟨noGuard rfl, fun Γ => ?_⟩
                        refine ow_mono (ow_weak (ρ' := [(18, .pointer (some ⟨b18, 0, none⟩))]) ⟨rfl, trivial⟩ (ow_load_agg (B ((ds.drop (i * 32)).take 32)) rfl (wholeOf .here) Try.underlying29 rfl (by rw [size29, B_length, hlen]))) (fun v w' h => ?_)
                        obtain ⟨e, hS⟩ := h
                        subst e
                        exact ⟨rfl, Sat.add_tt hS⟩
                      · refine obl_run rfl fun V hk => ?_
                        have k1 : V 1 = .agg (B ((ds.drop (i * 32)).take 32)).toArray := one_eq (hk 1 (show 1 ∈ [1] by decide))
                        refine ⟨noGuard rfl, fun Γ => ?_⟩
                        refine ow_mono (ow_weak (ρ' := [(74, .agg (B ((ds.drop (i * 32)).take 32)).toArray)]) ⟨congrArg some k1, trivial⟩ (ow_bsA Try.underlying38 zs85 (by decide) rfl (by rw [B_length, hlen]))) (fun v w' h => ?_)
                        obtain ⟨b, _, rfl, hS⟩ := h
                        exact ⟨trivial, hS.head (own_of_blk (B ((ds.drop (i * 32)).take 32)) (B ((ds.drop (i * 32)).take 32)) (k := 1) (sz := 32) (by rw [B_length, hlen]) rfl (by decide))⟩
                      · refine obl_run rfl fun V hk => ?_
                        have k0 : V 0 = vo := one_eq (hk 0 (show 0 ∈ [0, 1, 2] by decide))
                        refine ⟨noGuard rfl, fun Γ => ?_⟩
                        refine ow_mono (ow_weak (ρ' := [(73, vo), (75, V 2)]) ⟨congrArg some k0, rfl, trivial⟩ (ow_call call27 rfl (fun w hS => osum_any vo (V 2) (B (bs ++ fours fs ++ eights ns ++ ds.take (i * 32))) ((ds.drop (i * 32)).take 32) 1 hlen own_reads (by simp only [List.length_append, B_length, fours_length, eights_length, List.length_take] at hend ⊢; simp only [List.length_take, List.length_drop] at hlen; omega) hS))) (fun v w' h => ?_)
                        obtain ⟨x, _, rfl, hS⟩ := h
                        exact ⟨trivial, hS.r1.tail⟩
                      · refine obl_run rfl fun V hk => ?_
                        refine ⟨noGuard rfl, fun Γ => ?_⟩
                        refine ow_mono (ow_weak (ρ' := [(9, vs)]) ⟨rfl, trivial⟩ (ow_move rfl)) (fun v w' h => ?_)
                        obtain ⟨e, hS⟩ := h
                        subst e
                        exact ⟨rfl, Sat.add_tt hS⟩
                      · refine obl_run rfl fun V hk => ?_
                        refine ⟨noGuard rfl, fun Γ => ?_⟩
                        refine ow_mono (ow_weak (ρ' := [(18, .pointer (some ⟨b18, 0, none⟩))]) ⟨rfl, trivial⟩ (ow_load_agg (B ((ds.drop (i * 32)).take 32)) rfl (wholeOf .here) Try.underlying29 rfl (by rw [size29, B_length, hlen]))) (fun v w' h => ?_)
                        obtain ⟨e, hS⟩ := h
                        subst e
                        exact ⟨rfl, Sat.add_tt hS⟩
                      · refine obl_run rfl fun V hk => ?_
                        have k5 : V 5 = .agg (B ((ds.drop (i * 32)).take 32)).toArray := one_eq (hk 5 (show 5 ∈ [5] by decide))
                        refine ⟨noGuard rfl, fun Γ => ?_⟩
                        refine ow_mono (ow_weak (ρ' := [(78, .agg (B ((ds.drop (i * 32)).take 32)).toArray)]) ⟨congrArg some k5, trivial⟩ (ow_bsA Try.underlying38 zs85 (by decide) rfl (by rw [B_length, hlen]))) (fun v w' h => ?_)
                        obtain ⟨b, _, rfl, hS⟩ := h
                        exact ⟨trivial, hS.head (own_of_blk (B ((ds.drop (i * 32)).take 32)) (B ((ds.drop (i * 32)).take 32)) (k := 1) (sz := 32) (by rw [B_length, hlen]) rfl (by decide))⟩
                      · refine obl_run rfl fun V hk => ?_
                        have k4 : V 4 = vs := one_eq (hk 4 (show 4 ∈ [0, 1, 2, 3, 4, 5, 6] by decide))
                        refine ⟨noGuard rfl, fun Γ => ?_⟩
                        refine ow_mono (ow_weak (ρ' := [(77, vs), (79, V 6)]) ⟨congrArg some k4, rfl, trivial⟩ (ow_append (xs := B (ds.take (i * 32))) (news := B ((ds.drop (i * 32)).take 32)) Try.underlying38 Try.underlying38 info85 rfl (by decide) rfl rfl .here ((own_reads).cons _) (B_one _) (by simp only [List.length_append, B_length, fours_length, eights_length] at hend; rw [B_length, B_length, hlen, List.length_take]; omega) (by simp only [List.length_append, B_length, fours_length, eights_length] at hend; rw [B_length, B_length, hlen, List.length_take]; omega))) (fun v w' h => ?_)
                        obtain ⟨x, _, rfl, hS⟩ := h
                        exact ⟨trivial, hS.r1.tail⟩
                      · refine obl_run rfl fun V hk => ?_
                        refine ⟨noGuard rfl, fun Γ => ?_⟩
                        refine ow_mono (ow_weak (ρ' := [(76, V 3)]) ⟨rfl, trivial⟩ (ow_assign rfl)) (fun v w' h => ?_)
                        obtain ⟨e, hS⟩ := h
                        subst e
                        exact ⟨rfl, Sat.add_tt hS⟩
                      · refine obl_run rfl fun V hk => ?_
                        refine ⟨noGuard rfl, fun Γ => ?_⟩
                        refine ow_mono (ow_weak (ρ' := [(80, V 7)]) ⟨rfl, trivial⟩ (ow_assign rfl)) (fun v w' h => ?_)
                        obtain ⟨e, hS⟩ := h
                        subst e
                        exact ⟨rfl, Sat.add_tt hS⟩
                    have e8 : V 8 = V 3 := hV 8 (show 8 < 10 by decide)
                    have e9 : V 9 = V 7 := hV 9 (show 9 < 10 by decide)
                    refine dn_weak (ρ' := [(10, V 3), (9, V 7), (0, bv), (1, fv), (2, nv), (3, dv), (67, dv), (68, .int .i64 q), (69, .int .i64 i)]) ⟨congrArg some e8, congrArg some e9, rfl, rfl, rfl, rfl, rfl, rfl, rfl, trivial⟩ (Γ' := [own (V 3) (B (bs ++ fours fs ++ eights ns ++ ds.take (i * 32)) ++ B ((ds.drop (i * 32)).take 32)) 5 1, own (V 7) (B (ds.take (i * 32)) ++ B ((ds.drop (i * 32)).take 32)) 85 32]) (fun w h => h.tail.tail.r1.tail.r1.tail.r2.tail.r2.tail.r2.tail) ?_
                    refine dn_block ?_
                    refine dn_seq ?_
                    refine wc_region ?_
                    refine wl_det (ow_add rfl rfl (by first | exact IntWalk.i64_in _ (by omega) | rfl)) rfl ?_
                    refine wl_det (ow_move rfl) rfl ?_
                    refine wl_nil ?_
                    refine dn_back (i + 1, V 3, V 7) (by simp only; omega) (by simp only; omega) ⟨rfl, rfl, rfl, rfl, rfl, rfl, rfl, rfl, lk_int rfl (by simp), trivial⟩ (fun w h => ?_)
                    simp only
                    rw [show (i + 1) * 32 = i * 32 + 32 by omega, List.take_add, ← List.append_assoc, B_append, B_append (ds.take (i * 32))]
                    exact h
                  · have hc70 := hc; simp only [decide_eq_true_eq, decide_eq_false_iff_not, Bool.not_eq_true', Bool.not_eq_false'] at hc
                    refine wc_exit ?_
                    refine dn_then_exit ?_
                    refine dn_then_exit ?_
                    refine dn_block_this ?_
                    refine dn_seq ?_
                    refine wc_seq ?_
                    have hi : q = i := by omega
                    subst hi
                    rw [← hq, List.take_length]
                    refine wc_region ?_
                    refine wl_some (ow_bs0 Try.underlying27 zs5) rfl (fun b82 _ => ?_)
                    refine wl_det (ow_move rfl) rfl ?_
                    refine wl_pieces (fun w h => h.head (own_of_blk [] (B []) (k := 0) (sz := 1) rfl rfl (by decide))) ?_
                    refine wl_some (ow_call call25 rfl (fun w hS => one_any _ _ _ bs (Rd.old hbr) (by simp only [List.length_append, B_length, fours_length, eights_length, List.length_take, List.length_cons, List.length_nil]; omega) hS)) rfl (fun v84 _ => ?_)
                    refine wl_det (ow_move rfl) rfl ?_
                    refine wl_some (ow_call call26 rfl (fun w hS => four_any _ _ _ fs (Rd.old hfr) (by simp only [List.length_append, B_length, fours_length, eights_length, List.length_take, List.length_cons, List.length_nil]; omega) hS)) rfl (fun v86 _ => ?_)
                    refine wl_det (ow_move rfl) rfl ?_
                    refine wl_some (ow_call call24 rfl (fun w hS => eight_any _ _ _ ns (Rd.old hnr) (by simp only [List.length_append, B_length, fours_length, eights_length, List.length_take, List.length_cons, List.length_nil]; omega) hS)) rfl (fun v88 _ => ?_)
                    refine wl_det (ow_move rfl) rfl ?_
                    refine wl_some (ow_call call27 rfl (fun w hS => osum_any _ _ _ ds q hq ((own_reads).cons _) (by simp only [List.length_append, B_length, fours_length, eights_length, List.length_take, List.length_cons, List.length_nil]; omega) hS)) rfl (fun v90 _ => ?_)
                    refine wl_det (ow_assign rfl) rfl ?_
                    refine wl_nil ?_
                    refine dn_seq ?_
                    refine wc_seq ?_
                    refine wc_weak (ρ' := [(0, bv), (1, fv), (2, nv), (3, dv), (10, vo), (19, v90)]) (Γ' := [own vo (B (bs ++ fours fs ++ eights ns ++ ds)) 5 1, own v90 (B (bs ++ fours fs ++ eights ns ++ ds)) 5 1]) ?_ ⟨rfl, rfl, rfl, rfl, rfl, rfl, trivial⟩ (fun w h => by
                      rw [show B (bs ++ fours fs ++ eights ns ++ ds) = [] ++ B bs ++ B (fours fs) ++ B (eights ns) ++ B ds by simp only [B_append, List.nil_append]]
                      simp only [B_append, List.nil_append, show B [] = [] from rfl] at h ⊢
                      exact h.r2.tail.r1)
                    refine wc_region ?_
                    refine wl_det_call (ow_mono (ow_call call21 rfl (fun w hS => awake01_any hS)) (fun v w' h => by obtain ⟨x, _, rfl, hS⟩ := h; exact ⟨rfl, Sat.dropl hS⟩)) rfl ?_
                    refine wl_det (ow_move rfl) rfl ?_
                    refine wlg_det (s := 92) rfl rfl rfl (ow_move rfl) rfl ?_
                    refine wlg_det (s := 92) rfl rfl rfl (ow_str Try.underlying27 Try.underlying5 Try.underlying9 rfl own_reads) rfl ?_
                    refine wlg_det (s := 92) rfl rfl rfl (ow_move rfl) rfl ?_
                    refine wlg_det (s := 92) rfl rfl rfl (ow_str Try.underlying27 Try.underlying5 Try.underlying9 rfl ((own_reads).cons _)) rfl ?_
                    refine wlg_det (s := 92) rfl rfl rfl (ow_eq_str (r := true) rfl rfl (by simp)) rfl ?_
                    refine wl_det (ow_and rfl rfl) rfl ?_
                    refine wl_det (ow_move rfl) rfl ?_
                    refine wlg_det (s := 99) rfl rfl rfl (ow_move rfl) rfl ?_
                    refine wlg_det (s := 99) rfl rfl rfl (ow_len Try.underlying27 rfl ((own_reads).cons _) (by decide) (m := (bs ++ fours fs ++ eights ns ++ ds).length) (by simp)) rfl ?_
                    refine wlg_det (s := 99) rfl rfl rfl (ow_move rfl) rfl ?_
                    refine wlg_det (s := 99) rfl rfl rfl (ow_len Try.underlying26 rfl (Rd.old hbr) (by decide) (m := bs.length) (by simp)) rfl ?_
                    refine wlg_det (s := 99) rfl rfl rfl (ow_move rfl) rfl ?_
                    refine wlg_det (s := 99) rfl rfl rfl (ow_len Try.underlying36 rfl (Rd.old hfr) (by decide) (m := fs.length) (by simp)) rfl ?_
                    refine wlg_det (s := 99) rfl rfl rfl (ow_mul rfl rfl (by first | exact IntWalk.i64_in _ (by omega) | rfl)) rfl ?_
                    refine wlg_det (s := 99) rfl rfl rfl (ow_add rfl rfl (by first | exact IntWalk.i64_in _ (by omega) | rfl)) rfl ?_
                    refine wlg_det (s := 99) rfl rfl rfl (ow_move rfl) rfl ?_
                    refine wlg_det (s := 99) rfl rfl rfl (ow_len Try.underlying23 rfl (Rd.old hnr) (by decide) (m := ns.length) (by simp)) rfl ?_
                    refine wlg_det (s := 99) rfl rfl rfl (ow_mul rfl rfl (by first | exact IntWalk.i64_in _ (by omega) | rfl)) rfl ?_
                    refine wlg_det (s := 99) rfl rfl rfl (ow_add rfl rfl (by first | exact IntWalk.i64_in _ (by omega) | rfl)) rfl ?_
                    refine wlg_det (s := 99) rfl rfl rfl (ow_move rfl) rfl ?_
                    refine wlg_det (s := 99) rfl rfl rfl (ow_len Try.underlying37 rfl (Rd.old hdr) (by decide) (m := q) (by simpa using hq)) rfl ?_
                    refine wlg_det (s := 99) rfl rfl rfl (ow_mul rfl rfl (by first | exact IntWalk.i64_in _ (by omega) | rfl)) rfl ?_
                    refine wlg_det (s := 99) rfl rfl rfl (ow_add rfl rfl (by first | exact IntWalk.i64_in _ (by omega) | rfl)) rfl ?_
                    refine wlg_det (s := 99) rfl rfl rfl (ow_eqI rfl rfl) rfl ?_
                    refine wl_det (ow_and rfl rfl) rfl ?_
                    refine wl_det (ow_assign rfl) rfl ?_
                    refine wl_nil ?_
                    refine dn_seq ?_
                    refine wc_ret ?_
                    refine dn_ret1 rfl rfl (fun w hS => ⟨_, rfl, ?_, hS.below⟩)
                    rw [hendI]
                    simp

end Go.Proofs.Toll
