/- The walks of the helpers of layer 1's statements: fits, awake, lay, laid. Printed by tools/gen.py out of tools/law01.an.py. -/
import Derived.Test.YthcejmfaiekbeaaRROctet
import Derived.Test.YthcejmfaiekbeaaRRRef01
import Derived.Test.YthcejmfaiekbeaaRRThing
set_option linter.unusedVariables false
set_option linter.unusedSimpArgs false
namespace Go.Proofs.Toll
open Go Go.Toll Go.RowKit
set_option maxRecDepth 100000 in
theorem fits_any {w0 w : World} {Γ : List HP} (lv : Value) (l : List Thing) (hl : RdItems w0 Γ lv l) (hb : l.length ≤ 140737488355328) (hS : Sat w0 Γ w) :
    Calls Try.prog 20 #[lv] w (Ret (Det w0 (.bool (fitsB l)) Γ)) := by
  refine calls_of_wc Try.func20 rfl rfl (Nat.le_of_ble_eq_true rfl) ?_ w hS
  clear hS
  refine wc_seq ?_
  refine wc_region ?_
  refine wl_det (ow_assign rfl) rfl ?_
  refine wl_nil ?_
  refine dn_seq ?_
  refine wc_seq ?_
  refine wc_seq ?_
  refine wc_region ?_
  refine wl_det (ow_move rfl) rfl ?_
  refine wl_det (ow_len Try.underlying22 rfl hl.1 (by decide) hl.length) rfl ?_
  refine wl_det (ow_move rfl) rfl ?_
  refine wl_nil ?_
  refine dn_seq ?_
  refine wc_block ?_
  refine wc_loop (α := Nat) (fun i => i ≤ l.length ∧ (l.take i).all (fun x => decide (x.p.length ≤ 4096)) = true) (fun i => [(0, lv), (5, lv), (6, .int .i64 l.length), (7, .int .i64 i)]) (fun i => Γ) (fun i => l.length - i) 0 ⟨Nat.zero_le _, rfl⟩ ⟨rfl, rfl, rfl, rfl, trivial⟩ (fun w h => h) ?_
  · rintro i ⟨hi0, hall⟩
    refine wc_seq ?_
    refine wc_region ?_
    refine wl_det (ow_ltI rfl rfl) rfl ?_
    refine wl_nil ?_
    refine dn_seq ?_
    refine wc_seq ?_
    refine wc_cond rfl (fun hc => ?_) (fun hc => ?_)
    · have hc8 := hc; simp only [decide_eq_true_eq, decide_eq_false_iff_not, Bool.not_eq_true', Bool.not_eq_false'] at hc
      refine wc_skip ?_
      refine dn_seq ?_
      refine wc_seq ?_
      refine wc_block ?_
      refine wc_seq ?_
      refine wc_region ?_
      refine wl_some (ow_indexAddr_rd Try.underlying22 size31 rfl rfl hl.1 (by decide) (by omega) (by rw [hl.length]; omega)) rfl (fun ad had => ?_)
      have hi : i < l.length := by omega
      have hx := hl.2 l[i] (List.getElem_mem hi)
      rw [hl.chunk i hi] at had
      refine wl_det (ow_load_rd _ rfl had Try.underlying31 rfl (by rw [size31, Thing.cells_length hx.hd])) rfl ?_
      refine wl_some (ow_alloc z31 zero31 rfl) rfl (fun b4 _ => ?_)
      refine wl_eff (ow_store_agg [] z31 [] rfl rfl (by rw [size31, Thing.cells_length hx.hd]) (Thing.cells_one hx) (by simp) rfl (by rw [Thing.cells_length hx.hd]; rfl) .here) ?_
      refine wl_nil ?_
      refine dn_seq ?_
      refine wc_seq ?_
      refine wc_region ?_
      refine wl_det (ow_field0 34 Try.underlying31 rfl size26 rfl) rfl ?_
      refine wl_det (ow_load plain26 rfl (cellOf .here (by simpa using Thing.cell34 hx.hd))) rfl ?_
      refine wl_det (ow_len Try.underlying26 rfl (hx.hp.cons _) (by decide) (m := l[i].p.length) (by simp)) rfl ?_
      refine wl_det (ow_gtI rfl rfl) rfl ?_
      refine wl_nil ?_
      refine dn_seq ?_
      refine wc_cond rfl (fun hc => ?_) (fun hc => ?_)
      · have hc14 := hc; simp only [decide_eq_true_eq, decide_eq_false_iff_not, Bool.not_eq_true', Bool.not_eq_false'] at hc
        refine wc_seq ?_
        refine wc_region ?_
        refine wl_det (ow_assign rfl) rfl ?_
        refine wl_nil ?_
        refine dn_seq ?_
        refine wc_ret ?_
        refine dn_block_ret ?_
        refine dn_then_ret ?_
        refine dn_then_ret ?_
        refine dn_block_ret ?_
        refine dn_then_ret ?_
        refine dn_ret1 rfl rfl (fun w hS => ⟨_, rfl, ?_, hS.tail⟩)
        have : fitsB l = false := by
          unfold fitsB
          have : (l.all fun x => decide (x.p.length ≤ 4096)) = false := by
            rw [List.all_eq_false]
            exact ⟨l[i], List.getElem_mem hi, by simp; omega⟩
          rw [this]; rfl
        rw [this]
      · have hc14 := hc; simp only [decide_eq_true_eq, decide_eq_false_iff_not, Bool.not_eq_true', Bool.not_eq_false'] at hc
        refine wc_skip ?_
        refine dn_block ?_
        refine dn_seq ?_
        refine wc_region ?_
        refine wl_det (ow_add rfl rfl (by first | exact IntWalk.i64_in _ (by omega) | rfl)) rfl ?_
        refine wl_det (ow_move rfl) rfl ?_
        refine wl_nil ?_
        refine dn_back (i + 1) ⟨by omega, ?_⟩ (by omega) ⟨rfl, rfl, rfl, lk_int rfl (by simp), trivial⟩ (fun w h => h.tail)
        rw [take_snoc l i hi, List.all_append, hall]
        simp; omega
    · have hc8 := hc; simp only [decide_eq_true_eq, decide_eq_false_iff_not, Bool.not_eq_true', Bool.not_eq_false'] at hc
      refine wc_exit ?_
      refine dn_then_exit ?_
      refine dn_then_exit ?_
      refine dn_block_this ?_
      refine dn_seq ?_
      refine wc_seq ?_
      refine wc_region ?_
      refine wl_det (ow_move rfl) rfl ?_
      refine wl_det (ow_len Try.underlying22 rfl hl.1 (by decide) hl.length) rfl ?_
      refine wl_det (ow_leI rfl rfl) rfl ?_
      refine wl_det (ow_assign rfl) rfl ?_
      refine wl_nil ?_
      refine dn_seq ?_
      refine wc_ret ?_
      refine dn_ret1 rfl rfl (fun w hS => ⟨_, rfl, ?_, hS⟩)
      have : i = l.length := by omega
      subst this
      rw [List.take_length] at hall
      unfold fitsB
      rw [hall]
      congr 1
      rw [Bool.true_and, Bool.eq_iff_iff, decide_eq_true_eq, decide_eq_true_eq]
      omega

set_option maxRecDepth 100000 in
theorem awake01_any {w0 w : World} {Γ : List HP} (hS : Sat w0 Γ w) : Calls Try.prog 21 #[] w (Ret (Some_ w0 (fun _ => True) (fun _ : List HP => .bool true) (fun Δ => Δ ++ Γ))) := by
  refine calls_of_wc Try.func21 rfl rfl (Nat.le_of_ble_eq_true rfl) ?_ w hS
  clear hS
  refine wc_seq ?_
  refine wc_region ?_
  refine wl_det (ow_assign rfl) rfl ?_
  refine wl_nil ?_
  refine dn_seq ?_
  refine wc_seq ?_
  refine wc_region ?_
  refine wl_some (ow_bs0 Try.underlying27 zs5) rfl (fun b1 _ => ?_)
  refine wl_some (ow_bs1 Try.underlying36 zs40 rfl rfl rfl) rfl (fun b2 _ => ?_)
  refine wl_pieces (fun w h => (h.r1).head (own_of_blk [] [] (k := 0) (sz := 1) rfl rfl (by decide))) ?_
  refine wl_some (ow_call call26 rfl (fun w hS => four_any _ _ [] [258] (blk_reads [] _ [] 1 1 1 rfl rfl (by decide) (by decide)) (by decide) hS)) rfl (fun v3 _ => ?_)
  refine wl_some (ow_bs1 Try.underlying26 zs5 rfl rfl rfl) rfl (fun b4 _ => ?_)
  refine wl_det (ow_constBytes Try.underlying26 Try.underlying5 rfl .here) rfl ?_
  refine wl_some (ow_bs1 Try.underlying105 zs26 rfl rfl rfl) rfl (fun b6 _ => ?_)
  refine wl_pieces (fun w h => h.r2) ?_
  refine wl_some (ow_call call81 rfl (fun w hS => blob_any _ _ _ [[97]] ⟨[.slice (some ⟨b4, 0, none⟩) 1 1], rfl, blk_reads [] _ [] 1 1 1 rfl rfl (by decide) (by decide), fun i u p hu hp => ?_⟩ (by decide) hS)) rfl (fun v7 _ => ?_)
  · cases i with
    | zero =>
      simp only [List.getElem?_cons_zero, Option.some.injEq] at hu hp
      subst hu; subst hp
      exact (blk_reads [] (B [97]) [] 1 1 1 rfl rfl (by decide) (by decide)).cons _
    | succ i => simp at hu
  refine wl_det (ow_str Try.underlying27 Try.underlying5 Try.underlying9 rfl (own_reads (xs := B [0, 0, 1, 2, 0, 0, 0, 1, 97]))) rfl ?_
  refine wl_det (ow_eq_str (r := true) rfl rfl (by simp)) rfl ?_
  refine wl_det (ow_assign rfl) rfl ?_
  refine wl_nil ?_
  refine dn_seq ?_
  refine wc_ret ?_
  refine dn_ret1 rfl rfl (fun w hS => ⟨_, rfl, [_, _, _, _], trivial, rfl, hS⟩)

set_option maxRecDepth 100000 in
theorem lay_any {w0 w : World} {Γ : List HP} (v : Value) (xs : List Value) (x : Thing) (hx : x.Ok w0 Γ) (hl : xs.length + x.p.length ≤ 140737488354000) (hS : Sat w0 (own v xs 5 1 :: Γ) w) :
    Calls Try.prog 22 #[v, .agg x.cells.toArray] w (Ret (Some_ w0 (fun _ => True) id (fun v' => own v' (xs ++ B x.lay) 5 1 :: Γ))) := by
  refine calls_of_wc Try.func22 rfl rfl (Nat.le_of_ble_eq_true rfl) ?_ w hS
  clear hS
  refine wc_seq ?_
  refine wc_region ?_
  refine wl_some (ow_box x.cells rfl rfl) rfl (fun b3 _ => ?_)
  refine wl_det (ow_assign rfl) rfl ?_
  refine wl_nil ?_
  refine dn_seq ?_
  refine wc_seq ?_
  refine wc_seq ?_
  refine wc_region ?_
  refine wl_det (ow_field0 0 Try.underlying31 rfl size3 rfl) rfl ?_
  refine wl_det (ow_load plain3 rfl (cellOf (by first | exact .here | exact .there .here | exact .there (.there .here) | exact .there (.there (.there .here)) | exact .there (.there (.there (.there .here))) | exact .there (.there (.there (.there (.there .here))))) rfl)) rfl ?_
  refine wl_nil ?_
  refine dn_seq ?_
  refine wc_block ?_
  refine wc_seq ?_
  refine wc_region ?_
  refine wl_det (ow_eqI rfl rfl) rfl ?_
  refine wl_det (ow_assign rfl) rfl ?_
  refine wl_nil ?_
  refine dn_seq ?_
  refine wc_cond rfl (fun hc => ?_) (fun hc => ?_)
  · have hc7 := hc; simp only [decide_eq_true_eq, decide_eq_false_iff_not, Bool.not_eq_true', Bool.not_eq_false'] at hc
    refine wc_seq ?_
    refine wc_region ?_
    refine wl_det (ow_move rfl) rfl ?_
    refine wl_det (ow_field0 1 Try.underlying31 rfl size28 rfl) rfl ?_
    refine wl_det (ow_load plain28 rfl (cellOf (by first | exact .here | exact .there .here | exact .there (.there .here) | exact .there (.there (.there .here)) | exact .there (.there (.there (.there .here))) | exact .there (.there (.there (.there (.there .here))))) rfl)) rfl ?_
    refine wl_det (ow_conv Try.underlying28 Try.underlying5 rfl (u8_of _)) rfl ?_
    refine wl_some (ow_bs1 Try.underlying26 zs5 rfl rfl rfl) rfl (fun b13 _ => ?_)
    refine wl_pieces (fun w h => h.r2) ?_
    refine wl_some (ow_call call25 rfl (fun w hS => one_any _ _ _ [UInt8.ofNat x.num.toNat] (blk_reads [] _ [] 1 1 1 rfl rfl (by decide) (by decide)) (by simp only [List.length_cons, List.length_nil]; omega) hS)) rfl (fun v9 _ => ?_)
    rw [← be_one]
    refine wl_det (ow_assign rfl) rfl ?_
    refine wl_nil ?_
    refine dn_seq ?_
    refine wc_ret ?_
    refine dn_block_ret ?_
    refine dn_then_ret ?_
    refine dn_ret1 rfl rfl (fun w hS => ⟨_, rfl, v9, trivial, rfl, ?_⟩)
    have e : x.lay = be x.num.toNat 1 := by simp [Thing.lay, *]
    rw [e]
    exact hS.r1.tail.r1.tail
  · have hc7 := hc; simp only [decide_eq_true_eq, decide_eq_false_iff_not, Bool.not_eq_true', Bool.not_eq_false'] at hc
    refine wc_seq ?_
    refine wc_region ?_
    refine wl_det (ow_eqI rfl rfl) rfl ?_
    refine wl_det (ow_assign rfl) rfl ?_
    refine wl_nil ?_
    refine dn_seq ?_
    refine wc_cond rfl (fun hc => ?_) (fun hc => ?_)
    · have hc15 := hc; simp only [decide_eq_true_eq, decide_eq_false_iff_not, Bool.not_eq_true', Bool.not_eq_false'] at hc
      refine wc_seq ?_
      refine wc_region ?_
      refine wl_det (ow_move rfl) rfl ?_
      refine wl_det (ow_field0 1 Try.underlying31 rfl size28 rfl) rfl ?_
      refine wl_det (ow_load plain28 rfl (cellOf (by first | exact .here | exact .there .here | exact .there (.there .here) | exact .there (.there (.there .here)) | exact .there (.there (.there (.there .here))) | exact .there (.there (.there (.there (.there .here))))) rfl)) rfl ?_
      refine wl_det (ow_conv Try.underlying28 Try.underlying40 rfl (u32_of _)) rfl ?_
      refine wl_some (ow_bs1 Try.underlying36 zs40 rfl rfl rfl) rfl (fun b21 _ => ?_)
      refine wl_pieces (fun w h => h.r2) ?_
      refine wl_some (ow_call call26 rfl (fun w hS => four_any _ _ _ [UInt32.ofNat x.num.toNat] (blk_reads [] _ [] 1 1 1 rfl rfl (by decide) (by decide)) (by simp only [List.length_cons, List.length_nil]; omega) hS)) rfl (fun v9 _ => ?_)
      rw [fours_one, be_small _ 4 (by decide)]
      refine wl_det (ow_assign rfl) rfl ?_
      refine wl_nil ?_
      refine dn_seq ?_
      refine wc_ret ?_
      refine dn_block_ret ?_
      refine dn_then_ret ?_
      refine dn_ret1 rfl rfl (fun w hS => ⟨_, rfl, v9, trivial, rfl, ?_⟩)
      have e : x.lay = be x.num.toNat 4 := by simp [Thing.lay, *]
      rw [e]
      exact hS.r1.tail.r1.tail
    · have hc15 := hc; simp only [decide_eq_true_eq, decide_eq_false_iff_not, Bool.not_eq_true', Bool.not_eq_false'] at hc
      refine wc_seq ?_
      refine wc_region ?_
      refine wl_det (ow_eqI rfl rfl) rfl ?_
      refine wl_det (ow_assign rfl) rfl ?_
      refine wl_nil ?_
      refine dn_seq ?_
      refine wc_cond rfl (fun hc => ?_) (fun hc => ?_)
      · have hc23 := hc; simp only [decide_eq_true_eq, decide_eq_false_iff_not, Bool.not_eq_true', Bool.not_eq_false'] at hc
        refine wc_seq ?_
        refine wc_region ?_
        refine wl_det (ow_move rfl) rfl ?_
        refine wl_det (ow_field0 1 Try.underlying31 rfl size28 rfl) rfl ?_
        refine wl_det (ow_load plain28 rfl (cellOf (by first | exact .here | exact .there .here | exact .there (.there .here) | exact .there (.there (.there .here)) | exact .there (.there (.there (.there .here))) | exact .there (.there (.there (.there (.there .here))))) rfl)) rfl ?_
        refine wl_some (ow_bs1 Try.underlying23 zs28 rfl rfl rfl) rfl (fun b28 _ => ?_)
        refine wl_pieces (fun w h => h.r2) ?_
        refine wl_some (ow_call call24 rfl (fun w hS => eight_any _ _ _ [x.num] (blk_reads [] _ [] 1 1 1 rfl rfl (by decide) (by decide)) (by simp only [List.length_cons, List.length_nil]; omega) hS)) rfl (fun v9 _ => ?_)
        rw [eights_one]
        refine wl_det (ow_assign rfl) rfl ?_
        refine wl_nil ?_
        refine dn_seq ?_
        refine wc_ret ?_
        refine dn_block_ret ?_
        refine dn_then_ret ?_
        refine dn_ret1 rfl rfl (fun w hS => ⟨_, rfl, v9, trivial, rfl, ?_⟩)
        have e : x.lay = be x.num.toNat 8 := by simp [Thing.lay, *]
        rw [e]
        exact hS.r1.tail.r1.tail
      · have hc23 := hc; simp only [decide_eq_true_eq, decide_eq_false_iff_not, Bool.not_eq_true', Bool.not_eq_false'] at hc
        refine wc_seq ?_
        refine wc_region ?_
        refine wl_det (ow_eqI rfl rfl) rfl ?_
        refine wl_det (ow_assign rfl) rfl ?_
        refine wl_nil ?_
        refine dn_seq ?_
        refine wc_cond rfl (fun hc => ?_) (fun hc => ?_)
        · have hc30 := hc; simp only [decide_eq_true_eq, decide_eq_false_iff_not, Bool.not_eq_true', Bool.not_eq_false'] at hc
          refine wc_seq ?_
          refine wc_region ?_
          refine wl_det (ow_move rfl) rfl ?_
          refine wl_det (ow_field0 2 Try.underlying31 rfl size29 rfl) rfl ?_
          refine wl_det (ow_load_agg (B x.d) rfl (rangeOf [.int .i64 x.kind, .int .u64 (x.num.toNat : Int)] (B x.d) [x.pv, .int .i64 x.most] .here rfl rfl) Try.underlying29 rfl (by rw [size29, B_length, hx.hd])) rfl ?_
          refine wl_some (ow_bsA Try.underlying38 zs85 (by decide) rfl (by rw [B_length, hx.hd])) rfl (fun b35 _ => ?_)
          refine wl_pieces (fun w h => h.r2) ?_
          refine wl_some (ow_call call27 rfl (fun w hS => osum_any _ _ _ x.d 1 (by rw [hx.hd]) (blk_reads [] (B x.d) [] 1 1 32 (by simp) (by rw [B_length, hx.hd]) (by decide) (by decide)) (by rw [hx.hd]; omega) hS)) rfl (fun v9 _ => ?_)
          refine wl_det (ow_assign rfl) rfl ?_
          refine wl_nil ?_
          refine dn_seq ?_
          refine wc_ret ?_
          refine dn_block_ret ?_
          refine dn_then_ret ?_
          refine dn_ret1 rfl rfl (fun w hS => ⟨_, rfl, v9, trivial, rfl, ?_⟩)
          have e : x.lay = x.d := by simp [Thing.lay, *]
          rw [e]
          exact hS.r1.tail.r1.tail
        · have hc30 := hc; simp only [decide_eq_true_eq, decide_eq_false_iff_not, Bool.not_eq_true', Bool.not_eq_false'] at hc
          refine wc_seq ?_
          refine wc_region ?_
          refine wl_det (ow_eqI rfl rfl) rfl ?_
          refine wl_det (ow_assign rfl) rfl ?_
          refine wl_nil ?_
          refine dn_seq ?_
          refine wc_cond rfl (fun hc => ?_) (fun hc => ?_)
          · have hc37 := hc; simp only [decide_eq_true_eq, decide_eq_false_iff_not, Bool.not_eq_true', Bool.not_eq_false'] at hc
            refine wc_seq ?_
            refine wc_region ?_
            refine wl_det (ow_move rfl) rfl ?_
            refine wl_det (ow_field0 34 Try.underlying31 rfl size26 rfl) rfl ?_
            refine wl_det (ow_load plain26 rfl (cellOf .here (by simpa using Thing.cell34 hx.hd))) rfl ?_
            refine wl_some (ow_bs1 Try.underlying105 zs26 rfl rfl (cells_of_one hx.hone)) rfl (fun b42 _ => ?_)
            refine wl_pieces (fun w h => h.r2) ?_
            refine wl_some (ow_call call81 rfl (fun w hS => blob_any _ _ _ [x.p] ⟨[x.pv], rfl, blk_reads [] _ [] 1 1 1 rfl rfl (by decide) (by decide), fun i u p hu hp => ?_⟩ (by simp [blobs, be_length]; omega) hS)) rfl (fun v9 _ => ?_)
            · cases i with
              | zero =>
                simp only [List.getElem?_cons_zero, Option.some.injEq] at hu hp
                subst hu; subst hp
                exact (hx.hp.cons _).cons _
              | succ i => simp at hu
            rw [show blobs [x.p] = be x.p.length 4 ++ x.p by simp [blobs]]
            refine wl_det (ow_assign rfl) rfl ?_
            refine wl_nil ?_
            refine dn_seq ?_
            refine wc_ret ?_
            refine dn_block_ret ?_
            refine dn_then_ret ?_
            refine dn_ret1 rfl rfl (fun w hS => ⟨_, rfl, v9, trivial, rfl, ?_⟩)
            have e : x.lay = be x.p.length 4 ++ x.p := by simp [Thing.lay, *]
            rw [e]
            exact hS.r1.tail.r1.tail
          · have hc37 := hc; simp only [decide_eq_true_eq, decide_eq_false_iff_not, Bool.not_eq_true', Bool.not_eq_false'] at hc
            refine wc_skip ?_
            refine dn_block ?_
            refine dn_seq ?_
            refine wc_seq ?_
            refine wc_region ?_
            refine wl_det (ow_move rfl) rfl ?_
            refine wl_det (ow_assign rfl) rfl ?_
            refine wl_nil ?_
            refine dn_seq ?_
            refine wc_ret ?_
            refine dn_ret1 rfl rfl (fun w hS => ⟨_, rfl, v, trivial, rfl, ?_⟩)
            have e : x.lay = [] := by simp [Thing.lay, *]
            rw [e]
            simpa using hS.tail

set_option maxRecDepth 100000 in
theorem laid_any {w0 w : World} {Γ : List HP} (bv : Value) (bs : List UInt8) (x : Thing) (hx : x.Ok w0 Γ) (hl : bs.length + x.p.length ≤ 140737488354000) (hS : Sat w0 (own bv (B bs) 5 1 :: Γ) w) :
    Calls Try.prog 23 #[bv, .agg x.cells.toArray] w (Ret (Some_ w0 (fun _ => True) id (fun v' => own v' (B (bs ++ x.lay)) 5 1 :: Γ))) := by
  refine calls_of_wc Try.func23 rfl rfl (Nat.le_of_ble_eq_true rfl) ?_ w hS
  clear hS
  refine wc_seq ?_
  refine wc_region ?_
  refine wl_some (ow_box x.cells rfl rfl) rfl (fun b3 _ => ?_)
  refine wl_det (ow_assign rfl) rfl ?_
  refine wl_nil ?_
  refine dn_seq ?_
  refine wc_seq ?_
  refine wc_seq ?_
  refine wc_region ?_
  refine wl_det (ow_field0 0 Try.underlying31 rfl size3 rfl) rfl ?_
  refine wl_det (ow_load plain3 rfl (cellOf (by first | exact .here | exact .there .here | exact .there (.there .here) | exact .there (.there (.there .here)) | exact .there (.there (.there (.there .here))) | exact .there (.there (.there (.there (.there .here))))) rfl)) rfl ?_
  refine wl_nil ?_
  refine dn_seq ?_
  refine wc_block ?_
  refine wc_seq ?_
  refine wc_region ?_
  refine wl_det (ow_eqI rfl rfl) rfl ?_
  refine wl_det (ow_assign rfl) rfl ?_
  refine wl_nil ?_
  refine dn_seq ?_
  refine wc_cond rfl (fun hc => ?_) (fun hc => ?_)
  · have hc7 := hc; simp only [decide_eq_true_eq, decide_eq_false_iff_not, Bool.not_eq_true', Bool.not_eq_false'] at hc
    refine wc_seq ?_
    refine wc_region ?_
    refine wl_det (ow_move rfl) rfl ?_
    refine wl_det (ow_field0 1 Try.underlying31 rfl size28 rfl) rfl ?_
    refine wl_det (ow_load plain28 rfl (cellOf (by first | exact .here | exact .there .here | exact .there (.there .here) | exact .there (.there (.there .here)) | exact .there (.there (.there (.there .here))) | exact .there (.there (.there (.there (.there .here))))) rfl)) rfl ?_
    have hn := x.num.toNat_lt
    refine wl_some (ow_call call82 rfl (fun w hS => refnum_any _ bs x.num.toNat 1 (by decide) (by omega) (own_reads.cons _) (by omega) hS)) rfl (fun v9 _ => ?_)
    refine wl_det (ow_assign rfl) rfl ?_
    refine wl_nil ?_
    refine dn_seq ?_
    refine wc_ret ?_
    refine dn_block_ret ?_
    refine dn_then_ret ?_
    refine dn_ret1 rfl rfl (fun w hS => ⟨_, rfl, v9, trivial, rfl, ?_⟩)
    have e : x.lay = be x.num.toNat 1 := by simp [Thing.lay, *]
    rw [e]
    exact hS.r1.tail.r1.tail
  · have hc7 := hc; simp only [decide_eq_true_eq, decide_eq_false_iff_not, Bool.not_eq_true', Bool.not_eq_false'] at hc
    refine wc_seq ?_
    refine wc_region ?_
    refine wl_det (ow_eqI rfl rfl) rfl ?_
    refine wl_det (ow_assign rfl) rfl ?_
    refine wl_nil ?_
    refine dn_seq ?_
    refine wc_cond rfl (fun hc => ?_) (fun hc => ?_)
    · have hc13 := hc; simp only [decide_eq_true_eq, decide_eq_false_iff_not, Bool.not_eq_true', Bool.not_eq_false'] at hc
      refine wc_seq ?_
      refine wc_region ?_
      refine wl_det (ow_move rfl) rfl ?_
      refine wl_det (ow_field0 1 Try.underlying31 rfl size28 rfl) rfl ?_
      refine wl_det (ow_load plain28 rfl (cellOf (by first | exact .here | exact .there .here | exact .there (.there .here) | exact .there (.there (.there .here)) | exact .there (.there (.there (.there .here))) | exact .there (.there (.there (.there (.there .here))))) rfl)) rfl ?_
      have hn := x.num.toNat_lt
      refine wl_some (ow_call call82 rfl (fun w hS => refnum_any _ bs x.num.toNat 4 (by decide) (by omega) (own_reads.cons _) (by omega) hS)) rfl (fun v9 _ => ?_)
      refine wl_det (ow_assign rfl) rfl ?_
      refine wl_nil ?_
      refine dn_seq ?_
      refine wc_ret ?_
      refine dn_block_ret ?_
      refine dn_then_ret ?_
      refine dn_ret1 rfl rfl (fun w hS => ⟨_, rfl, v9, trivial, rfl, ?_⟩)
      have e : x.lay = be x.num.toNat 4 := by simp [Thing.lay, *]
      rw [e]
      exact hS.r1.tail.r1.tail
    · have hc13 := hc; simp only [decide_eq_true_eq, decide_eq_false_iff_not, Bool.not_eq_true', Bool.not_eq_false'] at hc
      refine wc_seq ?_
      refine wc_region ?_
      refine wl_det (ow_eqI rfl rfl) rfl ?_
      refine wl_det (ow_assign rfl) rfl ?_
      refine wl_nil ?_
      refine dn_seq ?_
      refine wc_cond rfl (fun hc => ?_) (fun hc => ?_)
      · have hc19 := hc; simp only [decide_eq_true_eq, decide_eq_false_iff_not, Bool.not_eq_true', Bool.not_eq_false'] at hc
        refine wc_seq ?_
        refine wc_region ?_
        refine wl_det (ow_move rfl) rfl ?_
        refine wl_det (ow_field0 1 Try.underlying31 rfl size28 rfl) rfl ?_
        refine wl_det (ow_load plain28 rfl (cellOf (by first | exact .here | exact .there .here | exact .there (.there .here) | exact .there (.there (.there .here)) | exact .there (.there (.there (.there .here))) | exact .there (.there (.there (.there (.there .here))))) rfl)) rfl ?_
        have hn := x.num.toNat_lt
        refine wl_some (ow_call call82 rfl (fun w hS => refnum_any _ bs x.num.toNat 8 (by decide) (by omega) (own_reads.cons _) (by omega) hS)) rfl (fun v9 _ => ?_)
        refine wl_det (ow_assign rfl) rfl ?_
        refine wl_nil ?_
        refine dn_seq ?_
        refine wc_ret ?_
        refine dn_block_ret ?_
        refine dn_then_ret ?_
        refine dn_ret1 rfl rfl (fun w hS => ⟨_, rfl, v9, trivial, rfl, ?_⟩)
        have e : x.lay = be x.num.toNat 8 := by simp [Thing.lay, *]
        rw [e]
        exact hS.r1.tail.r1.tail
      · have hc19 := hc; simp only [decide_eq_true_eq, decide_eq_false_iff_not, Bool.not_eq_true', Bool.not_eq_false'] at hc
        refine wc_seq ?_
        refine wc_region ?_
        refine wl_det (ow_eqI rfl rfl) rfl ?_
        refine wl_det (ow_assign rfl) rfl ?_
        refine wl_nil ?_
        refine dn_seq ?_
        refine wc_cond rfl (fun hc => ?_) (fun hc => ?_)
        · have hc25 := hc; simp only [decide_eq_true_eq, decide_eq_false_iff_not, Bool.not_eq_true', Bool.not_eq_false'] at hc
          refine wc_seq ?_
          refine wc_region ?_
          refine wl_det (ow_move rfl) rfl ?_
          refine wl_det (ow_field0 2 Try.underlying31 rfl size29 rfl) rfl ?_
          refine wl_det (ow_slice_arr (q := 2) Try.underlying29 size5 rfl (.none _ _) (.none _ _) (by decide) (by decide) (by decide) rfl) rfl ?_
          refine wl_some (ow_append Try.underlying26 Try.underlying26 info5 rfl (by decide) rfl rfl (.there .here) (blk_reads [.int .i64 x.kind, .int .u64 (x.num.toNat : Int)] (B x.d) [x.pv, .int .i64 x.most] 32 32 1 rfl (by rw [B_length, hx.hd]) (by decide) (by decide)) (B_one _) (by rw [B_length, B_length, hx.hd]; omega) (by rw [B_length, B_length, hx.hd]; omega)) rfl (fun v9 _ => ?_)
          refine wl_det (ow_assign rfl) rfl ?_
          refine wl_nil ?_
          refine dn_seq ?_
          refine wc_ret ?_
          refine dn_block_ret ?_
          refine dn_then_ret ?_
          refine dn_ret1 rfl rfl (fun w hS => ⟨_, rfl, v9, trivial, rfl, ?_⟩)
          have e : x.lay = x.d := by simp [Thing.lay, *]
          rw [e, B_append]
          exact hS.r1.tail
        · have hc25 := hc; simp only [decide_eq_true_eq, decide_eq_false_iff_not, Bool.not_eq_true', Bool.not_eq_false'] at hc
          refine wc_seq ?_
          refine wc_region ?_
          refine wl_det (ow_eqI rfl rfl) rfl ?_
          refine wl_det (ow_assign rfl) rfl ?_
          refine wl_nil ?_
          refine dn_seq ?_
          refine wc_cond rfl (fun hc => ?_) (fun hc => ?_)
          · have hc31 := hc; simp only [decide_eq_true_eq, decide_eq_false_iff_not, Bool.not_eq_true', Bool.not_eq_false'] at hc
            refine wc_seq ?_
            refine wc_region ?_
            refine wl_det (ow_move rfl) rfl ?_
            refine wl_det (ow_field0 34 Try.underlying31 rfl size26 rfl) rfl ?_
            refine wl_det (ow_load plain26 rfl (cellOf .here (by simpa using Thing.cell34 hx.hd))) rfl ?_
            refine wl_some (ow_call call83 rfl (fun w hS => refblob_any _ _ bs x.p (own_reads.cons _) ((hx.hp.cons _).cons _) (by omega) hS)) rfl (fun v9 _ => ?_)
            refine wl_det (ow_assign rfl) rfl ?_
            refine wl_nil ?_
            refine dn_seq ?_
            refine wc_ret ?_
            refine dn_block_ret ?_
            refine dn_then_ret ?_
            refine dn_ret1 rfl rfl (fun w hS => ⟨_, rfl, v9, trivial, rfl, ?_⟩)
            have e : x.lay = be x.p.length 4 ++ x.p := by simp [Thing.lay, *]
            rw [e]
            exact hS.r1.tail.r1.tail
          · have hc31 := hc; simp only [decide_eq_true_eq, decide_eq_false_iff_not, Bool.not_eq_true', Bool.not_eq_false'] at hc
            refine wc_skip ?_
            refine dn_block ?_
            refine dn_seq ?_
            refine wc_seq ?_
            refine wc_region ?_
            refine wl_det (ow_move rfl) rfl ?_
            refine wl_det (ow_assign rfl) rfl ?_
            refine wl_nil ?_
            refine dn_seq ?_
            refine wc_ret ?_
            refine dn_ret1 rfl rfl (fun w hS => ⟨_, rfl, bv, trivial, rfl, ?_⟩)
            have e : x.lay = [] := by simp [Thing.lay, *]
            rw [e]
            simpa using hS.tail

end Go.Proofs.Toll
