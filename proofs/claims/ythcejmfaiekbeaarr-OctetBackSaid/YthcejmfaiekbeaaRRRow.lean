/- The rows' side: from what the form says of the arguments to what the walks ask, and from what a walk ends in to the row's post. No program in sight. -/
import Derived.Test.YthcejmfaiekbeaaRRThing
import Derived.WalkKit
import Derived.ProofKit
import Derived.OpenShut
import Derived.Carry
import Derived.SizedLaws
set_option linter.unusedVariables false
set_option linter.unusedSimpArgs false
namespace Go.Toll
open Go Go.RowKit Go.ChangeShapes
section
variable {H : Type} {enc : TypeId × Value → H} {P : Program} {w : World} {base : Nat} {spare : Nat → Bool} {held : Bool} {t e : TypeId} {fuel : Nat} {cs : List Value} {x : DataW H × List MemPlace}
theorem trod_array {m : Nat} (ht : P.underlying t = some (.array m e)) (h : DataW.trod enc P w base spare held fuel t cs = some x) :
    ∃ (xs : List (DataW H × List MemPlace)) (n : Nat), fuel = n + 1 ∧ x = (.agg (xs.map (·.1)), xs.flatMap (·.2)) ∧ cs.length = P.cellsOf t ∧ xs.length = m ∧
      ∀ i, i < m → DataW.trod enc P w base spare held n e ((cs.drop (i * P.cellsOf e)).take (P.cellsOf e)) = xs[i]? := by
  cases fuel with
  | zero => simp [DataW.trod] at h
  | succ n =>
    unfold DataW.trod at h
    rw [ht] at h
    split at h <;> simp_all
    obtain ⟨hl, xs, hxs, rfl⟩ := h
    exact ⟨xs, rfl, by simpa using mapM_some_length hxs, fun i hi => mapM_some_get hxs i i (by simp [hi])⟩
/-- How many elements a slice's datum has. -/
def count : DataW H → Nat
  | .slice es _ => es.length
  | _ => 0
theorem open_elems (ht : P.underlying t = some (.slice e)) (h : DataW.trod enc P w base spare held fuel t cs = some x) :
    ∃ (v : Value) (css : List (List Value)), cs = [v] ∧ v.oneCell' = true ∧ css.length = count x.1 ∧ Reads (P.cellsOf e) w v css.flatten ∧ (∀ c ∈ css, c.length = P.cellsOf e ∧ ∃ n z, DataW.trod enc P w base spare held n e c = some z) := by
  rcases DataW.trod_slice ht h with ⟨rfl, rfl⟩ | ⟨a, len, cap, elems, rest, n, _, rfl, rfl, hb, hl, hm, hlen, hel, _, _⟩
  · exact ⟨_, [], rfl, rfl, rfl, ⟨0, by simp, .inl ⟨rfl, rfl⟩⟩, by simp⟩
  · have each : ∀ i, i < len → ∃ c z, w.cells? base (a.add (i * P.cellsOf e)) (P.cellsOf e) = some c ∧ DataW.trod enc P w base spare held n e c = some z := fun i hi => by
      have h1 := hel i hi
      rw [List.getElem?_eq_getElem (by omega)] at h1
      obtain ⟨c, hc, hz⟩ := Option.bind_eq_some_iff.1 h1
      exact ⟨c, _, hc, hz⟩
    refine ⟨_, (List.range len).map fun i => (w.cells? base (a.add (i * P.cellsOf e)) (P.cellsOf e)).getD [], rfl, rfl, ?_, ?_, ?_⟩
    · simp [count, hlen]
    · have hll : ∀ c ∈ (List.range len).map (fun i => (w.cells? base (a.add (i * P.cellsOf e)) (P.cellsOf e)).getD []), c.length = P.cellsOf e := fun c hc => by
        obtain ⟨i, hi, rfl⟩ := List.mem_map.1 hc
        obtain ⟨c, z, h1, _⟩ := each i (List.mem_range.1 hi)
        rw [h1]
        exact (World.cells?_some h1).2.1
      rw [← List.flatMap_id']
      refine ⟨len, ?_, .inr ⟨a, cap, rfl, hl, hm, fun j u hu => ?_⟩⟩
      · have := flatMap_length_eq (fun c : List Value => c) _ _ hll
        simpa using this
      · have hjlt : j < len * P.cellsOf e := by
          have h1 := (List.getElem?_eq_some_iff.1 hu).1
          have h2 := flatMap_length_eq (fun c : List Value => c) _ _ hll
          rw [h2] at h1
          simpa using h1
        have hk : 0 < P.cellsOf e := by
          rcases Nat.eq_zero_or_pos (P.cellsOf e) with h0 | h0
          · rw [h0] at hjlt; simp at hjlt
          · exact h0
        have hi : j / P.cellsOf e < len := Nat.div_lt_of_lt_mul (by rw [Nat.mul_comm]; exact hjlt)
        have hch := flatMap_chunk (fun c : List Value => c) _ _ hll (j / P.cellsOf e) (by simpa using hi)
        obtain ⟨c, z, h1, _⟩ := each _ hi
        simp only [List.getElem_map, List.getElem_range, h1, Option.getD_some] at hch
        obtain ⟨_, h3, h4⟩ := World.cells?_some h1
        have h5 := h4 (j % P.cellsOf e) (Nat.mod_lt _ hk)
        have h6 : c[j % P.cellsOf e]? = some u := by
          rw [← hch, List.getElem?_take, if_pos (Nat.mod_lt _ hk), List.getElem?_drop, Nat.mul_comm, Nat.div_add_mod]
          exact hu
        rw [h6, addr_add_add, show j / P.cellsOf e * P.cellsOf e + j % P.cellsOf e = j by rw [Nat.mul_comm, Nat.div_add_mod]] at h5
        exact h5
    · intro c hc
      obtain ⟨i, hi, rfl⟩ := List.mem_map.1 hc
      obtain ⟨c, z, h1, h2⟩ := each i (List.mem_range.1 hi)
      rw [h1]
      exact ⟨(World.cells?_some h1).2.1, n, z, h2⟩
theorem gather {α β : Type} (F : α → β) (p : α → Prop) : ∀ (l : List β), (∀ c ∈ l, ∃ x, c = F x ∧ p x) → ∃ xs : List α, l = xs.map F ∧ ∀ x ∈ xs, p x
  | [], _ => ⟨[], rfl, by simp⟩
  | c :: l, h => by
    obtain ⟨x, rfl, hx⟩ := h c List.mem_cons_self
    obtain ⟨xs, rfl, hxs⟩ := gather F p l fun c hc => h c (List.mem_cons_of_mem _ hc)
    exact ⟨x :: xs, rfl, fun y hy => by
      rcases List.mem_cons.1 hy with rfl | hy
      · exact hx
      · exact hxs y hy⟩
/-- A slice's elements as things: each element's cells are F of one. -/
theorem open_as {α : Type} (F : α → List Value) (p : α → Prop) (ht : P.underlying t = some (.slice e)) (hF : ∀ n c z, c.length = P.cellsOf e → DataW.trod enc P w base spare held n e c = some z → ∃ a, c = F a ∧ p a)
    (h : DataW.trod enc P w base spare held fuel t cs = some x) : ∃ (v : Value) (l : List α), cs = [v] ∧ v.oneCell' = true ∧ l.length = count x.1 ∧ Reads (P.cellsOf e) w v (l.flatMap F) ∧ ∀ a ∈ l, p a := by
  obtain ⟨v, css, h1, h0, h2, h3, h4⟩ := open_elems ht h
  obtain ⟨l, rfl, hl⟩ := gather F p css fun c hc => by
    obtain ⟨hc1, n, z, hz⟩ := h4 c hc
    exact hF n c z hc1 hz
  exact ⟨v, l, h1, h0, by simpa using h2, by rw [List.flatMap_def]; exact h3, hl⟩
theorem open_u8 (he : P.underlying e = some (.int .u8)) (n : Nat) (c : List Value) (z : DataW H × List MemPlace) (h : DataW.trod enc P w base spare held n e c = some z) : ∃ a : UInt8, c = B [a] := by
  obtain ⟨m, rfl, _, hw⟩ := DataW.trod_int he h
  simp [Lit.wf, IntKind.min, IntKind.max, IntKind.signed, IntKind.bits] at hw
  have hlo : (0 : Int) ≤ m := by omega
  have hhi : m < 256 := by omega
  have h0 : ((UInt8.ofNat m.toNat).toNat : Int) = m := by rw [UInt8.toNat_ofNat']; omega
  exact ⟨UInt8.ofNat m.toNat, by simp only [B, List.map_cons, List.map_nil, h0]⟩
theorem open_u32 (he : P.underlying e = some (.int .u32)) (n : Nat) (c : List Value) (z : DataW H × List MemPlace) (h : DataW.trod enc P w base spare held n e c = some z) : ∃ a : UInt32, c = [.int .u32 (a.toNat : Int)] := by
  obtain ⟨m, rfl, _, hw⟩ := DataW.trod_int he h
  simp [Lit.wf, IntKind.min, IntKind.max, IntKind.signed, IntKind.bits] at hw
  have hlo : (0 : Int) ≤ m := by omega
  have hhi : m < 4294967296 := by omega
  have h0 : ((UInt32.ofNat m.toNat).toNat : Int) = m := by rw [UInt32.toNat_ofNat']; omega
  exact ⟨UInt32.ofNat m.toNat, by simp only [h0]⟩
theorem open_u64 (he : P.underlying e = some (.int .u64)) (n : Nat) (c : List Value) (z : DataW H × List MemPlace) (h : DataW.trod enc P w base spare held n e c = some z) : ∃ a : UInt64, c = [.int .u64 (a.toNat : Int)] := by
  obtain ⟨m, rfl, _, hw⟩ := DataW.trod_int he h
  simp [Lit.wf, IntKind.min, IntKind.max, IntKind.signed, IntKind.bits] at hw
  have hlo : (0 : Int) ≤ m := by omega
  have hhi : m < 18446744073709551616 := by omega
  have h0 : ((UInt64.ofNat m.toNat).toNat : Int) = m := by rw [UInt64.toNat_ofNat']; omega
  exact ⟨UInt64.ofNat m.toNat, by simp only [h0]⟩
theorem B_flat : ∀ l : List UInt8, (l.flatMap fun a => B [a]) = B l
  | [] => rfl
  | a :: l => by rw [List.flatMap_cons, B_flat l]; rfl
theorem open_bytes (ht : P.underlying t = some (.slice e)) (he : P.underlying e = some (.int .u8)) (hc : P.cellsOf e = 1) (h : DataW.trod enc P w base spare held fuel t cs = some x) :
    ∃ (v : Value) (b : List UInt8), cs = [v] ∧ v.oneCell' = true ∧ b.length = count x.1 ∧ Reads 1 w v (B b) := by
  obtain ⟨v, l, h1, h0, h2, h3, _⟩ := open_as (fun a : UInt8 => B [a]) (fun _ => True) ht (fun n c z _ hz => by obtain ⟨a, ha⟩ := open_u8 he n c z hz; exact ⟨a, ha, trivial⟩) h
  rw [hc] at h3
  exact ⟨v, l, h1, h0, h2, by rw [← B_flat]; exact h3⟩
theorem V32_flat : ∀ l : List UInt32, (l.flatMap fun a => [Value.int .u32 (a.toNat : Int)]) = V32 l
  | [] => rfl
  | a :: l => by rw [List.flatMap_cons, V32_flat l]; rfl
theorem open_u32s (ht : P.underlying t = some (.slice e)) (he : P.underlying e = some (.int .u32)) (hc : P.cellsOf e = 1) (h : DataW.trod enc P w base spare held fuel t cs = some x) :
    ∃ (v : Value) (b : List UInt32), cs = [v] ∧ v.oneCell' = true ∧ b.length = count x.1 ∧ Reads 1 w v (V32 b) := by
  obtain ⟨v, l, h1, h0, h2, h3, _⟩ := open_as (fun a : UInt32 => [Value.int .u32 (a.toNat : Int)]) (fun _ => True) ht (fun n c z _ hz => by obtain ⟨a, ha⟩ := open_u32 he n c z hz; exact ⟨a, ha, trivial⟩) h
  rw [hc] at h3
  exact ⟨v, l, h1, h0, h2, by rw [← V32_flat]; exact h3⟩
theorem V64_flat : ∀ l : List UInt64, (l.flatMap fun a => [Value.int .u64 (a.toNat : Int)]) = V64 l
  | [] => rfl
  | a :: l => by rw [List.flatMap_cons, V64_flat l]; rfl
theorem open_u64s (ht : P.underlying t = some (.slice e)) (he : P.underlying e = some (.int .u64)) (hc : P.cellsOf e = 1) (h : DataW.trod enc P w base spare held fuel t cs = some x) :
    ∃ (v : Value) (b : List UInt64), cs = [v] ∧ v.oneCell' = true ∧ b.length = count x.1 ∧ Reads 1 w v (V64 b) := by
  obtain ⟨v, l, h1, h0, h2, h3, _⟩ := open_as (fun a : UInt64 => [Value.int .u64 (a.toNat : Int)]) (fun _ => True) ht (fun n c z _ hz => by obtain ⟨a, ha⟩ := open_u64 he n c z hz; exact ⟨a, ha, trivial⟩) h
  rw [hc] at h3
  exact ⟨v, l, h1, h0, h2, by rw [← V64_flat]; exact h3⟩
/-- The cells of an array of bytes. -/
theorem open_byteArr {m : Nat} (ht : P.underlying t = some (.array m e)) (he : P.underlying e = some (.int .u8)) (hc : P.cellsOf e = 1) (hct : P.cellsOf t = m) (h : DataW.trod enc P w base spare held fuel t cs = some x) :
    ∃ b : List UInt8, cs = B b ∧ b.length = m := by
  obtain ⟨xs, n, _, _, hl, hx, hel⟩ := trod_array ht h
  have each : ∀ c ∈ cs, ∃ a : UInt8, c = .int .u8 (a.toNat : Int) := fun c hcm => by
    obtain ⟨i, hi, rfl⟩ := List.getElem_of_mem hcm
    have h1 := hel i (by omega)
    rw [List.getElem?_eq_getElem (show i < xs.length by omega), hc, Nat.mul_one, show List.take 1 (List.drop i cs) = [cs[i]] from by rw [List.drop_eq_getElem_cons hi]; rfl] at h1
    obtain ⟨a, ha⟩ := open_u8 he _ _ _ h1
    exact ⟨a, by simpa [B] using ha⟩
  obtain ⟨b, rfl, _⟩ := gather (fun a : UInt8 => Value.int .u8 (a.toNat : Int)) (fun _ => True) cs fun c hc => by obtain ⟨a, ha⟩ := each c hc; exact ⟨a, ha, trivial⟩
  exact ⟨b, rfl, by simp at hl; omega⟩
theorem B_flats : ∀ l : List (List UInt8), (l.flatMap fun a => B a) = B (l.flatMap fun a => a)
  | [] => rfl
  | a :: l => by rw [List.flatMap_cons, B_flats l, List.flatMap_cons, B_append]
theorem firsts {α β : Type} : ∀ l : List (α × β), (l.flatMap fun a => [a.1]) = l.map (·.1)
  | [] => rfl
  | a :: l => by rw [List.flatMap_cons, firsts l]; rfl
/-- A slice of arrays of k bytes: its bytes, one array behind the other. -/
theorem open_arrs {e' : TypeId} {m : Nat} (ht : P.underlying t = some (.slice e)) (he : P.underlying e = some (.array m e')) (he' : P.underlying e' = some (.int .u8)) (hc' : P.cellsOf e' = 1) (hc : P.cellsOf e = m) (h : DataW.trod enc P w base spare held fuel t cs = some x) :
    ∃ (v : Value) (b : List UInt8), cs = [v] ∧ v.oneCell' = true ∧ b.length = count x.1 * m ∧ Reads m w v (B b) := by
  obtain ⟨v, l, h1, h0, h2, h3, h4⟩ := open_as (fun a : List UInt8 => B a) (fun a => a.length = m) ht (fun n c z _ hz => by obtain ⟨b, hb, hl⟩ := open_byteArr he he' hc' hc hz; exact ⟨b, hb, hl⟩) h
  rw [hc] at h3
  refine ⟨v, l.flatMap fun a => a, h1, h0, by rw [← h2]; exact flatMap_length_eq _ m l h4, ?_⟩
  rw [← B_flats l]
  exact h3
/-- A slice of byte slices. -/
theorem open_blobs {e' : TypeId} (ht : P.underlying t = some (.slice e)) (he : P.underlying e = some (.slice e')) (he' : P.underlying e' = some (.int .u8)) (hc' : P.cellsOf e' = 1) (hc : P.cellsOf e = 1) (h : DataW.trod enc P w base spare held fuel t cs = some x) :
    ∃ (v : Value) (ps : List (List UInt8)), cs = [v] ∧ v.oneCell' = true ∧ ps.length = count x.1 ∧ ∀ Γ, RdL w Γ v ps := by
  obtain ⟨v, l, h1, h0, h2, h3, h4⟩ := open_as (fun a : Value × List UInt8 => [a.1]) (fun a => Reads 1 w a.1 (B a.2)) ht (fun n c z _ hz => by obtain ⟨u, b, hb, _, _, hr⟩ := open_bytes he he' hc' hz; exact ⟨(u, b), hb, hr⟩) h
  rw [hc] at h3
  refine ⟨v, l.map (·.2), h1, h0, by simpa using h2, fun Γ => ⟨l.map (·.1), by simp, Rd.old ?_, fun i u p hu hp => ?_⟩⟩
  · rw [← firsts l]
    exact h3
  · rw [List.getElem?_map, Option.map_eq_some_iff] at hu hp
    obtain ⟨a, ha, rfl⟩ := hu
    obtain ⟨a', ha', rfl⟩ := hp
    rw [ha] at ha'
    obtain rfl := Option.some.inj ha'
    exact Rd.old (h4 a (List.mem_of_getElem? ha))
theorem open_cell {r : Reach} {b0 : Nat} {v u : Value} (ht : P.underlying t = some (.slice e)) (hval : Value.okWide P w r b0 t v) (h : v.cells.toList = [u]) : v = u := by
  cases v with
  | agg c => simp [Value.okWide, Cell.okWide, Cell.ok, ht] at hval
  | _ => simpa [Value.cells] using h
theorem open_celli {r : Reach} {b0 : Nat} {v u : Value} {k : IntKind} (ht : P.underlying t = some (.int k)) (hval : Value.okWide P w r b0 t v) (h : v.cells.toList = [u]) : v = u := by
  cases v with
  | agg c => simp [Value.okWide, Cell.okWide, Cell.ok, ht] at hval
  | _ => simpa [Value.cells] using h
theorem open_agg {r : Reach} {b0 m : Nat} {v : Value} {cs : List Value} (ht : P.underlying t = some (.array m e)) (hval : Value.okWide P w r b0 t v) (h : v.cells.toList = cs) : v = .agg cs.toArray := by
  simp only [Value.okWide, ht] at hval
  obtain ⟨c, rfl, _⟩ := hval
  subst h
  simp [Value.cells]
theorem open_agg_s {r : Reach} {b0 : Nat} {fs : Array Field} {v : Value} {cs : List Value} (ht : P.underlying t = some (.struct fs)) (hval : Value.okWide P w r b0 t v) (h : v.cells.toList = cs) : v = .agg cs.toArray := by
  simp only [Value.okWide, ht] at hval
  obtain ⟨c, rfl, _⟩ := hval
  subst h
  simp [Value.cells]
theorem sized_count {ts : List TypeId} {ds : List (DataW H)} (h : (DataW.weightsEach P ts ds).all (· ≤ reachBytes) = true) {j : Nat} {t e : TypeId} {d : DataW H} (ht : ts[j]? = some t) (hd : ds[j]? = some d) (hu : P.underlying t = some (.slice e)) :
    count d * P.bytesOf e ≤ reachBytes := by
  cases d with
  | slice es sp =>
    have := sized_slice h ht hd hu
    exact Nat.le_trans (Nat.mul_le_mul_right _ (Nat.le_add_right _ _)) this
  | _ => simp [count]
/-- The arguments read as they did. -/
theorem trodAll_stays (hl : laidOutB P = true) {W W' : World} (hb : Below W.heap.size W W') {sp : Nat → Bool} : ∀ {ts : List TypeId} {vs : List Value} {ds : List (DataW H)} {ps : List MemPlace}, (ts.all fun t => P.readableRec t && decide (t < P.types.size)) = true →
    DataW.TrodAll enc P W 0 (fun _ => true) true ts vs ds ps → (∀ p ∈ ps, p.block < W.heap.size) → (∀ p ∈ ps, sp p.block = true) → DataW.TrodAll enc P W' 0 sp true ts vs ds ps
  | [], vs, ds, ps, _, h, _, _ => by
    obtain ⟨rfl, rfl, rfl⟩ := trodAll_nil h
    exact rfl
  | t :: ts, vs, ds, ps, hr, h, hlt, hs => by
    obtain ⟨v, vs', d, ds', p, q, rfl, rfl, rfl, h1, h2⟩ := trodAll_cons h
    rw [List.all_cons, Bool.and_eq_true, Bool.and_eq_true, decide_eq_true_eq] at hr
    refine ⟨p, q, WideElems.Trod_stays hl hr.1.1 hr.1.2 h1 (fun x hx => hb.same (hlt x (by simp [hx]))) (fun x hx => hs x (by simp [hx])), trodAll_stays hl hb hr.2 h2 (fun x hx => hlt x (by simp [hx])) (fun x hx => hs x (by simp [hx])), rfl⟩
/-- What the row asks behind the call: the walk says true and left below the old heap what was there. -/
theorem law_post {f : Func} {s : ChangeSpec} {handsOn : Bool} {W W' : World} {args : Array Value} {ds gs : List (DataW H)} {before : List MemPlace} {r : TypeId}
    (hl : laidOutB P = true) (hr : (f.params.toList.all fun t => P.readableRec t && decide (t < P.types.size)) = true) (hrt : f.resultTypes = #[r]) (hrb : P.underlying r = some .bool) (hv : s.vars = [])
    (hW : DataW.Whole enc P f.params.toList s.vars false W args.toList ds gs before) (hs : s.fn H (ds ++ gs) = { results := [.lit (.bool true)], args := ds })
    (hb : Below W.heap.size W W') : s.post enc P f false true handsOn false W args (.bool true) W' := by
  have hlt := fun p hp => hW.lt (p := p) hp
  have hW2 := hW
  obtain ⟨p, q, hA, hV, rfl, _, _⟩ := hW
  have hq : gs = [] ∧ q = [] := by
    rw [hv] at hV
    cases gs with
    | nil => exact ⟨rfl, hV⟩
    | cons g gs => exact absurd hV (by simp [DataW.TrodVars])
  obtain ⟨rfl, rfl⟩ := hq
  refine ⟨ds, [], _, [], p, [], hW2, ?_, ?_, ?_, hb.frame _, fun h => by cases h⟩
  · rw [hs, hrt]
    exact trodAll_cons_mk (shut_bool hrb true) trodAll_mk0
  · rw [hs]
    refine trodAll_stays hl hb hr hA (fun x hx => hlt x (by simp [hx])) (fun x hx => ?_)
    simpa using hlt x (by simp [hx])
  · rw [hs, hv]
    exact rfl
end
end Go.Toll
