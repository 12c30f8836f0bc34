/- The given statement OctetLaysSaid is proved: for every slice of items and every slice of uint64 the law returns true, and both read afterwards as they read before. -/
import Derived.Test.YthcejmfaiekbeaaRRLaw01b
import Derived.Test.YthcejmfaiekbeaaRRRow
import Derived.Test.YthcejmfaiekbeaaRRRows
set_option linter.unusedVariables false
set_option linter.unusedSimpArgs false
namespace Go.Proofs.Toll
open Go Go.Toll Go.RowKit Go.ChangeShapes Go.WideShapes Go.Proofs.YthcejmfaiekbeaaRR
section
variable {H : Type} {enc : TypeId × Value → H} {w : World} {base : Nat} {spare : Nat → Bool} {held : Bool}
theorem B_take (l : List UInt8) (k : Nat) : (B l).take k = B (l.take k) := by simp [B]
theorem c3 : Try.prog.cellsOf 3 = 1 := by kernel_rfl
theorem c5 : Try.prog.cellsOf 5 = 1 := by kernel_rfl
theorem c26 : Try.prog.cellsOf 26 = 1 := by kernel_rfl
theorem c28 : Try.prog.cellsOf 28 = 1 := by kernel_rfl
theorem c29 : Try.prog.cellsOf 29 = 32 := by kernel_rfl
theorem c31 : Try.prog.cellsOf 31 = 36 := by kernel_rfl
/-- An item's cells are a thing's. -/
theorem open_thing (n : Nat) (c : List Value) (z : DataW H × List MemPlace) (hc : c.length = Try.prog.cellsOf 31) (h : DataW.trod enc Try.prog w base spare held n 31 c = some z) : ∃ x : Thing, c = x.cells ∧ x.Ok w [] := by
  obtain ⟨xs, k, _, _, hl, hx, hf⟩ := DataW.trod_struct Try.underlying31 h
  have hx5 : xs.length = 5 := hx
  rw [c31] at hl
  have f0 : DataW.trod enc Try.prog w base spare held k 3 ((c.drop 0).take (Try.prog.cellsOf 3)) = xs[0]? := hf 0 _ rfl
  rw [List.getElem?_eq_getElem (show 0 < xs.length by omega), c3] at f0
  have f1 : DataW.trod enc Try.prog w base spare held k 28 ((c.drop 1).take (Try.prog.cellsOf 28)) = xs[1]? := hf 1 _ rfl
  rw [List.getElem?_eq_getElem (show 1 < xs.length by omega), c28] at f1
  have f2 : DataW.trod enc Try.prog w base spare held k 29 ((c.drop 2).take (Try.prog.cellsOf 29)) = xs[2]? := hf 2 _ rfl
  rw [List.getElem?_eq_getElem (show 2 < xs.length by omega), c29] at f2
  have f3 : DataW.trod enc Try.prog w base spare held k 26 ((c.drop 34).take (Try.prog.cellsOf 26)) = xs[3]? := hf 3 _ rfl
  rw [List.getElem?_eq_getElem (show 3 < xs.length by omega), c26] at f3
  have f4 : DataW.trod enc Try.prog w base spare held k 3 ((c.drop 35).take (Try.prog.cellsOf 3)) = xs[4]? := hf 4 _ rfl
  rw [List.getElem?_eq_getElem (show 4 < xs.length by omega), c3] at f4
  obtain ⟨kd, e0, _, _⟩ := DataW.trod_int Try.underlying3 f0
  obtain ⟨nn, e1⟩ := open_u64 Try.underlying28 _ _ _ f1
  obtain ⟨d, e2, hd⟩ := open_byteArr Try.underlying29 Try.underlying5 c5 c29 f2
  obtain ⟨pv, p, e3, hone, _, hp⟩ := open_bytes Try.underlying26 Try.underlying5 c5 f3
  obtain ⟨mo, e4, _, _⟩ := DataW.trod_int Try.underlying3 f4
  refine ⟨⟨kd, nn, d, pv, p, mo⟩, ?_, ⟨hd, Rd.old hp, hone⟩⟩
  have hsplit : c = (c.drop 0).take 1 ++ ((c.drop 1).take 1 ++ ((c.drop 2).take 32 ++ ((c.drop 34).take 1 ++ (c.drop 35).take 1))) := by
    have h35 : (c.drop 35).take 1 = c.drop 35 := List.take_of_length_le (by simp [hl])
    rw [h35, show c.drop 35 = (c.drop 34).drop 1 by rw [List.drop_drop], List.take_append_drop, show c.drop 34 = (c.drop 2).drop 32 by rw [List.drop_drop], List.take_append_drop,
      show c.drop 2 = (c.drop 1).drop 1 by rw [List.drop_drop], List.take_append_drop, List.drop_zero, List.take_append_drop]
  rw [hsplit, e0, e1, e2, e3, e4]
  rfl
end
theorem own_ : ownKnob Try.prog.godebug = none := by kernel_rfl
theorem laid_ : laidOutB Try.prog = true := by kernel_rfl
set_option maxRecDepth 100000 in
theorem octetLays_lifted (os : Os) (started : os.Started) (H : Type) (enc : TypeId × Value → H) :
    ReturnsInHanded {} Try.checked os 3 .any (Rows.octetLaysSpec.pre6 enc Try.prog Try.f3 Rows.octetLaysRow.domain false) (Rows.octetLaysSpec.post enc Try.prog Try.f3 false true false false) := by
  refine returnsInHanded_of_change_sized (C := Try.checked) own_ started (by kernel_rfl) Try.func3
    (ChangeSpec.witness6 (enc := enc) (C := Try.checked) false ⟨#[], #[.slice none 0 0, .slice none 0 0], []⟩ 8 (by kernel_rfl) (by kernel_rfl) (by kernel_rfl) (by kernel_rfl)) ?_
  intro W base args ds gs before hval hW _ hsz _
  have hW' := hW
  obtain ⟨p, q, hA, hV, rfl, _, _⟩ := hW
  obtain ⟨rfl, rfl⟩ := trodVars_none hV
  rw [Try.params3] at hA hsz
  obtain ⟨v0, vs0, d0, ds0, p0, q0, hargs, rfl, rfl, ⟨n0, h0⟩, r0⟩ := trodAll_cons hA
  obtain ⟨v1, vs1, d1, ds1, p1, q1, rfl, rfl, rfl, ⟨n1, h1⟩, r1⟩ := trodAll_cons r0
  obtain ⟨rfl, rfl, rfl⟩ := trodAll_nil r1
  obtain rfl : args = #[v0, v1] := by cases args; simp_all
  obtain ⟨u0, l, e0, _, hl0, hr0, hok⟩ := open_as Thing.cells (fun x => x.Ok W []) Try.underlying22 (fun n c z hc hz => open_thing n c z hc hz) h0
  obtain ⟨u1, ns, e1, _, hl1, hr1⟩ := open_u64s Try.underlying23 Try.underlying28 c28 h1
  obtain rfl := open_cell Try.underlying22 (hval 0 22 v0 (by rw [Try.params3]; rfl) rfl) e0
  obtain rfl := open_cell Try.underlying23 (hval 1 23 v1 (by rw [Try.params3]; rfl) rfl) e1
  have hb0 : count d0 * Try.prog.bytesOf 31 ≤ reachBytes := sized_count hsz (j := 0) rfl rfl Try.underlying22
  have hb1 : count d1 * Try.prog.bytesOf 28 ≤ reachBytes := sized_count hsz (j := 1) rfl rfl Try.underlying23
  rw [show count d0 = l.length from hl0.symm, show Try.prog.bytesOf 31 = 80 by kernel_rfl] at hb0
  rw [show count d1 = ns.length from hl1.symm, show Try.prog.bytesOf 28 = 8 by kernel_rfl] at hb1
  rw [c31] at hr0
  unfold reachBytes at hb0 hb1
  refine (OctetLays_any W v0 v1 l ns ⟨Rd.old hr0, hok⟩ hr1 (by omega) (by omega)).mono fun e W' ⟨v, he, hv, hbl⟩ => ?_
  subst he; subst hv
  exact ⟨_, rfl, law_post laid_ (by kernel_rfl) rfl Try.underlying4 rfl hW' rfl hbl⟩
theorem octetLays_over : Rows.octetLaysRow.holds Try.pinned (OpenSpec.ofChange Rows.octetLaysSpec) :=
  OpenClaim.holds_of_wide 3 Try.f3 rfl rfl rfl rfl rfl rfl rfl ⟨rfl, rfl, rfl, rfl, rfl⟩ rfl rfl rfl rfl rfl (by kernel_rfl) Try.func3 (by kernel_rfl)
    (of_decide_eq_true (by kernel_rfl)) (by unfold Func.isWrapper; first | (rw [if_pos (by decide +kernel)]; kernel_rfl) | (rw [if_neg (by decide +kernel)]; exact ⟨rfl, rfl⟩))
    (fun os started H enc _ => octetLays_lifted os started H enc)
end Go.Proofs.Toll
namespace Go.Proofs.YthcejmfaiekbeaaRR
theorem octetLays_proved : Rows.OctetLaysSaid := Go.Proofs.Toll.octetLays_over
end Go.Proofs.YthcejmfaiekbeaaRR
