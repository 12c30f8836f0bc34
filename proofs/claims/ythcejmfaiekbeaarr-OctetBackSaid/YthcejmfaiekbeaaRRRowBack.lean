/- The given statement OctetBackSaid is proved: for every slice of items the law returns true, and it reads afterwards as it read before. -/
import Derived.Test.YthcejmfaiekbeaaRRLaw01d
import Derived.Test.YthcejmfaiekbeaaRRRowThing
import Derived.Test.YthcejmfaiekbeaaRRRow
import Derived.Test.YthcejmfaiekbeaaRRRows
set_option linter.unusedVariables false
set_option linter.unusedSimpArgs false
namespace Go.Proofs.YthcejmfaiekbeaaRR.octetBack
open Go Go.Toll Go.Proofs.Toll Go.RowKit Go.ChangeShapes Go.WideShapes
theorem c31 : Try.prog.cellsOf 31 = 36 := by kernel_rfl
theorem own_ : ownKnob Try.prog.godebug = none := by kernel_rfl
theorem laid_ : laidOutB Try.prog = true := by kernel_rfl
set_option maxRecDepth 100000 in
theorem lifted (os : Os) (started : os.Started) (H : Type) (enc : TypeId × Value → H) :
    ReturnsInHanded {} Try.checked os 8 .any (Rows.octetBackSpec.pre6 enc Try.prog Try.f8 Rows.octetBackRow.domain false) (Rows.octetBackSpec.post enc Try.prog Try.f8 false true false false) := by
  refine returnsInHanded_of_change_sized (C := Try.checked) own_ started (by kernel_rfl) Try.func8
    (ChangeSpec.witness6 (enc := enc) (C := Try.checked) false ⟨#[], #[.slice none 0 0], []⟩ 8 (by kernel_rfl) (by kernel_rfl) (by kernel_rfl) (by kernel_rfl)) ?_
  intro W base args ds gs before hval hW _ hsz _
  have hW' := hW
  obtain ⟨p, q, hA, hV, rfl, _, _⟩ := hW
  obtain ⟨rfl, rfl⟩ := trodVars_none hV
  rw [Try.params8] at hA hsz
  obtain ⟨v0, vs0, d0, ds0, p0, q0, hargs, rfl, rfl, ⟨n0, h0⟩, r0⟩ := trodAll_cons hA
  obtain ⟨rfl, rfl, rfl⟩ := trodAll_nil r0
  obtain rfl : args = #[v0] := by cases args; simp_all
  obtain ⟨u0, l0, e0, _, hl0, hr0, hok0⟩ := open_as Thing.cells (fun x => x.Ok W []) Try.underlying22 (fun n c z hc hz => open_thing n c z hc hz) h0
  rw [c31] at hr0
  obtain rfl := open_cell Try.underlying22 (hval 0 22 v0 (by rw [Try.params8]; rfl) rfl) e0
  have hb0 : count d0 * Try.prog.bytesOf 31 ≤ reachBytes := sized_count hsz (j := 0) rfl rfl Try.underlying22
  rw [show Try.prog.bytesOf 31 = 80 by kernel_rfl] at hb0
  unfold reachBytes at hb0
  have hc0 : count d0 = count (d0, p0).1 := rfl
  skip
  refine (OctetBack_any W v0 l0 ⟨Rd.old hr0, hok0⟩ (by omega)).mono fun e W' ⟨v, he, hv, hbl⟩ => ?_
  subst he; subst hv
  exact ⟨_, rfl, law_post laid_ (by kernel_rfl) rfl Try.underlying4 rfl hW' rfl hbl⟩
theorem over : Rows.octetBackRow.holds Try.pinned (OpenSpec.ofChange Rows.octetBackSpec) :=
  OpenClaim.holds_of_wide 8 Try.f8 rfl rfl rfl rfl rfl rfl rfl ⟨rfl, rfl, rfl, rfl, rfl⟩ rfl rfl rfl rfl rfl (by kernel_rfl) Try.func8 (by kernel_rfl)
    (of_decide_eq_true (by kernel_rfl)) (by unfold Func.isWrapper; first | (rw [if_pos (by decide +kernel)]; kernel_rfl) | (rw [if_neg (by decide +kernel)]; exact ⟨rfl, rfl⟩))
    (fun os started H enc _ => lifted os started H enc)
/-- The given statement. -/
theorem proved : Rows.OctetBackSaid := over
end Go.Proofs.YthcejmfaiekbeaaRR.octetBack
