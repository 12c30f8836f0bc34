/- The given statement OctetNilSaid is proved: for every int the law returns true, and it reads afterwards as it read before. -/
import Derived.Test.YthcejmfaiekbeaaRROctin
import Derived.Test.YthcejmfaiekbeaaRRRow
import Derived.Test.YthcejmfaiekbeaaRRRows
set_option linter.unusedVariables false
set_option linter.unusedSimpArgs false
namespace Go.Proofs.YthcejmfaiekbeaaRR.octetNil
open Go Go.Toll Go.Proofs.Toll Go.RowKit Go.ChangeShapes Go.WideShapes
theorem own_ : ownKnob Try.prog.godebug = none := by kernel_rfl
theorem laid_ : laidOutB Try.prog = true := by kernel_rfl
set_option maxRecDepth 100000 in
theorem lifted (os : Os) (started : os.Started) (H : Type) (enc : TypeId × Value → H) :
    ReturnsInHanded {} Try.checked os 6 .any (Rows.octetNilSpec.pre6 enc Try.prog Try.f6 Rows.octetNilRow.domain false) (Rows.octetNilSpec.post enc Try.prog Try.f6 false true false false) := by
  refine returnsInHanded_of_change_sized (C := Try.checked) own_ started (by kernel_rfl) Try.func6
    (ChangeSpec.witness6 (enc := enc) (C := Try.checked) false ⟨#[], #[.int .i64 0], []⟩ 8 (by kernel_rfl) (by kernel_rfl) (by kernel_rfl) (by kernel_rfl)) ?_
  intro W base args ds gs before hval hW _ hsz _
  have hW' := hW
  obtain ⟨p, q, hA, hV, rfl, _, _⟩ := hW
  obtain ⟨rfl, rfl⟩ := trodVars_none hV
  rw [Try.params6] at hA hsz
  obtain ⟨v0, vs0, d0, ds0, p0, q0, hargs, rfl, rfl, ⟨n0, h0⟩, r0⟩ := trodAll_cons hA
  obtain ⟨rfl, rfl, rfl⟩ := trodAll_nil r0
  obtain rfl : args = #[v0] := by cases args; simp_all
  obtain ⟨k0, e0, _, hw0⟩ := DataW.trod_int Try.underlying3 h0
  obtain rfl := open_celli Try.underlying3 (hval 0 3 v0 (by rw [Try.params6]; rfl) rfl) e0
  skip
  refine (OctetNil_any W k0).mono fun e W' ⟨v, he, hv, hbl⟩ => ?_
  subst he; subst hv
  exact ⟨_, rfl, law_post laid_ (by kernel_rfl) rfl Try.underlying4 rfl hW' rfl hbl⟩
theorem over : Rows.octetNilRow.holds Try.pinned (OpenSpec.ofChange Rows.octetNilSpec) :=
  OpenClaim.holds_of_wide 6 Try.f6 rfl rfl rfl rfl rfl rfl rfl ⟨rfl, rfl, rfl, rfl, rfl⟩ rfl rfl rfl rfl rfl (by kernel_rfl) Try.func6 (by kernel_rfl)
    (of_decide_eq_true (by kernel_rfl)) (by unfold Func.isWrapper; first | (rw [if_pos (by decide +kernel)]; kernel_rfl) | (rw [if_neg (by decide +kernel)]; exact ⟨rfl, rfl⟩))
    (fun os started H enc _ => lifted os started H enc)
/-- The given statement. -/
theorem proved : Rows.OctetNilSaid := over
end Go.Proofs.YthcejmfaiekbeaaRR.octetNil
