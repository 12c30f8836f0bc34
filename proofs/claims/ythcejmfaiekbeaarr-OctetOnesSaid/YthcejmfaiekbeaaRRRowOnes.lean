/- The given statement OctetOnesSaid is proved: for every four slices of bytes, uint32, uint64 and digests the law returns true, and each reads afterwards as it read before. -/
import Derived.Test.YthcejmfaiekbeaaRRLaw01c
import Derived.Test.YthcejmfaiekbeaaRRRow
import Derived.Test.YthcejmfaiekbeaaRRRows
set_option linter.unusedVariables false
set_option linter.unusedSimpArgs false
namespace Go.Proofs.YthcejmfaiekbeaaRR.octetOnes
open Go Go.Toll Go.Proofs.Toll Go.RowKit Go.ChangeShapes Go.WideShapes
theorem c5 : Try.prog.cellsOf 5 = 1 := by kernel_rfl
theorem c28 : Try.prog.cellsOf 28 = 1 := by kernel_rfl
theorem c29 : Try.prog.cellsOf 29 = 32 := by kernel_rfl
theorem c40 : Try.prog.cellsOf 40 = 1 := by kernel_rfl
theorem own_ : ownKnob Try.prog.godebug = none := by kernel_rfl
theorem laid_ : laidOutB Try.prog = true := by kernel_rfl
set_option maxRecDepth 100000 in
theorem lifted (os : Os) (started : os.Started) (H : Type) (enc : TypeId × Value → H) :
    ReturnsInHanded {} Try.checked os 4 .any (Rows.octetOnesSpec.pre6 enc Try.prog Try.f4 Rows.octetOnesRow.domain false) (Rows.octetOnesSpec.post enc Try.prog Try.f4 false true false false) := by
  refine returnsInHanded_of_change_sized (C := Try.checked) own_ started (by kernel_rfl) Try.func4
    (ChangeSpec.witness6 (enc := enc) (C := Try.checked) false ⟨#[], #[.slice none 0 0, .slice none 0 0, .slice none 0 0, .slice none 0 0], []⟩ 8 (by kernel_rfl) (by kernel_rfl) (by kernel_rfl) (by kernel_rfl)) ?_
  intro W base args ds gs before hval hW _ hsz _
  have hW' := hW
  obtain ⟨p, q, hA, hV, rfl, _, _⟩ := hW
  obtain ⟨rfl, rfl⟩ := trodVars_none hV
  rw [Try.params4] at hA hsz
  obtain ⟨v0, vs0, d0, ds0, p0, q0, hargs, rfl, rfl, ⟨n0, h0⟩, r0⟩ := trodAll_cons hA
  obtain ⟨v1, vs1, d1, ds1, p1, q1, rfl, rfl, rfl, ⟨n1, h1⟩, r1⟩ := trodAll_cons r0
  obtain ⟨v2, vs2, d2, ds2, p2, q2, rfl, rfl, rfl, ⟨n2, h2⟩, r2⟩ := trodAll_cons r1
  obtain ⟨v3, vs3, d3, ds3, p3, q3, rfl, rfl, rfl, ⟨n3, h3⟩, r3⟩ := trodAll_cons r2
  obtain ⟨rfl, rfl, rfl⟩ := trodAll_nil r3
  obtain rfl : args = #[v0, v1, v2, v3] := by cases args; simp_all
  obtain ⟨u0, b0, e0, _, hl0, hr0⟩ := open_bytes Try.underlying26 Try.underlying5 c5 h0
  obtain rfl := open_cell Try.underlying26 (hval 0 26 v0 (by rw [Try.params4]; rfl) rfl) e0
  have hb0 : count d0 * Try.prog.bytesOf 5 ≤ reachBytes := sized_count hsz (j := 0) rfl rfl Try.underlying26
  rw [show Try.prog.bytesOf 5 = 1 by kernel_rfl] at hb0
  unfold reachBytes at hb0
  have hc0 : count d0 = count (d0, p0).1 := rfl
  obtain ⟨u1, b1, e1, _, hl1, hr1⟩ := open_u32s Try.underlying36 Try.underlying40 c40 h1
  obtain rfl := open_cell Try.underlying36 (hval 1 36 v1 (by rw [Try.params4]; rfl) rfl) e1
  have hb1 : count d1 * Try.prog.bytesOf 40 ≤ reachBytes := sized_count hsz (j := 1) rfl rfl Try.underlying36
  rw [show Try.prog.bytesOf 40 = 4 by kernel_rfl] at hb1
  unfold reachBytes at hb1
  have hc1 : count d1 = count (d1, p1).1 := rfl
  obtain ⟨u2, b2, e2, _, hl2, hr2⟩ := open_u64s Try.underlying23 Try.underlying28 c28 h2
  obtain rfl := open_cell Try.underlying23 (hval 2 23 v2 (by rw [Try.params4]; rfl) rfl) e2
  have hb2 : count d2 * Try.prog.bytesOf 28 ≤ reachBytes := sized_count hsz (j := 2) rfl rfl Try.underlying23
  rw [show Try.prog.bytesOf 28 = 8 by kernel_rfl] at hb2
  unfold reachBytes at hb2
  have hc2 : count d2 = count (d2, p2).1 := rfl
  obtain ⟨u3, b3, e3, _, hl3, hr3⟩ := open_arrs Try.underlying37 Try.underlying29 Try.underlying5 c5 c29 h3
  obtain rfl := open_cell Try.underlying37 (hval 3 37 v3 (by rw [Try.params4]; rfl) rfl) e3
  have hb3 : count d3 * Try.prog.bytesOf 29 ≤ reachBytes := sized_count hsz (j := 3) rfl rfl Try.underlying37
  rw [show Try.prog.bytesOf 29 = 32 by kernel_rfl] at hb3
  unfold reachBytes at hb3
  have hc3 : count d3 = count (d3, p3).1 := rfl
  skip
  refine (OctetOnes_any W v0 v1 v2 v3 b0 b1 b2 b3 (count d3) hl3 hr0 hr1 hr2 hr3 (by omega) (by omega) (by omega) (by omega)).mono fun e W' ⟨v, he, hv, hbl⟩ => ?_
  subst he; subst hv
  exact ⟨_, rfl, law_post laid_ (by kernel_rfl) rfl Try.underlying4 rfl hW' rfl hbl⟩
theorem over : Rows.octetOnesRow.holds Try.pinned (OpenSpec.ofChange Rows.octetOnesSpec) :=
  OpenClaim.holds_of_wide 4 Try.f4 rfl rfl rfl rfl rfl rfl rfl ⟨rfl, rfl, rfl, rfl, rfl⟩ rfl rfl rfl rfl rfl (by kernel_rfl) Try.func4 (by kernel_rfl)
    (of_decide_eq_true (by kernel_rfl)) (by unfold Func.isWrapper; first | (rw [if_pos (by decide +kernel)]; kernel_rfl) | (rw [if_neg (by decide +kernel)]; exact ⟨rfl, rfl⟩))
    (fun os started H enc _ => lifted os started H enc)
/-- The given statement. -/
theorem proved : Rows.OctetOnesSaid := over
end Go.Proofs.YthcejmfaiekbeaaRR.octetOnes
