/- An item's cells, as the form reads them, are a thing's. -/
import Derived.Test.YthcejmfaiekbeaaRRRow
import Derived.Test.YthcejmfaiekbeaaRRFacts
set_option linter.unusedVariables false
set_option linter.unusedSimpArgs false
namespace Go.Proofs.Toll
open Go Go.Toll Go.RowKit Go.ChangeShapes Go.WideShapes
section
variable {H : Type} {enc : TypeId × Value → H} {w : World} {base : Nat} {spare : Nat → Bool} {held : Bool}
theorem B_take (l : List UInt8) (k : Nat) : (B l).take k = B (l.take k) := by simp [B]
private theorem c3 : Try.prog.cellsOf 3 = 1 := by kernel_rfl
private theorem c5 : Try.prog.cellsOf 5 = 1 := by kernel_rfl
private theorem c26 : Try.prog.cellsOf 26 = 1 := by kernel_rfl
private theorem c28 : Try.prog.cellsOf 28 = 1 := by kernel_rfl
private theorem c29 : Try.prog.cellsOf 29 = 32 := by kernel_rfl
private theorem c31 : Try.prog.cellsOf 31 = 36 := by kernel_rfl
/-- An item's cells are a thing's. -/
theorem open_thing (n : Nat) (c : List Value) (z : DataW H × List MemPlace) (hc : c.length = Try.prog.cellsOf 31) (h : DataW.trod enc Try.prog w base spare held n 31 c = some z) : ∃ x : Thing, c = x.cells ∧ x.Ok w [] := by
  obtain ⟨xs, k, _, _, hl, hx, hf⟩ := DataW.trod_struct Try.underlying31 h
  have hx5 : xs.length = 5 := hx
  rw [c31] at hl
  have f0 : DataW.trod enc Try.prog w base spare held k 3 ((c.drop 0).take (Try.prog.cellsOf 3)) = xs[0]? := hf 0 _ rfl
  rw [List.getElem?_eq_getElem (show 0 < xs.length by omega), c3] at f0
  have f1 : DataW.trod enc Try.prog w base spare held k 28 ((c.drop 1).take (Try.prog.cellsOf 28)) = xs[1]? := hf 1 _ rfl
  rw [List.getElem?_eq_getElem (show 1 < xs.length by omega), c28] at f1
  have f2 : DataW.trod enc Try.prog w base spare held k 29 ((c.drop 2).take (Try.prog.cellsOf 29)) = xs[2]? := hf 2 _ rfl
  rw [List.getElem?_eq_getElem (show 2 < xs.length by omega), c29] at f2
  have f3 : DataW.trod enc Try.prog w base spare held k 26 ((c.drop 34).take (Try.prog.cellsOf 26)) = xs[3]? := hf 3 _ rfl
  rw [List.getElem?_eq_getElem (show 3 < xs.length by omega), c26] at f3
  have f4 : DataW.trod enc Try.prog w base spare held k 3 ((c.drop 35).take (Try.prog.cellsOf 3)) = xs[4]? := hf 4 _ rfl
  rw [List.getElem?_eq_getElem (show 4 < xs.length by omega), c3] at f4
  obtain ⟨kd, e0, _, _⟩ := DataW.trod_int Try.underlying3 f0
  obtain ⟨nn, e1⟩ := open_u64 Try.underlying28 _ _ _ f1
  obtain ⟨d, e2, hd⟩ := open_byteArr Try.underlying29 Try.underlying5 c5 c29 f2
  obtain ⟨pv, p, e3, hone, _, hp⟩ := open_bytes Try.underlying26 Try.underlying5 c5 f3
  obtain ⟨mo, e4, _, _⟩ := DataW.trod_int Try.underlying3 f4
  refine ⟨⟨kd, nn, d, pv, p, mo⟩, ?_, ⟨hd, Rd.old hp, hone⟩⟩
  have hsplit : c = (c.drop 0).take 1 ++ ((c.drop 1).take 1 ++ ((c.drop 2).take 32 ++ ((c.drop 34).take 1 ++ (c.drop 35).take 1))) := by
    have h35 : (c.drop 35).take 1 = c.drop 35 := List.take_of_length_le (by simp [hl])
    rw [h35, show c.drop 35 = (c.drop 34).drop 1 by rw [List.drop_drop], List.take_append_drop, show c.drop 34 = (c.drop 2).drop 32 by rw [List.drop_drop], List.take_append_drop,
      show c.drop 2 = (c.drop 1).drop 1 by rw [List.drop_drop], List.take_append_drop, List.drop_zero, List.take_append_drop]
  rw [hsplit, e0, e1, e2, e3, e4]
  rfl
end
end Go.Proofs.Toll
