/- The things that the statements of layer 1 lay and take. Plain lemmas; no program in sight. -/
import Derived.Test.YthcejmfaiekbeaaRRBytes
import Derived.Test.YthcejmfaiekbeaaRROps4
set_option linter.unusedVariables false
set_option linter.unusedSimpArgs false
namespace Go.Toll
open Go.RowKit
structure Thing where
  kind : Int
  num : UInt64
  d : List UInt8
  pv : Value
  p : List UInt8
  most : Int
def Thing.cells (x : Thing) : List Value := [.int .i64 x.kind, .int .u64 (x.num.toNat : Int)] ++ (B x.d ++ [x.pv, .int .i64 x.most])
structure Thing.Ok (w0 : World) (Γ : List HP) (x : Thing) : Prop where
  hd : x.d.length = 32
  hp : Rd w0 Γ 1 x.pv (B x.p)
  hone : x.pv.oneCell' = true
theorem Thing.Ok.cons {w0 : World} {Γ : List HP} {x : Thing} (h : x.Ok w0 Γ) (Q : HP) : x.Ok w0 (Q :: Γ) := ⟨h.hd, h.hp.cons Q, h.hone⟩
theorem Thing.cells_length {x : Thing} (h : x.d.length = 32) : x.cells.length = 36 := by simp [Thing.cells, h]
theorem Thing.cell34 {x : Thing} (h : x.d.length = 32) : x.cells[34]? = some x.pv := by
  unfold Thing.cells
  rw [List.getElem?_append_right (by simp), List.getElem?_append_right (by simp [h])]
  simp [h]
theorem Thing.cells_one {w0 : World} {Γ : List HP} {x : Thing} (h : x.Ok w0 Γ) : ∀ u ∈ x.cells, u.oneCell' = true := by
  intro u hu
  simp only [Thing.cells, List.mem_append, List.mem_cons, List.not_mem_nil, or_false] at hu
  rcases hu with (rfl | rfl) | hu | rfl | rfl
  · rfl
  · rfl
  · exact B_one _ u hu
  · exact h.hone
  · rfl
/-- What is laid of a thing. -/
def Thing.lay (x : Thing) : List UInt8 :=
  if x.kind = 0 then be x.num.toNat 1 else if x.kind = 1 then be x.num.toNat 4 else if x.kind = 2 then be x.num.toNat 8 else if x.kind = 3 then x.d else if x.kind = 4 then be x.p.length 4 ++ x.p else []
def RdItems (w0 : World) (Γ : List HP) (v : Value) (l : List Thing) : Prop := Rd w0 Γ 36 v (l.flatMap Thing.cells) ∧ ∀ x ∈ l, x.Ok w0 Γ
theorem RdItems.cons {w0 : World} {Γ : List HP} {v : Value} {l : List Thing} (h : RdItems w0 Γ v l) (Q : HP) : RdItems w0 (Q :: Γ) v l := ⟨h.1.cons Q, fun x hx => (h.2 x hx).cons Q⟩
theorem flatMap_length_eq {α β : Type} (f : α → List β) (k : Nat) : ∀ (l : List α), (∀ x ∈ l, (f x).length = k) → (l.flatMap f).length = l.length * k
  | [], _ => by simp
  | x :: l, h => by
    rw [List.flatMap_cons, List.length_append, flatMap_length_eq f k l fun y hy => h y (List.mem_cons_of_mem _ hy), h x List.mem_cons_self, List.length_cons, Nat.succ_mul]
    omega
theorem flatMap_chunk {α β : Type} (f : α → List β) (k : Nat) : ∀ (l : List α), (∀ x ∈ l, (f x).length = k) → ∀ (i : Nat) (hi : i < l.length), ((l.flatMap f).drop (i * k)).take k = f l[i]
  | [], _, i, hi => by simp at hi
  | x :: l, h, 0, hi => by
    rw [List.flatMap_cons, Nat.zero_mul, List.drop_zero, List.take_left' (h x List.mem_cons_self)]; rfl
  | x :: l, h, i + 1, hi => by
    have hx := h x List.mem_cons_self
    rw [List.flatMap_cons, show (i + 1) * k = (f x).length + i * k by rw [hx, Nat.succ_mul]; omega, ← List.drop_drop, List.drop_left]
    exact flatMap_chunk f k l (fun y hy => h y (List.mem_cons_of_mem _ hy)) i (by simpa using hi)
theorem RdItems.chunk {w0 : World} {Γ : List HP} {v : Value} {l : List Thing} (h : RdItems w0 Γ v l) (i : Nat) (hi : i < l.length) : ((l.flatMap Thing.cells).drop ((i : Int).toNat * 36)).take 36 = l[i].cells := by
  rw [Int.toNat_natCast]
  exact flatMap_chunk _ 36 l (fun x hx => Thing.cells_length (h.2 x hx).hd) i hi
theorem RdItems.length {w0 : World} {Γ : List HP} {v : Value} {l : List Thing} (h : RdItems w0 Γ v l) : (l.flatMap Thing.cells).length = l.length * 36 := flatMap_length_eq _ 36 l fun x hx => Thing.cells_length (h.2 x hx).hd
def fitsB (l : List Thing) : Bool := l.all (fun x => decide (x.p.length ≤ 4096)) && decide (l.length ≤ 40)
/-- What is laid of things, one behind the other. -/
def lays (l : List Thing) : List UInt8 := l.flatMap Thing.lay
theorem Thing.lay_le {x : Thing} (hd : x.d.length = 32) (hp : x.p.length ≤ 4096) : x.lay.length ≤ 4100 := by
  unfold Thing.lay
  repeat' split
  all_goals simp [be_length, hd]
  omega
theorem lays_le : ∀ {l : List Thing}, (∀ x ∈ l, x.d.length = 32) → (∀ x ∈ l, x.p.length ≤ 4096) → (lays l).length ≤ 4100 * l.length
  | [], _, _ => by simp [lays]
  | x :: l, hd, hp => by
    have h1 := Thing.lay_le (hd x List.mem_cons_self) (hp x List.mem_cons_self)
    have h2 := lays_le (l := l) (fun y hy => hd y (List.mem_cons_of_mem _ hy)) (fun y hy => hp y (List.mem_cons_of_mem _ hy))
    show (x.lay ++ lays l).length ≤ _
    rw [List.length_append, List.length_cons]
    omega
theorem lays_take (l : List Thing) (k : Nat) (h : k < l.length) : lays (l.take (k + 1)) = lays (l.take k) ++ l[k].lay := flatMap_take _ l k h
theorem lays_drop (l : List Thing) (k : Nat) (h : k < l.length) : lays (l.drop k) = l[k].lay ++ lays (l.drop (k + 1)) := by
  unfold lays
  rw [List.drop_eq_getElem_cons h, List.flatMap_cons]
theorem be_small (m k : Nat) (hk : k ≤ 4) : be (UInt32.ofNat m).toNat k = be m k := by rw [UInt32.toNat_ofNat']; exact be_mod m k hk
theorem fours_one (x : UInt32) : fours [x] = be x.toNat 4 := by simp [fours]
theorem eights_one (x : UInt64) : eights [x] = be x.toNat 8 := by simp [eights]
theorem be_one (m : Nat) : be m 1 = [UInt8.ofNat m] := by simp [be]
end Go.Toll
