/- A small separation logic over the model's heap: pieces of the heap from block B on that a call owns, told one beside the other; what is not told stays. Plain lemmas; no program in sight. -/
import Derived.WalkKit
import Derived.WalkLawsBesides
import Derived.WalkSpells
import Derived.Deep.MidRow
namespace Go.Toll
open Go.RowKit

theorem hid {p : Prop} (h : p) : Hid p := h

/-! ### Pieces of a heap -/
abbrev Hp := Nat → Option Obj
abbrev HP := Hp → Prop

/-- The heap from block B on. -/
def hpOf (B : Nat) (w : World) : Hp := fun k => if B ≤ k then w.heap[k]? else none

/-- All these, each of a piece of its own; the rest is whatever. -/
def seps : List HP → HP
  | [] => fun _ => True
  | P :: Γ => fun h => ∃ h1 h2 : Hp, (∀ k, h1 k = none ∨ h2 k = none) ∧ (∀ k, h k = (h1 k).or (h2 k)) ∧ P h1 ∧ seps Γ h2

theorem seps_up : ∀ {Γ : List HP} {h h' : Hp}, (∀ k, h k = none ∨ h k = h' k) → seps Γ h → seps Γ h'
  | [], _, _, _, _ => trivial
  | P :: Γ, h, h', hs, ⟨h1, h2, hd, hj, hP, hΓ⟩ => by
    refine ⟨h1, fun k => if h1 k = none then h' k else none, fun k => ?_, fun k => ?_, hP, seps_up (fun k => ?_) hΓ⟩
    · by_cases e : h1 k = none
      · exact .inl e
      · right; simp [e]
    · by_cases e : h1 k = none
      · simp [e]
      · have h3 := hj k
        rcases hs k with h4 | h4
        · rw [h4] at h3
          cases hk : h1 k with
          | none => exact absurd hk e
          | some o => rw [hk] at h3; simp at h3
        · rw [← h4, h3, (hd k).resolve_left e]; simp [e]
    · rcases hd k with e | e
      · have h3 := hj k
        rw [e] at h3
        simp only [Option.none_or] at h3
        simp only [e, if_true]
        rcases hs k with h4 | h4
        · left; rw [← h3, h4]
        · right; rw [← h3, h4]
      · exact .inl e

theorem seps_swap {P Q : HP} {Γ : List HP} {h : Hp} (H : seps (P :: Q :: Γ) h) : seps (Q :: P :: Γ) h := by
  obtain ⟨h1, h2, hd, hj, hP, h3, h4, hd', hj', hQ, hΓ⟩ := H
  refine ⟨h3, fun k => (h1 k).or (h4 k), fun k => ?_, fun k => ?_, hQ, h1, h4, fun k => ?_, fun _ => rfl, hP, hΓ⟩
  · have a := hd k; have b := hd' k; have c := hj' k
    rcases a with a | a
    · rcases b with b | b
      · exact .inl b
      · right; simp [a, b]
    · rw [a] at c
      cases h3k : h3 k with
      | none => exact .inl rfl
      | some o => rw [h3k] at c; simp at c
  · have a := hd k; have b := hd' k
    rw [hj k, hj' k]
    rcases a with a | a
    · simp [a]
    · have c := hj' k
      rw [a] at c
      cases h3k : h3 k with
      | none => simp
      | some o => rw [h3k] at c; simp at c
  · have a := hd k; have c := hj' k
    rcases a with a | a
    · exact .inl a
    · rw [a] at c
      cases h4k : h4 k with
      | none => exact .inr rfl
      | some o =>
        cases h3k : h3 k with
        | none => rw [h3k, h4k] at c; simp at c
        | some p => rw [h3k] at c; simp at c

theorem seps_cons_mono {P : HP} {Γ Δ : List HP} (f : ∀ h, seps Γ h → seps Δ h) {h : Hp} (H : seps (P :: Γ) h) : seps (P :: Δ) h := by
  obtain ⟨h1, h2, hd, hj, hP, hΓ⟩ := H
  exact ⟨h1, h2, hd, hj, hP, f _ hΓ⟩

theorem seps_perm {Γ Δ : List HP} (p : Γ.Perm Δ) : ∀ {h : Hp}, seps Γ h → seps Δ h := by
  induction p with
  | nil => exact fun h => h
  | cons x _ ih => exact fun H => seps_cons_mono (fun _ => ih) H
  | swap x y l => exact fun H => seps_swap H
  | trans _ _ ih1 ih2 => exact fun H => ih2 (ih1 H)

theorem seps_tail {P : HP} {Γ : List HP} {h : Hp} (H : seps (P :: Γ) h) : seps Γ h := by
  obtain ⟨h1, h2, hd, hj, _, hΓ⟩ := H
  refine seps_up (fun k => ?_) hΓ
  rw [hj k]
  rcases hd k with e | e
  · right; simp [e]
  · exact .inl e

theorem seps_head {P Q : HP} {Γ : List HP} (f : ∀ h, P h → Q h) {h : Hp} (H : seps (P :: Γ) h) : seps (Q :: Γ) h := by
  obtain ⟨h1, h2, hd, hj, hP, hΓ⟩ := H
  exact ⟨h1, h2, hd, hj, f _ hP, hΓ⟩

/-! ### What is known of a world -/
/-- Below w0's end the world is as w0 was; from there on it holds these pieces. -/
structure Sat (w0 : World) (Γ : List HP) (w : World) : Prop where
  below : Below w0.heap.size w0 w
  seps : seps Γ (hpOf w0.heap.size w)

theorem Sat.start (w0 : World) : Sat w0 [] w0 := ⟨Below.refl _ _, trivial⟩
theorem Sat.perm {w0 w : World} {Γ Δ : List HP} (p : Γ.Perm Δ) (h : Sat w0 Γ w) : Sat w0 Δ w := ⟨h.below, seps_perm p h.seps⟩
theorem Sat.tail {w0 w : World} {P : HP} {Γ : List HP} (h : Sat w0 (P :: Γ) w) : Sat w0 Γ w := ⟨h.below, seps_tail h.seps⟩
theorem Sat.head {w0 w : World} {P Q : HP} {Γ : List HP} (h : Sat w0 (P :: Γ) w) (f : ∀ h, P h → Q h) : Sat w0 (Q :: Γ) w := ⟨h.below, seps_head f h.seps⟩
section
variable {w0 w : World} {a b c d e f g : HP} {Γ : List HP}
theorem Sat.r1 (h : Sat w0 (a :: b :: Γ) w) : Sat w0 (b :: a :: Γ) w := h.perm (.swap _ _ _)
theorem Sat.r2 (h : Sat w0 (a :: b :: c :: Γ) w) : Sat w0 (c :: a :: b :: Γ) w := h.perm (((List.Perm.swap c b Γ).cons a).trans (.swap _ _ _))
theorem Sat.r3 (h : Sat w0 (a :: b :: c :: d :: Γ) w) : Sat w0 (d :: a :: b :: c :: Γ) w :=
  h.perm ((((List.Perm.swap d c Γ).cons b).cons a).trans (((List.Perm.swap d b (c :: Γ)).cons a).trans (.swap _ _ _)))
theorem Sat.r4 (h : Sat w0 (a :: b :: c :: d :: e :: Γ) w) : Sat w0 (e :: a :: b :: c :: d :: Γ) w :=
  (h.perm ((((List.Perm.swap e d Γ).cons c).cons b).cons a)).r3
theorem Sat.r5 (h : Sat w0 (a :: b :: c :: d :: e :: f :: Γ) w) : Sat w0 (f :: a :: b :: c :: d :: e :: Γ) w :=
  (h.perm (((((List.Perm.swap f e Γ).cons d).cons c).cons b).cons a)).r4
theorem Sat.r6 (h : Sat w0 (a :: b :: c :: d :: e :: f :: g :: Γ) w) : Sat w0 (g :: a :: b :: c :: d :: e :: f :: Γ) w :=
  (h.perm ((((((List.Perm.swap g f Γ).cons e).cons d).cons c).cons b).cons a)).r5
/-- What stands first goes behind the next. -/
theorem Sat.b2 (h : Sat w0 (a :: b :: c :: Γ) w) : Sat w0 (b :: c :: a :: Γ) w := h.perm ((List.Perm.swap b a (c :: Γ)).trans ((List.Perm.swap c a Γ).cons b))
end

theorem Sat.drew {w0 w : World} {Γ : List HP} (h : Sat w0 Γ w) : Sat w0 Γ w.drew := ⟨h.below.drew, h.seps⟩
theorem Sat.size {w0 w : World} {Γ : List HP} (h : Sat w0 Γ w) : w0.heap.size ≤ w.heap.size := h.below.size

/-- The step that all others are: a piece P becomes a piece Q, and no other block of the world turns. -/
theorem Sat.step {w0 w w' : World} {P Q : HP} {Γ : List HP} (h : Sat w0 (P :: Γ) w) (hos : w'.os = w.os) (htp : w'.tape = w.tape) (hout : w'.output = w.output) (hsz : w.heap.size ≤ w'.heap.size)
    (key : ∀ h1 : Hp, P h1 → (∀ k, h1 k = none ∨ (w0.heap.size ≤ k ∧ k < w.heap.size ∧ h1 k = w.heap[k]?)) →
      (∀ k, k < w.heap.size → h1 k = none → w'.heap[k]? = w.heap[k]?) ∧
      (∀ h' : Hp, (∀ k, h1 k ≠ none → h' k = w'.heap[k]?) → (∀ k, w.heap.size ≤ k → h' k = w'.heap[k]?) → Q h')) : Sat w0 (Q :: Γ) w' := by
  obtain ⟨h1, h2, hd, hj, hP, hΓ⟩ := h.seps
  have hsub : ∀ k, h1 k = none ∨ (w0.heap.size ≤ k ∧ k < w.heap.size ∧ h1 k = w.heap[k]?) := fun k => by
    cases e : h1 k with
    | none => exact .inl rfl
    | some o =>
      have h3 := hj k
      rw [e, Option.some_or] at h3
      unfold hpOf at h3
      split at h3
      · rename_i hB
        exact .inr ⟨hB, (Array.getElem?_eq_some_iff.1 h3).1, h3.symm⟩
      · cases h3
  obtain ⟨hold, hQ⟩ := key h1 hP hsub
  have hlow : ∀ k, k < w0.heap.size → h1 k = none := fun k hk => by
    rcases hsub k with e | e
    · exact e
    · omega
  have hsub2 : ∀ k, h2 k = none ∨ (w0.heap.size ≤ k ∧ k < w.heap.size ∧ h2 k = w.heap[k]? ∧ h1 k = none) := fun k => by
    cases e : h2 k with
    | none => exact .inl rfl
    | some o =>
      have h0 : h1 k = none := by
        rcases hd k with h0 | h0
        · exact h0
        · rw [e] at h0; cases h0
      have h3 := hj k
      rw [h0, e, Option.none_or] at h3
      unfold hpOf at h3
      split at h3
      · rename_i hB
        exact .inr ⟨hB, (Array.getElem?_eq_some_iff.1 h3).1, h3.symm, h0⟩
      · cases h3
  refine ⟨h.below.trans ⟨hos, htp, hout, hsz, fun k hk => hold k (by have := h.size; omega) (hlow k hk)⟩,
    fun k => if h2 k = none then hpOf w0.heap.size w' k else none, h2, fun k => ?_, fun k => ?_, hQ _ (fun k hk => ?_) (fun k hk => ?_), hΓ⟩
  · by_cases e : h2 k = none
    · exact .inr e
    · left; simp [e]
  · rcases hsub2 k with e | ⟨hB, hlt, e, e1⟩
    · simp [e]
    · by_cases e2 : h2 k = none
      · simp [e2]
      · simp only [e2, if_false, Option.none_or]
        rw [e, hpOf, if_pos hB, hold k hlt e1]
  · have e : h2 k = none := by rcases hd k with e | e; exact absurd e hk; exact e
    rcases hsub k with e1 | ⟨hB, _⟩
    · exact absurd e1 hk
    · simp only [e, if_true]; rw [hpOf, if_pos hB]
  · have e : h2 k = none := by
      rcases hsub2 k with e | ⟨_, hlt, _⟩
      · exact e
      · omega
    simp only [e, if_true]; rw [hpOf, if_pos (by have := h.size; omega)]

/-- A piece beside which nothing need be known. -/
def none_ : HP := fun h => ∀ k, h k = none
theorem Sat.with_none {w0 w : World} {Γ : List HP} (h : Sat w0 Γ w) : Sat w0 (none_ :: Γ) w :=
  ⟨h.below, fun _ => none, hpOf w0.heap.size w, fun _ => .inl rfl, fun _ => by simp, fun _ => rfl, h.seps⟩

/-- The block b is this object. -/
def obj (b : Nat) (o : Obj) : HP := fun h => h b = some o
/-- The block b are these cells. -/
abbrev blk (b : Nat) (cs : List Value) (T : TypeId) : HP := obj b (.cells cs.toArray T (0, 0))

theorem Sat.ob {w0 w : World} {Γ : List HP} {b : Nat} {o : Obj} (h : Sat w0 (obj b o :: Γ) w) : w0.heap.size ≤ b ∧ b < w.heap.size ∧ w.heap[b]? = some o := by
  obtain ⟨h1, h2, _, hj, hP, _⟩ := h.seps
  have h3 := hj b
  rw [show h1 b = some o from hP, Option.some_or] at h3
  unfold hpOf at h3
  split at h3
  · rename_i hB
    exact ⟨hB, (Array.getElem?_eq_some_iff.1 h3).1, h3⟩
  · cases h3

theorem Sat.alloc {w0 w : World} {Γ : List HP} (h : Sat w0 Γ w) (o : Obj) : Sat w0 (obj w.heap.size o :: Γ) (w.alloc o) := by
  refine h.with_none.step (by rfl) (by rfl) (by rfl) (by simp) fun h1 hP hs => ⟨fun k hk _ => Below.heap_alloc w o k hk, fun h' _ hn => ?_⟩
  show h' w.heap.size = some o
  rw [hn _ (Nat.le_refl _), heap_alloc_new]

theorem Sat.set {w0 w w' : World} {Γ : List HP} {b : Nat} {o o' : Obj} (h : Sat w0 (obj b o :: Γ) w) (hos : w'.os = w.os) (htp : w'.tape = w.tape) (hout : w'.output = w.output) (hsz : w'.heap.size = w.heap.size)
    (hold : ∀ k, k ≠ b → w'.heap[k]? = w.heap[k]?) (hb : w'.heap[b]? = some o') : Sat w0 (obj b o' :: Γ) w' := by
  refine h.step hos htp hout (by omega) fun h1 hP hs => ⟨fun k hk he => hold k (fun e => ?_), fun h' hn _ => ?_⟩
  · subst e; rw [show h1 k = some o from hP] at he; cases he
  · show h' b = some o'
    rw [hn b (by rw [show h1 b = some o from hP]; simp), hb]

theorem Sat.setCell {w0 w : World} {Γ : List HP} {b : Nat} {cs : List Value} {T : TypeId} {fr : Nat × Nat} (h : Sat w0 (obj b (.cells cs.toArray T fr) :: Γ) w) (off : Nat) (v : Value) :
    Sat w0 (obj b (.cells (cs.set off v).toArray T fr) :: Γ) (w.setCell ⟨b, off, none⟩ v) := by
  refine h.set rfl rfl rfl (by simp [World.setCell]) (fun k hk => Below.heap_setCell _ _ _ _ hk) ?_
  simp only [World.setCell, Array.getElem?_modify, if_true, h.ob.2.2]
  simp

theorem Sat.setCells {w0 : World} {Γ : List HP} {b : Nat} {T : TypeId} {fr : Nat × Nat} : ∀ (news mid pre post : List Value) (w : World), news.length = mid.length →
    Sat w0 (obj b (.cells (pre ++ (mid ++ post)).toArray T fr) :: Γ) w → Sat w0 (obj b (.cells (pre ++ (news ++ post)).toArray T fr) :: Γ) (w.setCells b pre.length news)
  | [], mid, pre, post, w, hl, h => by
    have : mid = [] := List.eq_nil_of_length_eq_zero hl.symm
    subst this
    exact h
  | v :: news, [], pre, post, w, hl, h => by simp at hl
  | v :: news, m :: mid, pre, post, w, hl, h => by
    have h2 := h.setCell pre.length v
    have h3 := Sat.setCells news mid (pre ++ [v]) post (w.setCell ⟨b, pre.length, none⟩ v) (by simpa using hl) (by simpa using h2)
    simpa [World.setCells] using h3

/-! ### Cells, ranges -/
theorem Sat.cell {w0 w : World} {Γ : List HP} {b : Nat} {cs : List Value} {T : TypeId} {fr : Nat × Nat} (h : Sat w0 (obj b (.cells cs.toArray T fr) :: Γ) w) (off : Nat) : w.cell? ⟨b, off, none⟩ = cs[off]? := by
  simp [World.cell?, h.ob.2.2]
theorem Sat.frozen {w0 w : World} {Γ : List HP} {b : Nat} {cs : List Value} {T : TypeId} (h : Sat w0 (blk b cs T :: Γ) w) (off : Nat) : w.frozen? ⟨b, off, none⟩ = false := by
  simp [World.frozen?, h.ob.2.2]
theorem Sat.range {w0 w : World} {Γ : List HP} {b : Nat} {pre mid post : List Value} {T : TypeId} {fr : Nat × Nat} (h : Sat w0 (obj b (.cells (pre ++ (mid ++ post)).toArray T fr) :: Γ) w) : w.rangeAt b pre.length mid := by
  intro j v hv
  rw [h.cell]
  have hj := (List.getElem?_eq_some_iff.1 hv).1
  rw [List.getElem?_append_right (by omega), Nat.add_sub_cancel_left, List.getElem?_append_left hj, hv]
theorem Sat.there {w0 w : World} {Γ : List HP} {b : Nat} {cs : List Value} {T : TypeId} (h : Sat w0 (blk b cs T :: Γ) w) (off n : Nat) (hl : off + n ≤ cs.length) : w.there b off n := by
  intro j hj
  rw [h.cell, h.frozen]
  simp; omega
theorem Sat.oldcell {w0 w : World} {Γ : List HP} (h : Sat w0 Γ w) {a : Addr} {v : Value} (hc : w0.cell? a = some v) : w.cell? a = some v := by
  rw [h.below.cell (World.block_lt_of_cell? w0 a hc)]; exact hc

/-! ### Rows that are owned -/
/-- The slice v of n elements of type T (sz cells each) stands at the head of a row of its own, and reads xs; or it is nil. -/
def own (v : Value) (xs : List Value) (T : TypeId) (sz : Nat) : HP := fun h =>
  ∃ n, xs.length = n * sz ∧ ((v = .slice none 0 0 ∧ n = 0) ∨
    ∃ g cap cur, v = .slice (some ⟨g, 0, none⟩) n cap ∧ h g = some (.cells cur T (0, 0)) ∧ n ≤ cap ∧ cap ≤ maxLen ∧ cur.size = cap * sz ∧ cur.toList.take (n * sz) = xs)

theorem Sat.owns {w0 w : World} {Γ : List HP} {v : Value} {xs : List Value} {T : TypeId} {sz : Nat} (h : Sat w0 (own v xs T sz :: Γ) w) : ∃ n, xs.length = n * sz ∧ w.ownsRow w0.heap.size T sz v n xs := by
  obtain ⟨h1, h2, _, hj, ⟨n, hl, hP⟩, _⟩ := h.seps
  refine ⟨n, hl, hl, ?_⟩
  rcases hP with hP | ⟨g, cap, cur, rfl, hg, r⟩
  · exact .inl hP
  · have h3 := hj g
    rw [hg, Option.some_or] at h3
    unfold hpOf at h3
    split at h3
    · rename_i hB
      exact .inr ⟨g, cap, cur, rfl, hB, h3, r⟩
    · cases h3

theorem Sat.owns_grown {w0 w w' : World} {Γ : List HP} {v v' : Value} {xs ys : List Value} {T : TypeId} {sz n' : Nat} (h : Sat w0 (own v xs T sz :: Γ) w)
    (hg : w.grownBy w' v.ownBlock) (ho : w'.ownsRow w0.heap.size T sz v' n' ys) (hnew : v'.ownBlock = v.ownBlock ∨ ∀ k, v'.ownBlock = some k → w.heap.size ≤ k) : Sat w0 (own v' ys T sz :: Γ) w' := by
  refine h.step hg.os hg.tape hg.output hg.size fun h1 hP hs => ⟨fun k hk he => hg.block k hk (fun e => ?_), fun h' ho' hn => ?_⟩
  · obtain ⟨m, _, hP⟩ := hP
    rcases hP with ⟨rfl, _⟩ | ⟨g, cap, cur, rfl, hg', _⟩
    · simp [Value.ownBlock] at e
    · simp [Value.ownBlock] at e; subst e; rw [hg'] at he; cases he
  · obtain ⟨hl, ho⟩ := ho
    refine ⟨n', hl, ?_⟩
    rcases ho with ho | ⟨g, cap, cur, rfl, hB, hgg, r⟩
    · exact .inl ho
    · refine .inr ⟨g, cap, cur, rfl, ?_, r⟩
      rcases hnew with e | e
      · obtain ⟨m, _, hP⟩ := hP
        rcases hP with ⟨rfl, _⟩ | ⟨g', cap', cur', rfl, hg', _⟩
        · simp [Value.ownBlock] at e
        · simp [Value.ownBlock] at e
          subst e
          rw [ho' g (by rw [hg']; simp)]; exact hgg
      · rw [hn g (e g (by simp [Value.ownBlock]))]; exact hgg
end Go.Toll

namespace Go.Toll
open Go.RowKit

/-! ### Slices that are read -/
/-- The slice v reads xs: elements of sz cells each. -/
def Reads (sz : Nat) (w : World) (v : Value) (xs : List Value) : Prop :=
  ∃ n, xs.length = n * sz ∧ ((v = .slice none 0 0 ∧ n = 0) ∨ ∃ a cap, v = .slice (some a) n cap ∧ n ≤ cap ∧ cap ≤ maxLen ∧ ∀ j u, xs[j]? = some u → w.cell? (a.add j) = some u)

/-- In every world that holds these pieces the slice reads xs. -/
def Rd (w0 : World) (Γ : List HP) (sz : Nat) (v : Value) (xs : List Value) : Prop := ∀ w, Sat w0 Γ w → Reads sz w v xs
theorem Rd.cons {w0 : World} {Γ : List HP} {sz : Nat} {v : Value} {xs : List Value} (h : Rd w0 Γ sz v xs) (P : HP) : Rd w0 (P :: Γ) sz v xs := fun w hw => h w hw.tail
theorem Rd.of {w0 : World} {Γ Δ : List HP} {sz : Nat} {v : Value} {xs : List Value} (h : Rd w0 Γ sz v xs) (f : ∀ w, Sat w0 Δ w → Sat w0 Γ w) : Rd w0 Δ sz v xs := fun w hw => h w (f w hw)
theorem Rd.nil {w0 : World} {Γ : List HP} {sz : Nat} : Rd w0 Γ sz (.slice none 0 0) [] := fun _ _ => ⟨0, by simp, .inl ⟨rfl, rfl⟩⟩

theorem own_reads {w0 : World} {Γ : List HP} {v : Value} {xs : List Value} {T : TypeId} {sz : Nat} : Rd w0 (own v xs T sz :: Γ) sz v xs := by
  intro w h
  obtain ⟨n, hl, ho⟩ := h.owns
  refine ⟨n, hl, ?_⟩
  rcases ho.2 with h1 | ⟨g, cap, cur, rfl, _, _, hnc, hcm, _⟩
  · exact .inl h1
  · exact .inr ⟨⟨g, 0, none⟩, cap, rfl, hnc, hcm, fun j u hu => ho.cells (by rfl) j u hu⟩

theorem Reads.old {w0 w : World} {Γ : List HP} {sz : Nat} {v : Value} {xs : List Value} (h : Sat w0 Γ w) (hr : Reads sz w0 v xs) : Reads sz w v xs := by
  obtain ⟨n, hl, hr⟩ := hr
  refine ⟨n, hl, ?_⟩
  rcases hr with hr | ⟨a, cap, rfl, h1, h2, h3⟩
  · exact .inl hr
  · exact .inr ⟨a, cap, rfl, h1, h2, fun j u hu => h.oldcell (h3 j u hu)⟩
theorem Rd.old {w0 : World} {Γ : List HP} {sz : Nat} {v : Value} {xs : List Value} (hr : Reads sz w0 v xs) : Rd w0 Γ sz v xs := fun _ h => hr.old h

theorem blk_reads {w0 : World} {Γ : List HP} {b : Nat} {cs : List Value} {T : TypeId} {fr : Nat × Nat} (pre mid post : List Value) (n cap sz : Nat) (hcs : cs = pre ++ (mid ++ post)) (hl : mid.length = n * sz) (hn : n ≤ cap) (hc : cap ≤ maxLen) :
    Rd w0 (obj b (.cells cs.toArray T fr) :: Γ) sz (.slice (some ⟨b, pre.length, none⟩) n cap) mid := by
  subst hcs
  intro w h
  refine ⟨n, hl, .inr ⟨_, cap, rfl, hn, hc, fun j u hu => ?_⟩⟩
  rw [Addr.add_mid]
  exact h.range j u hu

theorem Reads.one {w : World} {v : Value} {xs : List Value} (h : Reads 1 w v xs) : ∃ ao cap, v = .slice ao xs.length cap ∧ xs.length ≤ cap ∧ cap ≤ maxLen ∧ (ao = none → xs = [] ∧ cap = 0) ∧ ∀ a, ao = some a → ∀ j u, xs[j]? = some u → w.cell? (a.add j) = some u := by
  obtain ⟨n, hl, h⟩ := h
  rw [Nat.mul_one] at hl
  rcases h with ⟨rfl, rfl⟩ | ⟨a, cap, rfl, h1, h2, h3⟩
  · have : xs = [] := List.eq_nil_of_length_eq_zero hl
    subst this
    exact ⟨none, 0, rfl, Nat.le_refl _, by simp [maxLen], fun _ => ⟨rfl, rfl⟩, fun a h => by cases h⟩
  · exact ⟨some a, cap, by rw [hl], by omega, h2, fun h => (by cases h), fun a' h => by cases h; exact h3⟩

/-! ### append -/
section
variable {P : Program}
theorem append_types {t tx ty e e' : TypeId} {i : TypeInfo} (hi : P.info? e = some i) (ht : P.underlying t = some (.slice e)) (hx : P.underlying tx = some (.slice e')) (s x : Value) (w : World) :
    (Builtin.append_ #[t, tx] ty #[s, x]).run P w = (Builtin.append_ #[t, t] ty #[s, x]).run P w := by
  cases s <;> simp [Builtin.append_, run_underlying ht, run_underlying hx, sizeOf, typeInfo, hi]

theorem run_append_sl {w0 w : World} {Γ : List HP} (t tx ty e e' : TypeId) (z : Value) (sz bytes : Nat) (ht : P.underlying t = some (.slice e)) (htx : P.underlying tx = some (.slice e')) (hinfo : (P.info? e).map (fun i => (i.zero, i.size, i.bytes)) = some (some z, sz, bytes))
    (hzs : z.cells.size = sz) (hsz : 0 < sz) (v x : Value) (xs news : List Value) (hS : Sat w0 (own v xs e sz :: Γ) w) (hr : Reads sz w x news) (h1 : ∀ u ∈ news, u.oneCell' = true)
    (hB : (xs.length + news.length) * bytes ≤ 140737488355328 * sz) (hM : xs.length + news.length ≤ 140737488355328 * sz) :
    ∃ v' w', (Builtin.append_ #[t, tx] ty #[v, x]).run P w = .ok v' w' ∧ Sat w0 (own v' (xs ++ news) e sz :: Γ) w' := by
  obtain ⟨i, hi, hz, hsize, hby⟩ := info_parts hinfo
  obtain ⟨n, hxl, hown⟩ := hS.owns
  obtain ⟨m, hnl, hr⟩ := hr
  rw [append_types hi ht htx]
  subst hsize
  subst hby
  have hnm : (n + m) * i.bytes ≤ 140737488355328 := by
    rw [hxl, hnl, ← Nat.add_mul, Nat.mul_assoc, Nat.mul_comm i.size, ← Nat.mul_assoc] at hB
    exact Nat.le_of_mul_le_mul_right hB hsz
  have h63 : n + m ≤ 140737488355328 := by
    rw [hxl, hnl, ← Nat.add_mul] at hM
    exact Nat.le_of_mul_le_mul_right hM hsz
  have hlen : (xs ++ news).length = (n + m) * i.size := by rw [List.length_append, hxl, hnl, Nat.add_mul]
  have hbase := hS.size
  rcases hr with ⟨rfl, rfl⟩ | ⟨a, c, rfl, hmc, hcm, hcell⟩
  · have hn : news = [] := List.eq_nil_of_length_eq_zero (by simpa using hnl)
    subst hn
    have := run_append_owned_none (P := P) w w0.heap.size t ty e i i.size ht hi v n xs hown
    exact ⟨v, w, this, by simpa using hS⟩
  · have hml : maxLen = 9223372036854775807 := rfl
    have grown : ∀ (old : Nat), old < n + m →
        (w.drew.alloc (.cells (xs.toArray ++ news.toArray ++ Builtin.zeroCells z.cells (grownCap w (n + m) old e - (n + m))) e)).ownsRow w0.heap.size e i.size
          (.slice (some ⟨w.heap.size, 0, none⟩) (n + m) (grownCap w (n + m) old e)) (n + m) (xs ++ news) ∧
        w.grownBy (w.drew.alloc (.cells (xs.toArray ++ news.toArray ++ Builtin.zeroCells z.cells (grownCap w (n + m) old e - (n + m))) e)) v.ownBlock := by
      intro old ho
      have hge := grownCap_ge w (n + m) old e
      have hcm : grownCap w (n + m) old e ≤ maxLen := grownCap_le_maxLen w (n + m) old e (by omega)
      refine ⟨⟨hlen, .inr ⟨w.heap.size, _, _, rfl, hbase, heap_alloc_new w.drew _, hge, hcm, ?_, ?_⟩⟩, ⟨rfl, rfl, rfl, by simp, fun k hk _ => Below.heap_alloc w.drew _ k hk⟩⟩
      · simp only [Array.size_append, List.size_toArray, size_zeroCells, hzs, hxl, hnl, ← Nat.add_mul]
        congr 1
        omega
      · simp only [Array.toList_append, List.append_assoc]
        rw [← List.append_assoc, ← hlen]
        exact List.take_left
    have done : ∀ old, old < n + m → Sat w0 (own (.slice (some ⟨w.heap.size, 0, none⟩) (n + m) (grownCap w (n + m) old e)) (xs ++ news) e i.size :: Γ)
        (w.drew.alloc (.cells (xs.toArray ++ news.toArray ++ Builtin.zeroCells z.cells (grownCap w (n + m) old e - (n + m))) e)) := fun old ho =>
      hS.owns_grown (grown old ho).2 (grown old ho).1 (.inr fun k hk => by simp [Value.ownBlock] at hk; omega)
    rcases hown.2 with ⟨rfl, rfl⟩ | ⟨g, cap, cur, rfl, hbg, hg, hnc, hcapm, hcs, htake⟩
    · have hx : xs = [] := List.eq_nil_of_length_eq_zero (by simpa using hxl)
      subst hx
      by_cases hm : m = 0
      · subst hm
        have hn : news = [] := List.eq_nil_of_length_eq_zero (by simpa using hnl)
        subst hn
        refine ⟨.slice none 0 0, w, ?_, by simpa using hS⟩
        simp [Builtin.append_, run_underlying ht, sizeOf, typeInfo, hi, Builtin.lenOf, Builtin.firstCells, loadCells, loadCellsFrom]
      · have hr := run_append_nil (P := P) w t ty e i z ht hi hz a m c news hnl hcell (by omega) (by omega) (by have h0 := hnm; rw [Nat.zero_add] at h0; omega)
        have hgr := done 0 (by omega)
        simp only [Nat.zero_add, List.nil_append, Array.empty_append] at hgr ⊢
        exact ⟨_, _, hr, hgr⟩
    · by_cases hroom : n + m ≤ cap
      · have hfit : n * i.size + news.length ≤ cur.size := by rw [hnl, hcs, ← Nat.add_mul]; exact Nat.mul_le_mul_right _ hroom
        have hr := run_append_room (P := P) w t ty e i ht hi g n cap cur hg a m c news hnl hcell h1 hroom hfit
        refine ⟨_, _, hr, hS.owns_grown (n' := n + m) ⟨rfl, rfl, rfl, by simp, fun k _ hk => setRow_other w g k _ (fun e => hk (by simp [Value.ownBlock, e]))⟩ ⟨hlen, .inr ⟨g, cap, _, rfl, hbg, setRow_heap w g cur _ e _ hg, hroom, hcapm, ?_, ?_⟩⟩ (.inl rfl)⟩
        · simp only [List.size_toArray, List.length_append, List.length_take, List.length_drop, Array.length_toList]
          omega
        · rw [htake, ← hlen]
          exact List.take_left
      · have holds : ∀ j u, xs[j]? = some u → w.cell? ((⟨g, 0, none⟩ : Addr).add j) = some u := hown.cells (g := g) rfl
        have hr := run_append_grow (P := P) w t ty e i z ht hi hz ⟨g, 0, none⟩ n cap xs hxl holds a m c news hnl hcell (by omega) (by omega) (growslice_fits (by omega) hnm)
        exact ⟨_, _, hr, done cap (by omega)⟩

theorem wp_append {w0 w : World} {Γ : List HP} {o : Oper} {a : Act} {K : Act → World → Prop} {Q : Exit → Act → World → Prop} (s x : Operand) (t tx : TypeId)
    (ho : o.op = .call { callee := .builtin .append, args := #[s, x], argTypes := #[t, tx] }) (e e' : TypeId) (z : Value) (sz bytes : Nat) (ht : P.underlying t = some (.slice e)) (htx : P.underlying tx = some (.slice e'))
    (hinfo : (P.info? e).map (fun i => (i.zero, i.size, i.bytes)) = some (some z, sz, bytes)) (hzs : z.cells.size = sz) (hsz : 0 < sz) (v xv : Value) (xs news : List Value) (hs : a.eval s = v) (hx : a.eval x = xv)
    (hS : Sat w0 (own v xs e sz :: Γ) w) (hr : Reads sz w xv news) (h1 : ∀ u ∈ news, u.oneCell' = true)
    (hB : (xs.length + news.length) * bytes ≤ 140737488355328 * sz) (hM : xs.length + news.length ≤ 140737488355328 * sz)
    (h : ∀ v' w', Sat w0 (own v' (xs ++ news) e sz :: Γ) w' → K (a.put o.dst v') w') : o.wp P a w K Q := by
  obtain ⟨v', w', hrun, h2⟩ := run_append_sl (P := P) t tx o.type e e' z sz bytes ht htx hinfo hzs hsz v xv xs news hS hr h1 hB hM
  unfold Oper.wp execOp
  simp only [ho, resolve, invoke, builtin, Sem.run_bind, Sem.run_pure, Result.andThen_ok, List.map_toArray, List.map_cons, List.map_nil, hs, hx, hrun]
  exact h v' w' h2

theorem wpl_append {w0 w : World} {Γ : List HP} {ops : Array Oper} {rest : List Oper} {o : Oper} {a : Act} {Q : Exit → Act → World → Prop} (hgd : o.guard = none) (s x : Operand) (t tx : TypeId)
    (ho : o.op = .call { callee := .builtin .append, args := #[s, x], argTypes := #[t, tx] }) (e e' : TypeId) (z : Value) (sz bytes : Nat) (ht : P.underlying t = some (.slice e)) (htx : P.underlying tx = some (.slice e'))
    (hinfo : (P.info? e).map (fun i => (i.zero, i.size, i.bytes)) = some (some z, sz, bytes)) (hzs : z.cells.size = sz) (hsz : 0 < sz) (v xv : Value) (xs news : List Value) (hs : a.eval s = v) (hx : a.eval x = xv)
    (hS : Sat w0 (own v xs e sz :: Γ) w) (hr : Reads sz w xv news) (h1 : ∀ u ∈ news, u.oneCell' = true)
    (hB : (xs.length + news.length) * bytes ≤ 140737488355328 * sz) (hM : xs.length + news.length ≤ 140737488355328 * sz)
    (h : ∀ v' w', Sat w0 (own v' (xs ++ news) e sz :: Γ) w' → wpList P ops Q rest (a.put o.dst v') w') : wpList P ops Q (o :: rest) a w :=
  wpList_plain hgd fun _ hK => wp_append s x t tx ho e e' z sz bytes ht htx hinfo hzs hsz v xv xs news hs hx hS hr h1 hB hM fun v' w' h' => hK _ _ (h v' w' h')

/-- A result, and what is known of it. -/
def Ret (Q : Value → World → Prop) (e : Ending) (w : World) : Prop := ∃ v, e = .returned v ∧ Q v w
theorem Ret.mk {Q : Value → World → Prop} {v : Value} {w : World} (h : Q v w) : Ret Q (.returned v) w := ⟨v, rfl, h⟩
end

/-- What lies in a block is read by a slice at its head. -/
theorem head_reads {w0 w : World} {Γ : List HP} {b : Nat} {cs : List Value} {T : TypeId} {fr : Nat × Nat} {sz : Nat} (h : Sat w0 (obj b (.cells cs.toArray T fr) :: Γ) w) (xs post : List Value) (n cap : Nat) (hcs : cs = xs ++ post) (hl : xs.length = n * sz) (hn : n ≤ cap) (hc : cap ≤ maxLen) :
    Reads sz w (.slice (some ⟨b, 0, none⟩) n cap) xs := blk_reads (w0 := w0) (Γ := Γ) (T := T) (fr := fr) [] xs post n cap sz (by simpa using hcs) hl hn hc w h
end Go.Toll
