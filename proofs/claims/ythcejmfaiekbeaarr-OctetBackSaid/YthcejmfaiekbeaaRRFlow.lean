/- A region that draws its order: what each operation takes and leaves is told once, and holds in whatever order comes up. Plain lemmas; no program in sight. -/
import Derived.Test.YthcejmfaiekbeaaRREng
set_option linter.unusedVariables false
set_option linter.unusedSimpArgs false
namespace Go.Toll
open Go.RowKit

/-- What is told of an operation of a region. -/
structure Nd where
  /-- It runs (or is passed over, by its guard). -/
  run : Bool
  /-- The operations that surely come ahead of it. -/
  bef : List Nat
  /-- Those of them whose values it reads; the slots that it reads of the frame ahead of the region. -/
  use : List Nat
  olds : List Nat
  /-- Those whose facts it needs. -/
  know : List Nat
  /-- The pieces that it uses up, and those that it reads. -/
  cons : List Nat
  rds : List Nat
  /-- The values that its own fact and piece speak of. -/
  idx : List Nat
  K : List Value → Prop
  D : List Value → HP

def dflt : Nd := ⟨true, [], [], [], [], [], [], [], fun _ => True, fun _ => fun _ => True⟩
def nd (N : List Nd) (i : Nat) : Nd := N.getD i dflt
def dstOf (ops : List Oper) (i : Nat) : Option Nat := (ops[i]?).bind (·.dst)
def pieceOf (N : List Nd) (Γ0 : List HP) (V : Nat → Value) (c : Nat) : HP :=
  if c < N.length then (nd N c).D ((nd N c).idx.map V) else Γ0.getD (c - N.length) (fun _ => True)
def upd (V : Nat → Value) (i : Nat) (v : Value) : Nat → Value := fun j => match Nat.beq j i with | true => v | false => V j
theorem upd_same (V : Nat → Value) (i : Nat) (v : Value) : upd V i v i = v := by unfold upd; rw [Nat.beq_refl]
theorem upd_ne (V : Nat → Value) {i j : Nat} (v : Value) (h : j ≠ i) : upd V i v j = V j := by
  unfold upd
  cases e : Nat.beq j i with
  | true => exact absurd (Nat.eq_of_beq_eq_true e) h
  | false => rfl
def envI (ops : List Oper) (ρ0 : Env) (V : Nat → Value) (use olds : List Nat) : Env :=
  use.map (fun j => ((dstOf ops j).getD 0, V j)) ++ olds.map (fun t => (t, (lk ρ0 t).getD undef))

/-- Nobody writes slot t between j (which has written it) and what comes at i. -/
def clear1 (ops : List Oper) (N : List Nd) (t j : Nat) (late : Nat → Bool) : Bool :=
  (List.range ops.length).all fun k => k == j || !(dstOf ops k == some t) || (nd N j).bef.contains k || late k
def clear0 (ops : List Oper) (t : Nat) (late : Nat → Bool) : Bool := (List.range ops.length).all fun k => !(dstOf ops k == some t) || late k
def okNode (ops : List Oper) (N : List Nd) (ρ0 : Env) (m n i : Nat) (o : Oper) (d : Nd) : Bool :=
  o.after.all (fun e => !Region.binds .any e || decide (e.on < i)) &&
  d.bef.all (fun j => o.after.any fun e => Region.binds .any e && (e.on == j || (nd N e.on).bef.contains j)) &&
  (d.use.all fun j => d.bef.contains j && (match dstOf ops j with | some t => clear1 ops N t j (fun k => (nd N k).bef.contains i || k == i) | none => false)) &&
  (d.olds.all fun t => (lk ρ0 t).isSome && clear0 ops t (fun k => (nd N k).bef.contains i || k == i)) &&
  d.know.all (d.bef.contains ·) && d.idx.all (fun j => j == i || d.bef.contains j) &&
  (d.cons ++ d.rds).all (fun c => (N.length ≤ c && decide (c < N.length + m)) || d.bef.contains c) &&
  decide (d.cons ++ d.rds).Nodup &&
  (List.range N.length).all (fun k => k == i || (d.cons.all fun c => !(nd N k).cons.contains c && (!(nd N k).rds.contains c || d.bef.contains k))) &&
  (match o.guard with
    | none => d.run
    | some (g, _) => d.bef.contains g && d.know.contains g && (match dstOf ops g with | some t => decide (t < n) && clear1 ops N t g (fun k => (nd N k).bef.contains i || k == i) | none => false)) &&
  (match o.dst with | some t => decide (t < n) | none => true) &&
  (d.run || d.cons.isEmpty)
def okFrom (ops : List Oper) (N : List Nd) (ρ0 : Env) (m n : Nat) : Nat → List Oper → List Nd → Bool
  | _, [], [] => true
  | i, o :: os, d :: ds => okNode ops N ρ0 m n i o d && okFrom ops N ρ0 m n (i + 1) os ds
  | _, _, _ => false
theorem okFrom_get {ops : List Oper} {N : List Nd} {ρ0 : Env} {m n : Nat} : ∀ {os : List Oper} {ds : List Nd} {k : Nat}, okFrom ops N ρ0 m n k os ds = true → os.length = ds.length ∧ ∀ i o, os[i]? = some o → okNode ops N ρ0 m n (k + i) o (nd ds i) = true
  | [], [], k, _ => ⟨rfl, fun i o h => by simp at h⟩
  | [], d :: ds, k, h => by simp [okFrom] at h
  | o :: os, [], k, h => by simp [okFrom] at h
  | o :: os, d :: ds, k, h => by
    simp only [okFrom, Bool.and_eq_true] at h
    obtain ⟨h1, h2⟩ := okFrom_get h.2
    refine ⟨by simp [h1], fun i p hp => ?_⟩
    cases i with
    | zero => simp at hp; subst hp; exact h.1
    | succ i =>
      have := h2 i p (by simpa using hp)
      rw [show k + 1 + i = k + (i + 1) by omega] at this
      exact this

section
variable (P : Program) (w0 : World) (n : Nat) (ops : List Oper) (N : List Nd) (ρ0 : Env) (Γ0 : List HP)
/-- What is to be shown of operation i. -/
def Obl (i : Nat) (o : Oper) (d : Nd) : Prop :=
  ∀ V : Nat → Value, (∀ j ∈ d.know, (nd N j).K ((nd N j).idx.map V)) →
    (∀ g want, o.guard = some (g, want) → (V g = .bool want ↔ d.run = true)) ∧
    (if d.run = true then ∀ Γ : List HP, Ow P w0 n o.op o.type (envI ops ρ0 V d.use d.olds) ((d.cons ++ d.rds).map (pieceOf N Γ0 V) ++ Γ) (fun v w' => d.K (d.idx.map (upd V i v)) ∧ Sat w0 (d.D (d.idx.map (upd V i v)) :: (d.rds.map (pieceOf N Γ0 V) ++ Γ)) w')
     else d.K (d.idx.map (upd V i undef)) ∧ (∀ h, d.D (d.idx.map (upd V i undef)) h))
def OblFrom : Nat → List Oper → List Nd → Prop
  | _, [], [] => True
  | i, o :: os, d :: ds => Obl P w0 n ops N ρ0 Γ0 i o d ∧ OblFrom (i + 1) os ds
  | _, _, _ => False
end

section
variable {P : Program} {w0 : World} {n : Nat} {ops : List Oper} {N : List Nd} {ρ0 : Env} {Γ0 : List HP}
theorem OblFrom_get : ∀ {os : List Oper} {ds : List Nd} {k : Nat}, OblFrom P w0 n ops N ρ0 Γ0 k os ds → ∀ i o, os[i]? = some o → Obl P w0 n ops N ρ0 Γ0 (k + i) o (nd ds i)
  | [], [], k, _ => fun i o h => by simp at h
  | [], d :: ds, k, h => by simp [OblFrom] at h
  | o :: os, [], k, h => by simp [OblFrom] at h
  | o :: os, d :: ds, k, h => by
    intro i p hp
    cases i with
    | zero => simp at hp; subst hp; exact h.1
    | succ i =>
      have := OblFrom_get h.2 i p (by simpa using hp)
      rw [show k + 1 + i = k + (i + 1) by omega] at this
      exact this

theorem getD_both {L : Array Bool} {i : Nat} (h : L.getD i true = false) : L.getD i false = false := by
  rcases Nat.lt_or_ge i L.size with h' | h'
  · simp [h'] at h ⊢; exact h
  · simp [Array.getElem?_eq_none h'] at h
theorem getD_in {L : Array Bool} {i : Nat} (hi : i < L.size) (h : L.getD i false = false) : L.getD i true = false := by
  simp [hi] at h ⊢; exact h
theorem getD_replicate_false (m j : Nat) : (Array.replicate m false).getD j false = false := by
  rcases Nat.lt_or_ge j m with h | h
  · simp [h]
  · simp [h]
def isL (L : Array Bool) (i : Nat) : Bool := L.getD i false
/-- The pieces that are there, when these have run. -/
def alive (N : List Nd) (m : Nat) (L : Nat → Bool) : List Nat :=
  (List.range (N.length + m)).filter fun c => (decide (N.length ≤ c) || L c) && (List.range N.length).all fun k => !L k || !(nd N k).cons.contains c
theorem mem_alive {m : Nat} {L : Nat → Bool} {c : Nat} : c ∈ alive N m L ↔ c < N.length + m ∧ (N.length ≤ c ∨ L c = true) ∧ ∀ k, k < N.length → L k = true → c ∉ (nd N k).cons := by
  simp only [alive, List.mem_filter, List.mem_range, Bool.and_eq_true, Bool.or_eq_true, decide_eq_true_eq, List.all_eq_true, Bool.not_eq_true', List.contains_eq_mem, decide_eq_false_iff_not]
  constructor
  · rintro ⟨h1, h2, h3⟩
    refine ⟨h1, h2, fun k hk hl => ?_⟩
    rcases h3 k hk with h | h
    · rw [hl] at h; cases h
    · exact h
  · rintro ⟨h1, h2, h3⟩
    refine ⟨h1, h2, fun k hk => ?_⟩
    cases hl : L k with
    | false => exact .inl rfl
    | true => exact .inr (h3 k hk hl)
theorem alive_nodup {m : Nat} {L : Nat → Bool} : (alive N m L).Nodup := List.Pairwise.filter _ List.nodup_range

structure Inv (w0 : World) (n : Nat) (ops : List Oper) (N : List Nd) (ρ0 : Env) (Γ0 : List HP) (L : Array Bool) (a : Act) (w : World) (V : Nat → Value) : Prop where
  size : L.size = ops.length
  closed : ∀ i, isL L i = true → ∀ j ∈ (nd N i).bef, isL L j = true
  defers : a.defers = []
  tsize : a.tmps.size = n
  vals : ∀ j t, isL L j = true → dstOf ops j = some t → (∀ k, k ≠ j → isL L k = true → dstOf ops k = some t → k ∈ (nd N j).bef) → a.tmps.getD t undef = V j
  olds : ∀ t v, lk ρ0 t = some v → (∀ k, isL L k = true → dstOf ops k ≠ some t) → a.tmps.getD t undef = v
  facts : ∀ j, j < N.length → isL L j = true → (nd N j).K ((nd N j).idx.map V)
  sat : Sat w0 ((alive N Γ0.length (isL L)).map (pieceOf N Γ0 V)) w

theorem isL_set {L : Array Bool} {i j : Nat} (hi : i < L.size) : isL (L.setIfInBounds i true) j = (decide (j = i) || isL L j) := by
  unfold isL
  by_cases h : j = i
  · subst h; simp [hi]
  · rw [getD_set_ne false (Ne.symm h)]; simp [h]

theorem act_put_same {a : Act} {t : Nat} {v : Value} (h : t < a.tmps.size) : (a.put (some t) v).tmps.getD t undef = v := by simp [Act.put, h]
theorem act_put_ne {a : Act} {d : Option Nat} {t : Nat} {v : Value} (h : d ≠ some t) : (a.put d v).tmps.getD t undef = a.tmps.getD t undef := by
  cases d with
  | none => rfl
  | some s =>
    have : s ≠ t := fun e => h (by rw [e])
    simp [Act.put, Array.getElem?_setIfInBounds_ne this]
theorem act_put_size {a : Act} {d : Option Nat} {v : Value} : (a.put d v).tmps.size = a.tmps.size := by cases d <;> simp [Act.put]
theorem act_put_defers {a : Act} {d : Option Nat} {v : Value} : (a.put d v).defers = a.defers := by cases d <;> rfl

/-- One operation more: the frame, the facts and the pieces behind it. -/
theorem Inv.step {L : Array Bool} {a : Act} {w w' : World} {V : Nat → Value} {i : Nat} {o : Oper} {v : Value} (inv : Inv w0 n ops N ρ0 Γ0 L a w V) (hlen : ops.length = N.length)
    (ho : ops[i]? = some o) (hun : isL L i = false) (hpre : ∀ j ∈ (nd N i).bef, isL L j = true)
    (hidx : ∀ c, c < N.length → ∀ j ∈ (nd N c).idx, j = c ∨ j ∈ (nd N c).bef) (hd : ∀ t, o.dst = some t → t < n)
    (hconsr : ∀ c ∈ (nd N i).cons, N.length ≤ c ∨ c ∈ (nd N i).bef) (hconsAll : ∀ k, k < N.length → isL L k = true → ∀ c ∈ (nd N k).cons, N.length ≤ c ∨ c ∈ (nd N k).bef)
    (hK : (nd N i).K ((nd N i).idx.map (upd V i v)))
    (hS : Sat w0 ((nd N i).D ((nd N i).idx.map (upd V i v)) :: ((alive N Γ0.length (isL L)).filter (fun c => !(nd N i).cons.contains c)).map (pieceOf N Γ0 V)) w') :
    Inv w0 n ops N ρ0 Γ0 (L.setIfInBounds i true) (a.put o.dst v) w' (upd V i v) := by
  have hi : i < ops.length := (List.getElem?_eq_some_iff.1 ho).1
  have hiL : i < L.size := by rw [inv.size]; exact hi
  have hdst : dstOf ops i = o.dst := by simp [dstOf, ho]
  have hne : ∀ j, isL L j = true → j ≠ i := fun j hj e => by subst e; rw [hun] at hj; cases hj
  have hnb : ∀ j, isL L j = true → i ∉ (nd N j).bef := fun j hj hm => by rw [inv.closed j hj i hm] at hun; cases hun
  have hsame : ∀ c, c < N.length → isL L c = true → (nd N c).idx.map (upd V i v) = (nd N c).idx.map V := fun c hc hl => by
    refine List.map_congr_left fun j hj => upd_ne V v ?_
    rcases hidx c hc j hj with rfl | h
    · exact hne j hl
    · exact hne j (inv.closed c hl j h)
  refine ⟨by simp [inv.size], fun k hk j hj => ?_, by rw [act_put_defers]; exact inv.defers, by rw [act_put_size]; exact inv.tsize, fun j t hj ht hcl => ?_, fun t u ht hcl => ?_, fun j hjN hj => ?_, ?_⟩
  · rw [isL_set hiL] at hk ⊢
    simp only [Bool.or_eq_true, decide_eq_true_eq] at hk ⊢
    rcases hk with rfl | hk
    · exact .inr (hpre j hj)
    · exact .inr (inv.closed k hk j hj)
  · rw [isL_set hiL] at hj
    simp only [Bool.or_eq_true, decide_eq_true_eq] at hj
    rcases hj with rfl | hj
    · rw [hdst] at ht
      rw [ht, upd_same]
      exact act_put_same (by rw [inv.tsize]; exact hd t ht)
    · have hji := hne j hj
      have hdt : o.dst ≠ some t := fun e => by
        have := hcl i (Ne.symm hji) (by rw [isL_set hiL]; simp) (by rw [hdst]; exact e)
        exact hnb j hj this
      rw [act_put_ne hdt, upd_ne V v hji]
      refine inv.vals j t hj ht fun k hkj hk hkt => hcl k hkj (by rw [isL_set hiL]; simp [hk]) hkt
  · have hdt : o.dst ≠ some t := fun e => hcl i (by rw [isL_set hiL]; simp) (by rw [hdst]; exact e)
    rw [act_put_ne hdt]
    exact inv.olds t u ht fun k hk => hcl k (by rw [isL_set hiL]; simp [hk])
  · rw [isL_set hiL] at hj
    simp only [Bool.or_eq_true, decide_eq_true_eq] at hj
    rcases hj with rfl | hj
    · exact hK
    · rw [hsame j hjN hj]; exact inv.facts j hjN hj
  · have hperm : (i :: (alive N Γ0.length (isL L)).filter (fun c => !(nd N i).cons.contains c)).Perm (alive N Γ0.length (isL (L.setIfInBounds i true))) := by
      refine (List.perm_ext_iff_of_nodup (List.nodup_cons.2 ⟨fun hm => ?_, List.Pairwise.filter _ alive_nodup⟩) alive_nodup).2 fun c => ?_
      · have := (mem_alive.1 (List.mem_filter.1 hm).1).2.1
        rcases this with h | h
        · omega
        · exact hne i h rfl
      · simp only [List.mem_cons, List.mem_filter, mem_alive, isL_set hiL, Bool.or_eq_true, decide_eq_true_eq, Bool.not_eq_true', List.contains_eq_mem, decide_eq_false_iff_not]
        constructor
        · rintro (rfl | ⟨⟨h1, h2, h3⟩, h4⟩)
          · refine ⟨by omega, .inr (.inl rfl), fun k hk hl hc => ?_⟩
            rcases hl with rfl | hl
            · rcases hconsr _ hc with h | h
              · omega
              · exact hne _ (hpre _ h) rfl
            · exact absurd hc (fun hc => by
                -- what was used up had run
                have := hconsAll k hk hl _ hc
                rcases this with h | h
                · omega
                · exact hnb k hl h)
          · refine ⟨h1, h2.imp id .inr, fun k hk hl => ?_⟩
            rcases hl with rfl | hl
            · exact h4
            · exact h3 k hk hl
        · rintro ⟨h1, h2, h3⟩
          by_cases hci : c = i
          · exact .inl hci
          · refine .inr ⟨⟨h1, ?_, fun k hk hl => h3 k hk (.inr hl)⟩, h3 i (by omega) (.inl rfl)⟩
            rcases h2 with h | h | h
            · exact .inl h
            · exact absurd h hci
            · exact .inr h
    have := hS
    refine ((Sat.perm (List.Perm.map (pieceOf N Γ0 (upd V i v)) hperm)) ?_)
    simp only [List.map_cons]
    have e1 : pieceOf N Γ0 (upd V i v) i = (nd N i).D ((nd N i).idx.map (upd V i v)) := by unfold pieceOf; rw [if_pos (by omega)]
    have e2 : ((alive N Γ0.length (isL L)).filter (fun c => !(nd N i).cons.contains c)).map (pieceOf N Γ0 (upd V i v)) = ((alive N Γ0.length (isL L)).filter (fun c => !(nd N i).cons.contains c)).map (pieceOf N Γ0 V) := by
      refine List.map_congr_left fun c hc => ?_
      unfold pieceOf
      split
      · rename_i hcN
        have := (mem_alive.1 (List.mem_filter.1 hc).1).2.1
        rcases this with h | h
        · omega
        · rw [hsame c hcN h]
      · rfl
    rw [e1, e2]
    exact this

theorem filter_le {α : Type} {p q : α → Bool} (h : ∀ x, q x = true → p x = true) : ∀ l : List α, (l.filter q).length ≤ (l.filter p).length
  | [] => Nat.le_refl _
  | x :: l => by
    have ih := filter_le h l
    by_cases hq : q x = true
    · rw [List.filter_cons_of_pos hq, List.filter_cons_of_pos (h x hq)]; simp [ih]
    · rw [List.filter_cons_of_neg hq]
      by_cases hp : p x = true
      · rw [List.filter_cons_of_pos hp]; simp; omega
      · rw [List.filter_cons_of_neg hp]; exact ih
theorem filter_lt {α : Type} {p q : α → Bool} (h : ∀ x, q x = true → p x = true) {i : α} (hp : p i = true) (hq : ¬ q i = true) : ∀ l : List α, i ∈ l → (l.filter q).length < (l.filter p).length
  | [], hi => by cases hi
  | x :: l, hi => by
    rcases List.mem_cons.1 hi with rfl | hi
    · rw [List.filter_cons_of_pos hp, List.filter_cons_of_neg hq]
      have := filter_le h l
      simp; omega
    · have ih := filter_lt h hp hq l hi
      by_cases hqx : q x = true
      · rw [List.filter_cons_of_pos hqx, List.filter_cons_of_pos (h x hqx)]; simp [ih]
      · rw [List.filter_cons_of_neg hqx]
        by_cases hpx : p x = true
        · rw [List.filter_cons_of_pos hpx]; simp; omega
        · rw [List.filter_cons_of_neg hpx]; exact ih
def cnt (k : Nat) (L : Array Bool) : Nat := ((List.range k).filter fun i => !isL L i).length
theorem cnt_set {k : Nat} {L : Array Bool} {i : Nat} (hi : i < k) (hL : i < L.size) (hun : isL L i = false) : cnt k (L.setIfInBounds i true) < cnt k L := by
  refine filter_lt (i := i) (fun x hx => ?_) ?_ ?_ _ (List.mem_range.2 hi)
  · rw [isL_set hL] at hx; simp at hx ⊢; exact hx.2
  · simp [hun]
  · rw [isL_set hL]; simp
theorem cnt_zero {k : Nat} {L : Array Bool} (h : cnt k L = 0) : ∀ i, i < k → isL L i = true := by
  intro i hi
  cases hl : isL L i with
  | true => rfl
  | false =>
    have hm : i ∈ (List.range k).filter fun i => !isL L i := List.mem_filter.2 ⟨List.mem_range.2 hi, by simp [hl]⟩
    rw [List.eq_nil_of_length_eq_zero h] at hm
    cases hm

/-- What is known behind the region: values of these operations, slots of the frame ahead of it, the pieces that are left. -/
def okEnd (ops : List Oper) (N : List Nd) (ρ0 : Env) (m : Nat) (use olds fin : List Nat) : Bool :=
  (use.all fun j => decide (j < ops.length) && (match dstOf ops j with | some t => clear1 ops N t j (fun _ => false) | none => false)) &&
  (olds.all fun t => (lk ρ0 t).isSome && clear0 ops t (fun _ => false)) &&
  (alive N m (fun c => decide (c < N.length)) == fin)

theorem env_holds {L : Array Bool} {a : Act} {w : World} {V : Nat → Value} (inv : Inv w0 n ops N ρ0 Γ0 L a w V) {late : Nat → Bool} (hlate : ∀ k, late k = true → isL L k = false) {use olds : List Nat}
    (hu : (use.all fun j => match dstOf ops j with | some t => clear1 ops N t j late | none => false) = true) (hul : ∀ j ∈ use, isL L j = true)
    (ho : (olds.all fun t => (lk ρ0 t).isSome && clear0 ops t late) = true) : Fr n a (envI ops ρ0 V use olds) := by
  refine ⟨inv.defers, inv.tsize, fun t v ht => ?_⟩
  have hlt : ∀ k, isL L k = true → k < ops.length := fun k hk => by
    unfold isL at hk
    rw [← inv.size]
    rcases Nat.lt_or_ge k L.size with h | h
    · exact h
    · simp [Array.getElem?_eq_none h] at hk
  have key : ∀ (l : List Nat) (e : Env), (∀ j ∈ l, j ∈ use) → (∀ v, lk e t = some v → a.tmps.getD t undef = v) → ∀ v, lk (l.map (fun j => ((dstOf ops j).getD 0, V j)) ++ e) t = some v → a.tmps.getD t undef = v := by
    intro l
    induction l with
    | nil => intro e _ h v hv; exact h v hv
    | cons j l ih =>
      intro e hl h v hv
      simp only [List.map_cons, List.cons_append, lk] at hv
      cases hb : Nat.beq ((dstOf ops j).getD 0) t with
      | false => rw [hb] at hv; exact ih e (fun k hk => hl k (List.mem_cons_of_mem _ hk)) h v hv
      | true =>
        rw [hb] at hv
        simp only [Option.some.injEq] at hv
        subst hv
        have hj := hl j List.mem_cons_self
        have h1 := List.all_eq_true.1 hu j hj
        cases hd : dstOf ops j with
        | none => rw [hd] at h1; cases h1
        | some s =>
          rw [hd] at h1 hb
          have hst : s = t := Nat.eq_of_beq_eq_true hb
          subst hst
          refine inv.vals j s (hul j hj) hd fun k hkj hk hkt => ?_
          have h2 := List.all_eq_true.1 h1 k (List.mem_range.2 (hlt k hk))
          simp only [Bool.or_eq_true, beq_iff_eq, Bool.not_eq_true', beq_eq_false_iff_ne, ne_eq, List.contains_eq_mem, decide_eq_true_eq] at h2
          rcases h2 with ((h2 | h2) | h2) | h2
          · exact absurd h2 hkj
          · exact absurd hkt h2
          · exact h2
          · rw [hlate k h2] at hk; cases hk
  refine key use _ (fun _ h => h) (fun u hu' => ?_) v ht
  have key2 : ∀ (l : List Nat), (∀ s ∈ l, s ∈ olds) → ∀ u, lk (l.map (fun t => (t, (lk ρ0 t).getD undef))) t = some u → a.tmps.getD t undef = u := by
    intro l
    induction l with
    | nil => intro _ u hu'; simp [lk] at hu'
    | cons s l ih =>
      intro hl u hu'
      simp only [List.map_cons, lk] at hu'
      cases hb : Nat.beq s t with
      | false => rw [hb] at hu'; exact ih (fun k hk => hl k (List.mem_cons_of_mem _ hk)) u hu'
      | true =>
        rw [hb] at hu'
        have hst : s = t := Nat.eq_of_beq_eq_true hb
        subst hst
        simp only [Option.some.injEq] at hu'
        subst hu'
        have h1 := List.all_eq_true.1 ho s (hl s List.mem_cons_self)
        simp only [Bool.and_eq_true] at h1
        cases hk : lk ρ0 s with
        | none => rw [hk] at h1; simp at h1
        | some v =>
          simp only [Option.getD_some]
          refine inv.olds s v hk fun k hkl hkt => ?_
          have h2 := List.all_eq_true.1 h1.2 k (List.mem_range.2 (hlt k hkl))
          simp only [Bool.or_eq_true, Bool.not_eq_true', beq_eq_false_iff_ne, ne_eq] at h2
          rcases h2 with h2 | h2
          · exact h2 hkt
          · rw [hlate k h2] at hkl; cases hkl
  exact key2 olds (fun _ h => h) u hu'

theorem wc_flow {rid : Nat} {Q : Exit → Act → World → Prop} (use olds fin : List Nat) (hm : P.follows .mixedOrders = true) (hok : okFrom ops N ρ0 Γ0.length n 0 ops N = true) (hfin : okEnd ops N ρ0 Γ0.length use olds fin = true)
    (hobl : OblFrom P w0 n ops N ρ0 Γ0 0 ops N)
    (hend : ∀ V : Nat → Value, (∀ i, i < N.length → (nd N i).K ((nd N i).idx.map V)) → Dn w0 n Q .normal (envI ops ρ0 V use olds) (fin.map (pieceOf N Γ0 V))) : WC P w0 n (.region rid ops.toArray true) Q ρ0 Γ0 := by
  intro a w hF hS
  obtain ⟨hlen, hnode⟩ := okFrom_get hok
  have hob := OblFrom_get hobl
  simp only [Nat.zero_add] at hnode hob
  -- what the checks say
  have hidx : ∀ c, c < N.length → ∀ j ∈ (nd N c).idx, j = c ∨ j ∈ (nd N c).bef := fun c hc j hj => by
    have h := hnode c ops[c] (List.getElem?_eq_getElem (by omega))
    simp only [okNode, Bool.and_eq_true] at h
    have := List.all_eq_true.1 h.1.1.1.1.1.1.2 j hj
    simpa using this
  have hconsAll : ∀ k, k < N.length → ∀ c ∈ (nd N k).cons ++ (nd N k).rds, (N.length ≤ c ∧ c < N.length + Γ0.length) ∨ c ∈ (nd N k).bef := fun k hk c hc => by
    have h := hnode k ops[k] (List.getElem?_eq_getElem (by omega))
    simp only [okNode, Bool.and_eq_true] at h
    have := List.all_eq_true.1 h.1.1.1.1.1.2 c hc
    simpa using this
  have hedge : ∀ i o, ops[i]? = some o → ∀ e ∈ o.after, Region.binds .any e = true → e.on < i := fun i o ho e he hb => by
    have h := hnode i o ho
    simp only [okNode, Bool.and_eq_true] at h
    have := Array.all_eq_true_iff_forall_mem.1 h.1.1.1.1.1.1.1.1.1.1.1 e he
    simpa [hb] using this
  have hbef : ∀ i o, ops[i]? = some o → ∀ j ∈ (nd N i).bef, ∃ e ∈ o.after, Region.binds .any e = true ∧ (e.on = j ∨ j ∈ (nd N e.on).bef) := fun i o ho j hj => by
    have h := hnode i o ho
    simp only [okNode, Bool.and_eq_true] at h
    have := List.all_eq_true.1 h.1.1.1.1.1.1.1.1.1.1.2 j hj
    obtain ⟨e, he, hh⟩ := Array.any_eq_true'.1 this
    simp only [Bool.and_eq_true, Bool.or_eq_true, beq_iff_eq, List.contains_eq_mem, decide_eq_true_eq] at hh
    exact ⟨e, he, hh.1, hh.2⟩
  refine wp_region_any hm ?_
  have key : ∀ (fuel : Nat) (L : Array Bool) (a : Act) (w : World) (V : Nat → Value), Inv w0 n ops N ρ0 Γ0 L a w V → cnt ops.length L ≤ fuel → wpAny P .any ops.toArray Q fuel L a w := by
    intro fuel
    have hdone : ∀ (L : Array Bool) (a : Act) (w : World) (V : Nat → Value), Inv w0 n ops N ρ0 Γ0 L a w V → (∀ i, i < ops.length → isL L i = true) → Q .normal a w := by
      intro L a w V inv hall
      simp only [okEnd, Bool.and_eq_true] at hfin
      have h1 : (use.all fun j => match dstOf ops j with | some t => clear1 ops N t j (fun _ => false) | none => false) = true := List.all_eq_true.2 fun j hj => by
        have := List.all_eq_true.1 hfin.1.1 j hj
        simp only [Bool.and_eq_true] at this
        exact this.2
      have hf := env_holds inv (late := fun _ => false) (fun k h => by cases h) h1 (fun j hj => by
        have := List.all_eq_true.1 hfin.1.1 j hj
        simp only [Bool.and_eq_true, decide_eq_true_eq] at this
        exact hall j this.1) hfin.1.2
      refine hend V (fun i hi => inv.facts i hi (hall i (by omega))) a w hf ?_
      have e : alive N Γ0.length (isL L) = fin := by
        rw [← eq_of_beq hfin.2]
        unfold alive
        refine List.filter_congr fun c hc => ?_
        have h3 : ∀ k, k < N.length → isL L k = true := fun k hk => hall k (by omega)
        have h4 : ((List.range N.length).all fun k => !isL L k || !(nd N k).cons.contains c) = ((List.range N.length).all fun k => !decide (k < N.length) || !(nd N k).cons.contains c) := by
          rw [Bool.eq_iff_iff, List.all_eq_true, List.all_eq_true]
          refine forall_congr' fun k => ?_
          rw [List.mem_range]
          refine forall_congr' fun hk => ?_
          rw [h3 k hk, decide_eq_true hk]
        rw [h4]
        congr 1
        by_cases hcN : c < N.length
        · show (decide (N.length ≤ c) || isL L c) = (decide (N.length ≤ c) || decide (c < N.length))
          rw [h3 c hcN, decide_eq_true hcN]
        · show (decide (N.length ≤ c) || isL L c) = (decide (N.length ≤ c) || decide (c < N.length))
          rw [decide_eq_true (show N.length ≤ c by omega)]; rfl
      have hs := inv.sat
      rw [e] at hs
      exact hs
    induction fuel with
    | zero =>
      intro L a w V inv hc
      have hall := cnt_zero (Nat.le_zero.1 hc)
      refine ⟨?_, hdone L a w V inv hall⟩
      cases hr : Region.ready .any ops.toArray L with
      | nil => rfl
      | cons x xs =>
        have hx : x ∈ Region.ready .any ops.toArray L := by rw [hr]; exact List.mem_cons_self
        obtain ⟨h1, o, ho, _⟩ := mem_ready.1 hx
        have hxl : x < ops.length := by
          have := (Array.getElem?_eq_some_iff.1 ho).1
          simpa using this
        have := hall x hxl
        unfold isL at this
        rw [getD_both h1] at this
        cases this
    | succ fuel ih =>
      intro L a w V inv hc
      refine ⟨fun hr => ?_, fun i hi => ?_⟩
      · refine hdone L a w V inv ?_
        intro i
        induction i using Nat.strongRecOn with
        | _ i ihi =>
          intro hi
          cases hl : isL L i with
          | true => rfl
          | false =>
            have : i ∈ Region.ready .any ops.toArray L := by
              refine mem_ready.2 ⟨?_, ops[i], by simp [hi], fun e he hb => ?_⟩
              · exact getD_in (by rw [inv.size]; exact hi) hl
              · have hlt := hedge i ops[i] (List.getElem?_eq_getElem hi) e he hb
                exact ihi e.on hlt (by omega)
            rw [hr] at this
            cases this
      · obtain ⟨h1, o, ho, hall⟩ := mem_ready.1 hi
        have ho' : ops[i]? = some o := by simpa using ho
        have hun : isL L i = false := getD_both h1
        have hilt : i < ops.length := (List.getElem?_eq_some_iff.1 ho').1
        have hpre : ∀ j ∈ (nd N i).bef, isL L j = true := fun j hj => by
          obtain ⟨e, he, hb, hh⟩ := hbef i o ho' j hj
          have hel : isL L e.on = true := hall e he hb
          rcases hh with rfl | hh
          · exact hel
          · exact inv.closed _ hel j hh
        have hc' : cnt ops.length (L.setIfInBounds i true) ≤ fuel := by
          have := cnt_set hilt (by rw [inv.size]; exact hilt) hun
          omega
        have hn := hnode i o ho'
        simp only [okNode, Bool.and_eq_true] at hn
        obtain ⟨⟨⟨⟨⟨⟨⟨⟨⟨⟨⟨c1, c2⟩, c3⟩, c4⟩, c5⟩, c6⟩, c7⟩, c8⟩, c9⟩, c10⟩, c11⟩, c12⟩ := hn
        have hd : ∀ t, o.dst = some t → t < n := fun t ht => by rw [ht] at c11; simpa using c11
        have hcons : ∀ c ∈ (nd N i).cons, N.length ≤ c ∨ c ∈ (nd N i).bef := fun c hc => (hconsAll i (by omega) c (List.mem_append_left _ hc)).imp (·.1) id
        have hlate : ∀ k, ((nd N k).bef.contains i || k == i) = true → isL L k = false := fun k hk => by
          cases hl : isL L k with
          | false => rfl
          | true =>
            simp only [Bool.or_eq_true, List.contains_eq_mem, decide_eq_true_eq, beq_iff_eq] at hk
            rcases hk with hk | rfl
            · rw [inv.closed k hl i hk] at hun; cases hun
            · rw [hl] at hun; cases hun
        obtain ⟨hguard, hrun⟩ := hob i o ho' V (fun j hj => by
          have hjb := List.all_eq_true.1 c5 j hj
          simp only [List.contains_eq_mem, decide_eq_true_eq] at hjb
          have hjl := hpre j hjb
          have hjN : j < N.length := by
            have : isL L j = true := hjl
            unfold isL at this
            rcases Nat.lt_or_ge j L.size with h | h
            · rw [inv.size] at h; omega
            · simp [Array.getElem?_eq_none h] at this
          exact inv.facts j hjN hjl)
        have hwant : Region.wanted o (yielded ops.toArray a.tmps) = (nd N i).run := by
          unfold Region.wanted
          cases hg : o.guard with
          | none =>
            rw [hg] at c10
            simp only at c10 ⊢
            exact c10.symm
          | some gw =>
            obtain ⟨g, want⟩ := gw
            rw [hg] at c10
            simp only [Bool.and_eq_true, List.contains_eq_mem, decide_eq_true_eq] at c10
            cases hdg : dstOf ops g with
            | none => rw [hdg] at c10; simp at c10
            | some t =>
              rw [hdg] at c10
              simp only [Bool.and_eq_true, decide_eq_true_eq] at c10
              have hval : a.tmps.getD t undef = V g := by
                refine inv.vals g t (hpre g c10.1.1) hdg fun k hkg hk hkt => ?_
                have hkl : k < ops.length := by
                  unfold isL at hk
                  rw [← inv.size]
                  rcases Nat.lt_or_ge k L.size with h | h
                  · exact h
                  · simp [Array.getElem?_eq_none h] at hk
                have h2 := List.all_eq_true.1 c10.2.2 k (List.mem_range.2 hkl)
                rw [Bool.or_eq_true] at h2
                rcases h2 with h2 | h2
                · simp only [Bool.or_eq_true, beq_iff_eq, Bool.not_eq_true', beq_eq_false_iff_ne, ne_eq, List.contains_eq_mem, decide_eq_true_eq] at h2
                  rcases h2 with (h2 | h2) | h2
                  · exact absurd h2 hkg
                  · exact absurd hkt h2
                  · exact h2
                · rw [hlate k (by simpa using h2)] at hk; cases hk
              have hy : yielded ops.toArray a.tmps g = match V g with | .bool b => some b | _ => none := by
                have h5 : (ops.toArray[g]?).bind (·.dst) = some t := by simpa [dstOf] using hdg
                have h6 : a.tmps[t]? = some (V g) := by
                  have : t < a.tmps.size := by rw [inv.tsize]; exact c10.2.1
                  rw [Array.getElem?_eq_getElem this]
                  rw [Array.getD_eq_getD_getElem?, Array.getElem?_eq_getElem this] at hval
                  simpa using hval
                unfold yielded
                rw [h5]
                simp only [Option.bind_some, h6]
                cases V g <;> rfl
              have := hguard g want hg
              rw [Bool.eq_iff_iff, beq_iff_eq, hy, ← this]
              cases V g <;> simp
        show wpOp P ops.toArray Q i (wpAny P .any ops.toArray Q fuel (L.setIfInBounds i true)) a w
        unfold wpOp
        simp only [ho]
        rw [hwant]
        by_cases hr : (nd N i).run = true
        · rw [if_pos hr] at hrun ⊢
          refine .inl ?_
          have hF := env_holds inv hlate (use := (nd N i).use) (olds := (nd N i).olds) (List.all_eq_true.2 fun j hj => by
              have := List.all_eq_true.1 c3 j hj
              simp only [Bool.and_eq_true] at this
              exact this.2) (fun j hj => by
              have := List.all_eq_true.1 c3 j hj
              simp only [Bool.and_eq_true, List.contains_eq_mem, decide_eq_true_eq] at this
              exact hpre j this.1) c4
          have hsub : ∀ c ∈ (nd N i).cons ++ (nd N i).rds, c ∈ alive N Γ0.length (isL L) := fun c hc => by
            refine mem_alive.2 ?_
            have h5 := hconsAll i (by omega) c hc
            refine ⟨?_, ?_, fun k hk hl hck => ?_⟩
            · rcases h5 with h | h
              · exact h.2
              · have := hpre c h
                unfold isL at this
                rcases Nat.lt_or_ge c L.size with h' | h'
                · rw [inv.size] at h'; omega
                · simp [Array.getElem?_eq_none h'] at this
            · rcases h5 with h | h
              · exact .inl h.1
              · exact .inr (hpre c h)
            · have hki : k ≠ i := fun e => by subst e; rw [hl] at hun; cases hun
              rcases List.mem_append.1 hc with hci | hri
              · have h6 := List.all_eq_true.1 c9 k (List.mem_range.2 hk)
                simp only [Bool.or_eq_true, beq_iff_eq] at h6
                rcases h6 with h6 | h6
                · exact hki h6
                · have := List.all_eq_true.1 h6 c hci
                  simp only [Bool.and_eq_true, Bool.not_eq_true', List.contains_eq_mem, decide_eq_false_iff_not] at this
                  exact this.1 hck
              · have hnk := hnode k ops[k] (List.getElem?_eq_getElem (by omega))
                simp only [okNode, Bool.and_eq_true] at hnk
                have h6 := List.all_eq_true.1 hnk.1.1.1.2 i (List.mem_range.2 (by omega))
                simp only [Bool.or_eq_true, beq_iff_eq] at h6
                rcases h6 with h6 | h6
                · exact hki h6.symm
                · have := List.all_eq_true.1 h6 c hck
                  simp only [Bool.and_eq_true, Bool.or_eq_true, Bool.not_eq_true', List.contains_eq_mem, decide_eq_false_iff_not, decide_eq_true_eq] at this
                  rcases this.2 with h7 | h7
                  · exact h7 hri
                  · rw [inv.closed k hl i h7] at hun; cases hun
          have hnd : ((nd N i).cons ++ (nd N i).rds).Nodup := by simpa using c8
          have hperm : (alive N Γ0.length (isL L)).Perm ((nd N i).cons ++ ((nd N i).rds ++ (alive N Γ0.length (isL L)).filter (fun c => !((nd N i).cons ++ (nd N i).rds).contains c))) := by
            rw [← List.append_assoc]
            refine (List.perm_ext_iff_of_nodup alive_nodup (List.nodup_append.2 ⟨hnd, List.Pairwise.filter _ alive_nodup, fun x hx y hy => ?_⟩)).2 fun c => ?_
            · rintro rfl
              have := (List.mem_filter.1 hy).2
              simp only [Bool.not_eq_true', List.contains_eq_mem, decide_eq_false_iff_not] at this
              exact this hx
            · rw [List.mem_append, List.mem_filter]
              constructor
              · intro hc
                by_cases h : c ∈ (nd N i).cons ++ (nd N i).rds
                · exact .inl h
                · exact .inr ⟨hc, by simpa using h⟩
              · rintro (h | h)
                · exact hsub c h
                · exact h.1
          have hS1 : Sat w0 (((nd N i).cons ++ (nd N i).rds).map (pieceOf N Γ0 V) ++ ((alive N Γ0.length (isL L)).filter (fun c => !((nd N i).cons ++ (nd N i).rds).contains c)).map (pieceOf N Γ0 V)) w := by
            have := inv.sat.perm (hperm.map (pieceOf N Γ0 V))
            simpa using this
          refine hrun _ a w hF hS1 _ _ _ _ _ _ fun v w' hR => ?_
          obtain ⟨hK, hS2⟩ := hR
          refine ih _ _ _ (upd V i v) (inv.step hlen ho' hun hpre hidx hd hcons (fun k hk _ c hc => (hconsAll k hk c (List.mem_append_left _ hc)).imp (·.1) id) hK ?_) hc'
          have hp2 : ((nd N i).rds ++ (alive N Γ0.length (isL L)).filter (fun c => !((nd N i).cons ++ (nd N i).rds).contains c)).Perm ((alive N Γ0.length (isL L)).filter (fun c => !(nd N i).cons.contains c)) := by
            have hnd2 := List.nodup_append.1 hnd
            refine (List.perm_ext_iff_of_nodup (List.nodup_append.2 ⟨hnd2.2.1, List.Pairwise.filter _ alive_nodup, fun x hx y hy => ?_⟩) (List.Pairwise.filter _ alive_nodup)).2 fun c => ?_
            · rintro rfl
              have := (List.mem_filter.1 hy).2
              simp only [Bool.not_eq_true', List.contains_eq_mem, decide_eq_false_iff_not, List.mem_append, not_or] at this
              exact this.2 hx
            · simp only [List.mem_append, List.mem_filter, Bool.not_eq_true', List.contains_eq_mem, decide_eq_false_iff_not, not_or]
              constructor
              · rintro (h | ⟨h, h2, _⟩)
                · exact ⟨hsub c (List.mem_append_right _ h), fun hc => hnd2.2.2 c hc c h rfl⟩
                · exact ⟨h, h2⟩
              · rintro ⟨h, h2⟩
                by_cases hr : c ∈ (nd N i).rds
                · exact .inl hr
                · exact .inr ⟨h, h2, hr⟩
          refine hS2.perm (List.Perm.cons _ ?_)
          rw [← List.map_append]
          exact hp2.map _
        · rw [if_neg hr] at hrun ⊢
          have hcn : (nd N i).cons = [] := by
            cases hcs : (nd N i).cons with
            | nil => rfl
            | cons x xs => rw [hcs] at c12; simp at c12; exact absurd c12 hr
          refine ih _ _ _ (upd V i undef) (inv.step hlen ho' hun hpre hidx hd hcons (fun k hk _ c hc => (hconsAll k hk c (List.mem_append_left _ hc)).imp (·.1) id) hrun.1 ?_) hc'
          rw [hcn]
          have hfil : (alive N Γ0.length (isL L)).filter (fun c => !([] : List Nat).contains c) = alive N Γ0.length (isL L) := List.filter_eq_self.2 fun c _ => by simp
          rw [hfil]
          exact inv.sat.with_none.head fun h _ => hrun.2 h
  have hL0 : ∀ i, isL (Array.replicate ops.length false) i = false := fun i => getD_replicate_false _ _
  refine key ops.toArray.size _ a w.drew (fun _ => undef) ⟨by simp, fun i hi => by simp [hL0] at hi, hF.defers, hF.size, fun j t hj => by simp [hL0] at hj, fun t v ht _ => hF.holds t v ht, fun j _ hj => by simp [hL0] at hj, ?_⟩ ?_
  · have e : (alive N Γ0.length (isL (Array.replicate ops.toArray.size false))).map (pieceOf N Γ0 fun _ => undef) = Γ0 := by
      have h1 : alive N Γ0.length (isL (Array.replicate ops.toArray.size false)) = (List.range Γ0.length).map (N.length + ·) := by
        unfold alive
        have h2 : ∀ c, ((decide (N.length ≤ c) || isL (Array.replicate ops.toArray.size false) c) && (List.range N.length).all fun k => !isL (Array.replicate ops.toArray.size false) k || !(nd N k).cons.contains c) = decide (N.length ≤ c) := fun c => by
          simp [hL0]
        rw [List.filter_congr fun c _ => h2 c, List.range_add, List.filter_append]
        have h3 : (List.range N.length).filter (fun c => decide (N.length ≤ c)) = [] := List.filter_eq_nil_iff.2 fun c hc => by simp at hc ⊢; omega
        have h4 : ((List.range Γ0.length).map (N.length + ·)).filter (fun c => decide (N.length ≤ c)) = (List.range Γ0.length).map (N.length + ·) := List.filter_eq_self.2 fun c hc => by
          obtain ⟨k, _, rfl⟩ := List.mem_map.1 hc
          simp
        rw [h3, h4, List.nil_append]
      rw [h1, List.map_map]
      refine List.ext_getElem (by simp) fun i h5 h6 => ?_
      simp only [List.getElem_map, List.getElem_range, Function.comp_apply, pieceOf]
      rw [if_neg (by omega), Nat.add_sub_cancel_left]
      simp [List.getD, h6]
    rw [e]
    exact hS.drew
  · exact Nat.le_trans (List.length_filter_le _ _) (by simp)
end
end Go.Toll
