/- Steps of a call, one lemma for each kind of operation and of code, over the pieces of the heap that the call owns. Plain lemmas; no program in sight. -/
import Derived.Test.YthcejmfaiekbeaaRRSl
set_option linter.unusedVariables false
set_option linter.unusedSimpArgs false
namespace Go.Toll
open Go.RowKit

/-! ### Slots -/
abbrev Env := List (Nat × Value)
def lk : Env → Nat → Option Value
  | [], _ => none
  | (t, v) :: ρ, s => match Nat.beq t s with
    | true => some v
    | false => lk ρ s
def ev (ρ : Env) : Operand → Option Value
  | .tmp t => lk ρ t
  | .const v => some v
  | .global g => some (.pointer (some ⟨g, 0, none⟩))
  | .func f => some (.func (.func f) #[] #[])

/-- The act has n slots, no deferred calls, and holds what ρ says. -/
structure Fr (n : Nat) (a : Act) (ρ : Env) : Prop where
  defers : a.defers = []
  size : a.tmps.size = n
  holds : ∀ t v, lk ρ t = some v → a.tmps.getD t undef = v

theorem Fr.evl {n : Nat} {a : Act} {ρ : Env} (h : Fr n a ρ) {x : Operand} {v : Value} (hx : ev ρ x = some v) : a.eval x = v := by
  cases x with
  | tmp t => exact h.holds t v hx
  | const u => exact Option.some.inj hx
  | global g => exact Option.some.inj hx
  | func f => exact Option.some.inj hx

theorem Fr.put {n : Nat} {a : Act} {ρ : Env} (h : Fr n a ρ) {d : Nat} (hd : Nat.blt d n = true) (v : Value) : Fr n (a.put (some d) v) ((d, v) :: ρ) := by
  refine ⟨h.defers, by simp [Act.put, h.size], fun t u ht => ?_⟩
  have hd' : d < a.tmps.size := by rw [h.size]; exact Nat.blt_eq ▸ hd
  simp only [lk] at ht
  cases e : Nat.beq d t with
  | true =>
    rw [e] at ht
    have e1 : d = t := Nat.eq_of_beq_eq_true e
    subst e1
    simp only [Option.some.injEq] at ht
    subst ht
    simp [Act.put, hd']
  | false =>
    rw [e] at ht
    have e1 : d ≠ t := fun e2 => by subst e2; rw [Nat.beq_refl] at e; cases e
    have := h.holds t u ht
    simpa [Act.put, Array.getElem?_setIfInBounds_ne e1] using this
theorem Fr.none {n : Nat} {a : Act} {ρ : Env} (h : Fr n a ρ) (v : Value) : Fr n (a.put none v) ρ := h

/-- ρ says all that ρ' says. -/
def Sub (ρ : Env) : Env → Prop
  | [] => True
  | (t, v) :: ρ' => lk ρ t = some v ∧ Sub ρ ρ'
theorem Sub.lk {ρ : Env} : ∀ {ρ' : Env}, Sub ρ ρ' → ∀ {t : Nat} {v : Value}, lk ρ' t = some v → lk ρ t = some v
  | [], _, _, _, h => by simp [Toll.lk] at h
  | (s, u) :: ρ', hs, t, v, h => by
    simp only [Toll.lk] at h
    cases e : Nat.beq s t with
    | true =>
      rw [e] at h
      have e1 : s = t := Nat.eq_of_beq_eq_true e
      subst e1
      simp only [Option.some.injEq] at h
      subst h
      exact hs.1
    | false =>
      rw [e] at h
      exact Sub.lk hs.2 h
theorem Fr.sub {n : Nat} {a : Act} {ρ ρ' : Env} (h : Fr n a ρ) (hs : Sub ρ ρ') : Fr n a ρ' := ⟨h.defers, h.size, fun _ _ ht => h.holds _ _ (hs.lk ht)⟩
theorem lk_int {ρ : Env} {t : Nat} {k : IntKind} {x y : Int} (h : lk ρ t = some (.int k x)) (e : x = y) : lk ρ t = some (.int k y) := e ▸ h
theorem lk_eq {ρ : Env} {t : Nat} {x y : Value} (h : lk ρ t = some x) (e : x = y) : lk ρ t = some y := e ▸ h

def envOf : Nat → List Value → Env
  | _, [] => []
  | k, v :: vs => (k, v) :: envOf (k + 1) vs
theorem lk_envOf : ∀ (vs : List Value) (k t : Nat) (v : Value), lk (envOf k vs) t = some v → k ≤ t ∧ vs[t - k]? = some v
  | [], k, t, v, h => by simp [envOf, lk] at h
  | u :: vs, k, t, v, h => by
    simp only [envOf, lk] at h
    cases e : Nat.beq k t with
    | true =>
      rw [e] at h
      have e1 : k = t := Nat.eq_of_beq_eq_true e
      subst e1
      simpa using h
    | false =>
      rw [e] at h
      have e1 : k ≠ t := fun e2 => by subst e2; rw [Nat.beq_refl] at e; cases e
      have := lk_envOf vs (k + 1) t v h
      refine ⟨by omega, ?_⟩
      rw [show t - k = (t - (k + 1)) + 1 by omega]
      simpa using this.2

/-! ### Judgements -/
section
variable (P : Program) (w0 : World) (n : Nat)
def WC (c : Code) (Q : Exit → Act → World → Prop) (ρ : Env) (Γ : List HP) : Prop := ∀ a w, Fr n a ρ → Sat w0 Γ w → c.wp P Q a w
def WL (ops : Array Oper) (rest : List Oper) (Q : Exit → Act → World → Prop) (ρ : Env) (Γ : List HP) : Prop := ∀ a w, Fr n a ρ → Sat w0 Γ w → wpList P ops Q rest a w
def Dn (Q : Exit → Act → World → Prop) (e : Exit) (ρ : Env) (Γ : List HP) : Prop := ∀ a w, Fr n a ρ → Sat w0 Γ w → Q e a w
/-- The operation yields a value and leaves a world of which R holds. -/
def Ow (op : Op) (ty : TypeId) (ρ : Env) (Γ : List HP) (R : Value → World → Prop) : Prop :=
  ∀ (a : Act) (w : World), Fr n a ρ → Sat w0 Γ w → ∀ (dst : Option Tmp) (pos : String) (af : Array Edge) (g : Option (Nat × Bool)) (K : Act → World → Prop) (Q : Exit → Act → World → Prop),
    (∀ v w', R v w' → K (a.put dst v) w') → (Oper.mk dst op ty pos af g).wp P a w K Q
end
/-- This value, these pieces. -/
def Det (w0 : World) (v : Value) (Γ : List HP) : Value → World → Prop := fun v' w => v' = v ∧ Sat w0 Γ w
/-- For some x of which p holds: the value F x, the pieces Γ x. -/
def Some_ (w0 : World) {α : Type} (p : α → Prop) (F : α → Value) (Γ : α → List HP) : Value → World → Prop := fun v w => ∃ x, p x ∧ v = F x ∧ Sat w0 (Γ x) w

section
variable {P : Program} {w0 : World} {n : Nat}

/-! ### Code -/
theorem wc_seq {c d : Code} {Q : Exit → Act → World → Prop} {ρ : Env} {Γ : List HP} (h : WC P w0 n c (Exit.then (d.wp P Q) Q) ρ Γ) : WC P w0 n (c.seq d) Q ρ Γ :=
  fun a w hF hS => wp_seq (h a w hF hS)
theorem wc_block {id : Nat} {c : Code} {Q : Exit → Act → World → Prop} {ρ : Env} {Γ : List HP} (h : WC P w0 n c (Exit.inBlock id Q) ρ Γ) : WC P w0 n (.block id c) Q ρ Γ :=
  fun a w hF hS => wp_block (h a w hF hS)
theorem wc_skip {Q : Exit → Act → World → Prop} {ρ : Env} {Γ : List HP} (h : Dn w0 n Q .normal ρ Γ) : WC P w0 n .skip Q ρ Γ := fun a w hF hS => wp_skip (h a w hF hS)
theorem wc_exit {id : Nat} {Q : Exit → Act → World → Prop} {ρ : Env} {Γ : List HP} (h : Dn w0 n Q (.exit id) ρ Γ) : WC P w0 n (.exit id) Q ρ Γ := fun a w hF hS => wp_exit (h a w hF hS)
theorem wc_ret {Q : Exit → Act → World → Prop} {ρ : Env} {Γ : List HP} (h : Dn w0 n Q .ret ρ Γ) : WC P w0 n .ret Q ρ Γ := fun a w hF hS => wp_ret (h a w hF hS)
theorem wc_region {id : Nat} {l : List Oper} {Q : Exit → Act → World → Prop} {ρ : Env} {Γ : List HP} (h : WL P w0 n l.toArray l Q ρ Γ) : WC P w0 n (.region id l.toArray false) Q ρ Γ :=
  fun a w hF hS => wp_region_lit (h a w hF hS)
theorem wc_cond {x : Operand} {c d : Code} {Q : Exit → Act → World → Prop} {ρ : Env} {Γ : List HP} {b : Bool} (hx : ev ρ x = some (.bool b)) (h1 : b = true → WC P w0 n c Q ρ Γ) (h2 : b = false → WC P w0 n d Q ρ Γ) : WC P w0 n (.cond x c d) Q ρ Γ :=
  fun a w hF hS => wp_cond_split (hF.evl hx) (fun h => h1 h a w hF hS) (fun h => h2 h a w hF hS)
theorem wc_cond_true {x : Operand} {c d : Code} {Q : Exit → Act → World → Prop} {ρ : Env} {Γ : List HP} {b : Bool} (hx : ev ρ x = some (.bool b)) (hb : b = true) (h1 : WC P w0 n c Q ρ Γ) : WC P w0 n (.cond x c d) Q ρ Γ :=
  wc_cond hx (fun _ => h1) (fun h => by rw [hb] at h; cases h)
theorem wc_cond_false {x : Operand} {c d : Code} {Q : Exit → Act → World → Prop} {ρ : Env} {Γ : List HP} {b : Bool} (hx : ev ρ x = some (.bool b)) (hb : b = false) (h1 : WC P w0 n d Q ρ Γ) : WC P w0 n (.cond x c d) Q ρ Γ :=
  wc_cond hx (fun h => by rw [hb] at h; cases h) (fun _ => h1)
/-- Only what is told need be known from here on. -/
theorem wc_weak {c : Code} {Q : Exit → Act → World → Prop} {ρ ρ' : Env} {Γ Γ' : List HP} (h : WC P w0 n c Q ρ' Γ') (hs : Sub ρ ρ') (hΓ : ∀ w, Sat w0 Γ w → Sat w0 Γ' w) : WC P w0 n c Q ρ Γ :=
  fun a w hF hS => h a w (hF.sub hs) (hΓ w hS)
theorem wl_weak {ops : Array Oper} {l : List Oper} {Q : Exit → Act → World → Prop} {ρ ρ' : Env} {Γ Γ' : List HP} (h : WL P w0 n ops l Q ρ' Γ') (hs : Sub ρ ρ') (hΓ : ∀ w, Sat w0 Γ w → Sat w0 Γ' w) : WL P w0 n ops l Q ρ Γ :=
  fun a w hF hS => h a w (hF.sub hs) (hΓ w hS)
theorem wl_pieces {ops : Array Oper} {l : List Oper} {Q : Exit → Act → World → Prop} {ρ : Env} {Γ Γ' : List HP} (hΓ : ∀ w, Sat w0 Γ w → Sat w0 Γ' w) (h : WL P w0 n ops l Q ρ Γ') : WL P w0 n ops l Q ρ Γ :=
  fun a w hF hS => h a w hF (hΓ w hS)
theorem wc_pieces {c : Code} {Q : Exit → Act → World → Prop} {ρ : Env} {Γ Γ' : List HP} (hΓ : ∀ w, Sat w0 Γ w → Sat w0 Γ' w) (h : WC P w0 n c Q ρ Γ') : WC P w0 n c Q ρ Γ :=
  fun a w hF hS => h a w hF (hΓ w hS)
/-- A fact that the pieces give. -/
theorem wl_fact {ops : Array Oper} {l : List Oper} {Q : Exit → Act → World → Prop} {ρ : Env} {Γ : List HP} {p : Prop} (hp : ∀ w, Sat w0 Γ w → p) (h : p → WL P w0 n ops l Q ρ Γ) : WL P w0 n ops l Q ρ Γ :=
  fun a w hF hS => h (hp w hS) a w hF hS
theorem wc_fact {c : Code} {Q : Exit → Act → World → Prop} {ρ : Env} {Γ : List HP} {p : Prop} (hp : ∀ w, Sat w0 Γ w → p) (h : p → WC P w0 n c Q ρ Γ) : WC P w0 n c Q ρ Γ :=
  fun a w hF hS => h (hp w hS) a w hF hS

theorem wp_loopN {c : Code} {Q : Exit → Act → World → Prop} (I : Nat → Act → World → Prop) (round : ∀ m a w, I m a w → c.wp P (Exit.then (fun a' w' => ∃ m', m' < m ∧ I m' a' w') Q) a w) {m : Nat} {a : Act} {w : World} (h₀ : I m a w) : (Code.loop c).wp P Q a w := by
  intro b k cs
  have key : ∀ m a w, I m a w →
      ∃ e a' w', Q e a' w' ∧ Arrives P (lone (b.at a (.code c :: .inLoop c :: k)) cs w) b k cs e a' w' := by
    intro m
    induction m using Nat.strongRecOn with
    | _ m ih =>
      intro a w hI
      obtain ⟨e, a₁, w₁, hq, harr⟩ := round m a w hI b (.inLoop c :: k) cs
      cases e with
      | normal =>
        obtain ⟨m', hlt, hI₁⟩ := hq
        obtain ⟨e₂, a₂, w₂, hq₂, harr₂⟩ := ih m' hlt a₁ w₁ hI₁
        exact ⟨e₂, a₂, w₂, hq₂, .of_steps (Steps.trans harr (.one step_inLoop)) harr₂⟩
      | exit id => exact ⟨_, a₁, w₁, hq, .pass (x := .inLoop c) rfl (fun _ _ => .inl (by simp)) harr⟩
      | goto l => exact ⟨_, a₁, w₁, hq, .pass (x := .inLoop c) rfl (fun _ _ => .inl (by simp)) harr⟩
      | ret => exact ⟨_, a₁, w₁, hq, .pass (x := .inLoop c) rfl (fun _ _ => .inl (by simp)) harr⟩
      | panic ch => exact ⟨_, a₁, w₁, hq, .pass (x := .inLoop c) rfl (fun _ _ => .inl (by simp)) harr⟩
      | outgrown => exact ⟨_, a₁, w₁, hq, .pass (x := .inLoop c) rfl (fun _ _ => .inl (by simp)) harr⟩
  obtain ⟨e, a', w', hq, harr⟩ := key m a w h₀
  exact ⟨e, a', w', hq, .of_steps (.one step_loop) harr⟩

/-- At a loop's head: some x of which p holds, the slots ρI x, the pieces ΓI x; the measure μ x. -/
def AtHead (w0 : World) (n : Nat) {α : Type} (p : α → Prop) (ρI : α → Env) (ΓI : α → List HP) (μ : α → Nat) (m : Nat) (a : Act) (w : World) : Prop := ∃ x, p x ∧ μ x = m ∧ Fr n a (ρI x) ∧ Sat w0 (ΓI x) w
def Back (w0 : World) (n : Nat) {α : Type} (p : α → Prop) (ρI : α → Env) (ΓI : α → List HP) (μ : α → Nat) (m : Nat) (a : Act) (w : World) : Prop := ∃ m', m' < m ∧ AtHead w0 n p ρI ΓI μ m' a w
theorem wc_loop {α : Type} (p : α → Prop) (ρI : α → Env) (ΓI : α → List HP) (μ : α → Nat) {c : Code} {Q : Exit → Act → World → Prop} {ρ : Env} {Γ : List HP}
    (x0 : α) (h0 : p x0) (hs : Sub ρ (ρI x0)) (hΓ : ∀ w, Sat w0 Γ w → Sat w0 (ΓI x0) w)
    (round : ∀ x, p x → WC P w0 n c (Exit.then (Back w0 n p ρI ΓI μ (μ x)) Q) (ρI x) (ΓI x)) : WC P w0 n (.loop c) Q ρ Γ := by
  intro a w hF hS
  refine wp_loopN (AtHead w0 n p ρI ΓI μ) ?_ (m := μ x0) ⟨x0, h0, rfl, hF.sub hs, hΓ w hS⟩
  rintro m a w ⟨x, hp, rfl, hF, hS⟩
  exact round x hp a w hF hS
theorem dn_back {α : Type} {p : α → Prop} {ρI : α → Env} {ΓI : α → List HP} {μ : α → Nat} {Q : Exit → Act → World → Prop} {ρ : Env} {Γ : List HP} {m : Nat}
    (x : α) (hp : p x) (hμ : μ x < m) (hs : Sub ρ (ρI x)) (hΓ : ∀ w, Sat w0 Γ w → Sat w0 (ΓI x) w) : Dn w0 n (Exit.then (Back w0 n p ρI ΓI μ m) Q) .normal ρ Γ :=
  fun _ w hF hS => ⟨μ x, hμ, x, hp, rfl, hF.sub hs, hΓ w hS⟩

/-! ### What follows -/
theorem dn_seq {c : Code} {Q : Exit → Act → World → Prop} {ρ : Env} {Γ : List HP} (h : WC P w0 n c Q ρ Γ) : Dn w0 n (Exit.then (c.wp P Q) Q) .normal ρ Γ := fun a w hF hS => h a w hF hS
theorem dn_then_exit {N : Act → World → Prop} {Q : Exit → Act → World → Prop} {ρ : Env} {Γ : List HP} {id : Nat} (h : Dn w0 n Q (.exit id) ρ Γ) : Dn w0 n (Exit.then N Q) (.exit id) ρ Γ := h
theorem dn_then_ret {N : Act → World → Prop} {Q : Exit → Act → World → Prop} {ρ : Env} {Γ : List HP} (h : Dn w0 n Q .ret ρ Γ) : Dn w0 n (Exit.then N Q) .ret ρ Γ := h
theorem dn_block {id : Nat} {Q : Exit → Act → World → Prop} {ρ : Env} {Γ : List HP} (h : Dn w0 n Q .normal ρ Γ) : Dn w0 n (Exit.inBlock id Q) .normal ρ Γ := h
theorem dn_block_ret {id : Nat} {Q : Exit → Act → World → Prop} {ρ : Env} {Γ : List HP} (h : Dn w0 n Q .ret ρ Γ) : Dn w0 n (Exit.inBlock id Q) .ret ρ Γ := h
theorem dn_block_this {id : Nat} {Q : Exit → Act → World → Prop} {ρ : Env} {Γ : List HP} (h : Dn w0 n Q .normal ρ Γ) : Dn w0 n (Exit.inBlock id Q) (.exit id) ρ Γ :=
  fun a w hF hS => by show (if id = id then Q .normal a w else Q (.exit id) a w); rw [if_pos rfl]; exact h a w hF hS
theorem dn_block_other {id id' : Nat} {Q : Exit → Act → World → Prop} {ρ : Env} {Γ : List HP} (hne : Nat.beq id' id = false) (h : Dn w0 n Q (.exit id') ρ Γ) : Dn w0 n (Exit.inBlock id Q) (.exit id') ρ Γ :=
  fun a w hF hS => by
    show (if id' = id then Q .normal a w else Q (.exit id') a w)
    rw [if_neg (fun e => by subst e; rw [Nat.beq_refl] at hne; cases hne)]; exact h a w hF hS

/-! ### The end of a function -/
theorem dn_ret1 {fn : Func} {t : Tmp} (hr : fn.results = #[.tmp t]) {R : Ending → World → Prop} {ρ : Env} {Γ : List HP} {v : Value} (hv : lk ρ t = some v) (h : ∀ w, Sat w0 Γ w → R (.returned v) w) : Dn w0 n (bodyPost P fn R) .ret ρ Γ :=
  fun a w hF hS => bodyPost_ret (results_tmp hr _ _ _) hF.defers (by rw [hF.holds t v hv]; exact h w hS)
theorem dn_ret2 {fn : Func} {t u : Tmp} (hr : fn.results = #[.tmp t, .tmp u]) {R : Ending → World → Prop} {ρ : Env} {Γ : List HP} {v v' : Value} (hv : lk ρ t = some v) (hv' : lk ρ u = some v') (h : ∀ w, Sat w0 Γ w → R (.returned (.tuple #[v, v'])) w) : Dn w0 n (bodyPost P fn R) .ret ρ Γ :=
  fun a w hF hS => bodyPost_ret (results_tmp2 hr _ _ _) hF.defers (by rw [hF.holds t v hv, hF.holds u v' hv']; exact h w hS)
theorem dn_end0 {fn : Func} (hr : fn.results = #[]) {R : Ending → World → Prop} {ρ : Env} {Γ : List HP} (h : ∀ w, Sat w0 Γ w → R (.returned (.tuple #[])) w) : Dn w0 n (bodyPost P fn R) .normal ρ Γ :=
  fun _ w hF hS => bodyPost_end (results_none hr _ _ _) hF.defers (h w hS)
theorem dn_ret0 {fn : Func} (hr : fn.results = #[]) {R : Ending → World → Prop} {ρ : Env} {Γ : List HP} (h : ∀ w, Sat w0 Γ w → R (.returned (.tuple #[])) w) : Dn w0 n (bodyPost P fn R) .ret ρ Γ :=
  fun _ w hF hS => bodyPost_ret (results_none hr _ _ _) hF.defers (h w hS)
theorem run_results_cell {fn : Func} {s : Tmp} {T : TypeId} (hr : fn.results = #[.cell s T]) {tmps : Array Value} {w : World} {b off : Nat} {v : Value} (hp : tmps.getD s undef = .pointer (some ⟨b, off, none⟩)) (hl : (loadVar T ⟨b, off, none⟩).run P w = .ok v w) :
    (results fn tmps).run P w = .ok v w := by
  have hp' : tmps[s]?.getD undef = .pointer (some ⟨b, off, none⟩) := by simpa using hp
  simp [results, hr, hp', asAddr, hl]
theorem dn_ret_cell {fn : Func} {s : Tmp} {T : TypeId} (hr : fn.results = #[.cell s T]) {R : Ending → World → Prop} {ρ : Env} {Γ : List HP} {b off : Nat} (cs : List Value) {d : TypeDesc} (hv : lk ρ s = some (.pointer (some ⟨b, off, none⟩)))
    (hc : ∀ w, Sat w0 Γ w → w.rangeAt b off cs) (hu : P.underlying T = some d) (hd : d.isRow = true) (hi : (P.info? T).map (·.size) = some cs.length) (h : ∀ w, Sat w0 Γ w → R (.returned (.agg cs.toArray)) w) : Dn w0 n (bodyPost P fn R) .ret ρ Γ :=
  fun a w hF hS => bodyPost_ret (run_results_cell hr (hF.holds s _ hv) (run_loadVar_mid w b off T cs d (hc w hS) hu hd hi)) hF.defers (h w hS)

theorem calls_of_wc {f : FuncId} {fn : Func} {c : Code} {args : Array Value} {R : Ending → World → Prop} {Γ : List HP} (hf : P.funcs[f]? = some fn) (hb : fn.body = some c) (hn : fn.ntmps = n) (ha : args.size ≤ n)
    (h : WC P w0 n c (bodyPost P fn R) (envOf 0 args.toList) Γ) (w : World) (hS : Sat w0 Γ w) : Calls P f args w R := by
  refine calls_of_wp hf hb (h _ w ⟨rfl, ?_, fun t v ht => ?_⟩ hS)
  · simp; omega
  · have := lk_envOf args.toList 0 t v ht
    simp only [Nat.sub_zero] at this
    have ht2 : args[t]? = some v := by simpa using this.2
    have hlt := (Array.getElem?_eq_some_iff.1 ht2).1
    show (args ++ _).getD t undef = v
    rw [Array.getD_eq_getD_getElem?, Array.getElem?_append_left hlt, ht2]
    rfl

/-! ### Det operation, then the rest -/
theorem wl_nil {ops : Array Oper} {Q : Exit → Act → World → Prop} {ρ : Env} {Γ : List HP} (h : Dn w0 n Q .normal ρ Γ) : WL P w0 n ops [] Q ρ Γ := fun a w hF hS => wpList_nil (h a w hF hS)
theorem wl_det {ops : Array Oper} {rest : List Oper} {Q : Exit → Act → World → Prop} {ρ : Env} {Γ Γ' : List HP} {d : Nat} {op : Op} {ty : TypeId} {pos : String} {af : Array Edge} {v : Value}
    (h : Ow P w0 n op ty ρ Γ (Det w0 v Γ')) (hd : Nat.blt d n = true) (h' : WL P w0 n ops rest Q ((d, v) :: ρ) Γ') : WL P w0 n ops (⟨some d, op, ty, pos, af, none⟩ :: rest) Q ρ Γ :=
  fun a w hF hS => wpList_plain rfl fun K hK => h a w hF hS _ _ _ _ _ _ fun v' w' ⟨e, hS'⟩ => hK _ _ (by subst e; exact h' _ _ (hF.put hd _) hS')
theorem wl_some {ops : Array Oper} {rest : List Oper} {Q : Exit → Act → World → Prop} {ρ : Env} {Γ : List HP} {d : Nat} {op : Op} {ty : TypeId} {pos : String} {af : Array Edge} {α : Type} {p : α → Prop} {F : α → Value} {Γ' : α → List HP}
    (h : Ow P w0 n op ty ρ Γ (Some_ w0 p F Γ')) (hd : Nat.blt d n = true) (h' : ∀ x, p x → WL P w0 n ops rest Q ((d, F x) :: ρ) (Γ' x)) : WL P w0 n ops (⟨some d, op, ty, pos, af, none⟩ :: rest) Q ρ Γ :=
  fun a w hF hS => wpList_plain rfl fun K hK => h a w hF hS _ _ _ _ _ _ fun v' w' ⟨x, hp, e, hS'⟩ => hK _ _ (by subst e; exact h' x hp _ _ (hF.put hd _) hS')
theorem wl_eff {ops : Array Oper} {rest : List Oper} {Q : Exit → Act → World → Prop} {ρ : Env} {Γ Γ' : List HP} {op : Op} {ty : TypeId} {pos : String} {af : Array Edge} {v : Value}
    (h : Ow P w0 n op ty ρ Γ (Det w0 v Γ')) (h' : WL P w0 n ops rest Q ρ Γ') : WL P w0 n ops (⟨none, op, ty, pos, af, none⟩ :: rest) Q ρ Γ :=
  fun a w hF hS => wpList_plain rfl fun K hK => h a w hF hS _ _ _ _ _ _ fun _ w' ⟨_, hS'⟩ => hK _ _ (h' _ _ (hF.none _) hS')
theorem wl_eff_some {ops : Array Oper} {rest : List Oper} {Q : Exit → Act → World → Prop} {ρ : Env} {Γ : List HP} {op : Op} {ty : TypeId} {pos : String} {af : Array Edge} {α : Type} {p : α → Prop} {F : α → Value} {Γ' : α → List HP}
    (h : Ow P w0 n op ty ρ Γ (Some_ w0 p F Γ')) (h' : ∀ x, p x → WL P w0 n ops rest Q ρ (Γ' x)) : WL P w0 n ops (⟨none, op, ty, pos, af, none⟩ :: rest) Q ρ Γ :=
  fun a w hF hS => wpList_plain rfl fun K hK => h a w hF hS _ _ _ _ _ _ fun _ w' ⟨x, hp, _, hS'⟩ => hK _ _ (h' x hp _ _ (hF.none _) hS')
end
end Go.Toll
