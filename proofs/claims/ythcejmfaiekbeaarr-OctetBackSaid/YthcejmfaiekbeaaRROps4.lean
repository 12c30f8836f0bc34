/- Steps of a call, more: make, bytes of a constant, indexing of values. Plain lemmas; no program in sight. -/
import Derived.Test.YthcejmfaiekbeaaRROps3
import Derived.Test.YthcejmfaiekbeaaRRFlow
set_option linter.unusedVariables false
set_option linter.unusedSimpArgs false
namespace Go.Toll
open Go.RowKit
section
variable {P : Program} {w0 : World} {n : Nat} {ty : TypeId} {ρ : Env} {Γ : List HP}

/-- A block that is one row, as an owned row. -/
theorem own_of_blk {b : Nat} {T : TypeId} {k sz : Nat} (cs xs : List Value) (hl : cs.length = k * sz) (hx : xs = cs) (hk : k ≤ maxLen) : ∀ h, (blk b cs T) h → own (.slice (some ⟨b, 0, none⟩) k k) xs T sz h := by
  subst hx
  intro h hb
  exact ⟨k, hl, .inr ⟨b, k, xs.toArray, rfl, hb, Nat.le_refl _, hk, by simpa using hl, by rw [← hl]; simp⟩⟩
theorem cells_of_one {v : Value} (h : v.oneCell' = true) : v.cells = #[v] := by cases v <;> simp_all [Value.cells, Value.oneCell']
theorem ow_weak {op : Op} {ρ' : Env} {R : Value → World → Prop} (hs : Sub ρ ρ') (h : Ow P w0 n op ty ρ' Γ R) : Ow P w0 n op ty ρ Γ R := fun a w hF hS => h a w (hF.sub hs) hS
theorem ow_mono {op : Op} {R R' : Value → World → Prop} (h : Ow P w0 n op ty ρ Γ R) (hR : ∀ v w, R v w → R' v w) : Ow P w0 n op ty ρ Γ R' :=
  fun a w hF hS dst pos af g K Q hK => h a w hF hS dst pos af g K Q fun v w' hr => hK v w' (hR v w' hr)
theorem ow_pieces {op : Op} {Γ' : List HP} {R : Value → World → Prop} (hΓ : ∀ w, Sat w0 Γ w → Sat w0 Γ' w) (h : Ow P w0 n op ty ρ Γ' R) : Ow P w0 n op ty ρ Γ R := fun a w hF hS => h a w hF (hΓ w hS)

theorem ow_makeSlice {t e : TypeId} {x y : Operand} {k k' : IntKind} {m bytes : Nat} {z : Value} (ht : P.underlying t = some (.slice e)) (hinfo : (P.info? e).map (fun i => (i.zero, i.size, i.bytes)) = some (some z, 1, bytes)) (hz : z.cells = #[z])
    (hx : ev ρ x = some (.int k m)) (hy : ev ρ y = some (.int k' m)) (hm : m ≤ 2 ^ 32) (hb : bytes ≤ 2 ^ 12) :
    Ow P w0 n (.makeSlice t x y) ty ρ Γ (Some_ w0 (fun _ => True) (fun b : Nat => .slice (some ⟨b, 0, none⟩) m m) (fun b => blk b (List.replicate m z) e :: Γ)) := by
  intro A w hF hS dst pos af g K Q hK
  obtain ⟨i, hi, h1, h2, h3⟩ := info_parts hinfo
  have hbm : (i.bytes : Int) * (m : Int) ≤ 281474976710656 := by
    rw [h3]
    have : bytes * m ≤ 2 ^ 12 * 2 ^ 32 := Nat.mul_le_mul hb hm
    have h5 : ((bytes * m : Nat) : Int) ≤ 281474976710656 := by omega
    rw [Int.natCast_mul] at h5
    exact h5
  have hrow : madeCells z.cells (m * 1) = (List.replicate m z).toArray := ones_row z m hz
  have hr := run_make (P := P) w t e i z ht hi h1 k k' m m (by omega) (Int.le_refl _) hbm (by omega)
  rw [Int.toNat_natCast, h2, hrow] at hr
  have hrun : (execOp A.eval ⟨dst, .makeSlice t x y, ty, pos, af, g⟩).run P w = .ok (.value (.slice (some ⟨w.heap.size, 0, none⟩) m m)) (w.alloc (.cells (List.replicate m z).toArray e)) := by
    simp only [execOp, hF.evl hx, hF.evl hy, Sem.run_bind, hr, Result.andThen_ok, Sem.run_pure]
  unfold Oper.wp
  rw [hrun, Oper.upon_value]
  exact hK _ _ ⟨w.heap.size, trivial, rfl, hS.alloc _⟩

/-- '[]byte("..")' of a constant: the bytes behind the slice's end are marked. -/
theorem ow_constBytes {t e : TypeId} {x : Operand} {b len cap : Nat} {cs : List Value} {T : TypeId} {Δ : List HP} (ht : P.underlying t = some (.slice e)) (he : P.underlying e = some (.int .u8)) (hx : ev ρ x = some (.slice (some ⟨b, 0, none⟩) len cap)) (hp : Pick Γ (blk b cs T) Δ) :
    Ow P w0 n (.convert t t x) ty ρ Γ (Det w0 (.slice (some ⟨b, 0, none⟩) len cap) (obj b (.cells cs.toArray T (cs.length, cs.length + 1)) :: Δ)) := by
  intro A w hF hS dst pos af g K Q hK
  have hS1 := hp.front hS
  have hb := hS1.ob
  have hrun : (execOp A.eval ⟨dst, .convert t t x, ty, pos, af, g⟩).run P w = .ok (.value (.slice (some ⟨b, 0, none⟩) len cap)) (w.freeze ⟨b, cs.length, none⟩ 1) := by
    have hsh : w.shape? b = some (T, cs.length) := by simp [World.shape?, hb.2.2]
    simp [execOp, hF.evl hx, convert, run_underlying ht, run_underlying he, markStringish, shape, freeze, Sem.run, hsh]
  unfold Oper.wp
  rw [hrun, Oper.upon_value]
  refine hK _ _ ⟨rfl, hS1.set (by simp [World.freeze]) (by simp [World.freeze]) (by simp [World.freeze]) (by simp [World.freeze]) (fun k hk => ?_) ?_⟩
  · simp only [World.freeze, Array.getElem?_modify]
    rw [if_neg (by omega)]
    simp only [Array.getElem?_modify]
    rw [if_neg (fun h => hk h.symm)]
  · simp [World.freeze, Array.getElem?_modify, hb.2.2]
end
end Go.Toll

namespace Go.Toll
open Go.RowKit
/-! ### For regions that draw their order -/
section
variable {P : Program} {w0 : World} {n : Nat} {ops : List Oper} {N : List Nd} {ρ0 ρ : Env} {Γ0 Γ : List HP}
def tt : HP := fun _ => True
theorem Sat.add_tt {w : World} (h : Sat w0 Γ w) : Sat w0 (tt :: Γ) w := h.with_none.head fun _ _ => trivial
theorem one_eq {a b : Value} (h : [a] = [b]) : a = b := List.singleton_inj.1 h
theorem obl_run {i : Nat} {o : Oper} {d : Nd} (hr : d.run = true)
    (h : ∀ V : Nat → Value, (∀ j ∈ d.know, (nd N j).K ((nd N j).idx.map V)) → (∀ g want, o.guard = some (g, want) → V g = .bool want) ∧
      ∀ Γ : List HP, Ow P w0 n o.op o.type (envI ops ρ0 V d.use d.olds) ((d.cons ++ d.rds).map (pieceOf N Γ0 V) ++ Γ) (fun v w' => d.K (d.idx.map (upd V i v)) ∧ Sat w0 (d.D (d.idx.map (upd V i v)) :: (d.rds.map (pieceOf N Γ0 V) ++ Γ)) w')) :
    Obl P w0 n ops N ρ0 Γ0 i o d := fun V hk => ⟨fun g want hg => ⟨fun _ => hr, fun _ => (h V hk).1 g want hg⟩, by rw [if_pos hr]; exact (h V hk).2⟩
theorem obl_skip {i : Nat} {o : Oper} {d : Nd} (hr : d.run = false)
    (h : ∀ V : Nat → Value, (∀ j ∈ d.know, (nd N j).K ((nd N j).idx.map V)) → (∀ g want, o.guard = some (g, want) → V g ≠ .bool want) ∧ d.K (d.idx.map (upd V i undef)) ∧ ∀ h, d.D (d.idx.map (upd V i undef)) h) :
    Obl P w0 n ops N ρ0 Γ0 i o d := fun V hk => ⟨fun g want hg => ⟨fun e => absurd e ((h V hk).1 g want hg), fun e => by rw [hr] at e; cases e⟩, by rw [if_neg (by rw [hr]; simp)]; exact (h V hk).2⟩
theorem dn_weak {Q : Exit → Act → World → Prop} {e : Exit} {ρ' : Env} {Γ' : List HP} (hs : Sub ρ ρ') (hΓ : ∀ w, Sat w0 Γ w → Sat w0 Γ' w) (h : Dn w0 n Q e ρ' Γ') : Dn w0 n Q e ρ Γ := fun a w hF hS => h a w (hF.sub hs) (hΓ w hS)
theorem noGuard {g : Option (Nat × Bool)} {V : Nat → Value} (h : g = none) : ∀ (j : Nat) (want : Bool), g = some (j, want) → V j = .bool want := fun j want e => by rw [h] at e; cases e
theorem theGuard {g : Option (Nat × Bool)} {V : Nat → Value} {j : Nat} {want : Bool} (h : g = some (j, want)) (hv : V j = .bool want) : ∀ (j' : Nat) (want' : Bool), g = some (j', want') → V j' = .bool want' := fun j' want' e => by
  rw [h] at e; simp only [Option.some.injEq, Prod.mk.injEq] at e; obtain ⟨rfl, rfl⟩ := e; exact hv
theorem notGuard {g : Option (Nat × Bool)} {V : Nat → Value} {j : Nat} {want : Bool} {u : Value} (h : g = some (j, want)) (hv : V j = u) (hne : u ≠ .bool want) : ∀ (j' : Nat) (want' : Bool), g = some (j', want') → V j' ≠ .bool want' := fun j' want' e => by
  rw [h] at e; simp only [Option.some.injEq, Prod.mk.injEq] at e; obtain ⟨rfl, rfl⟩ := e; rw [hv]; exact hne
end
end Go.Toll

namespace Go.Toll
section
variable {P : Program} {w0 : World} {n : Nat} {ops : Array Oper} {rest : List Oper} {Q : Exit → Act → World → Prop} {ρ : Env} {Γ Γ' : List HP}
/-- Pieces that stand ahead are let go. -/
theorem Sat.dropl {w : World} : ∀ {Δ : List HP}, Sat w0 (Δ ++ Γ) w → Sat w0 Γ w
  | [], h => h
  | _ :: _, h => Sat.dropl h.tail
theorem Sat.own_nil {w : World} {T : TypeId} {sz : Nat} (h : Sat w0 Γ w) : Sat w0 (own (.slice none 0 0) [] T sz :: Γ) w := h.with_none.head fun _ _ => ⟨0, by simp, .inl ⟨rfl, rfl⟩⟩
theorem wl_det_call {d : Nat} {op : Op} {ty : TypeId} {pos : String} {af : Array Edge} {v : Value} (h : Ow P w0 n op ty ρ Γ (Det w0 v Γ')) (hd : Nat.blt d n = true) (h' : WL P w0 n ops rest Q ((d, v) :: ρ) Γ') : WL P w0 n ops (⟨some d, op, ty, pos, af, none⟩ :: rest) Q ρ Γ := wl_det h hd h'
end
end Go.Toll

namespace Go.Toll
/-! ### Guarded operations of a region in its own order -/
section
variable {P : Program} {w0 : World} {n : Nat} {ops : Array Oper} {rest : List Oper} {Q : Exit → Act → World → Prop} {ρ : Env} {Γ Γ' : List HP}
theorem wanted_of {o : Oper} {a : Act} {g s : Nat} {want b : Bool} (hg : o.guard = some (g, want)) (hs : (ops[g]?).bind (·.dst) = some s) (hsn : Nat.blt s n = true) (hF : Fr n a ρ) (hb : lk ρ s = some (.bool b)) : Region.wanted o (yielded ops a.tmps) = (b == want) := by
  have h1 := hF.holds s _ hb
  have h2 : a.tmps[s]? = some (.bool b) := by
    have h3 : s < a.tmps.size := by rw [hF.size]; exact Nat.le_of_ble_eq_true hsn
    rw [Array.getElem?_eq_getElem h3]
    rw [Array.getD_eq_getD_getElem?, Array.getElem?_eq_getElem h3] at h1
    simpa using h1
  simp only [Region.wanted, hg, yielded, hs, Option.bind_some, h2]
  cases b <;> cases want <;> rfl
theorem wpList_guard {o : Oper} {a : Act} {w : World} (hw : Region.wanted o (yielded ops a.tmps) = true) (h : ∀ K : Act → World → Prop, (∀ a w, wpList P ops Q rest a w → K a w) → o.wp P a w K Q) : wpList P ops Q (o :: rest) a w :=
  wpList_step fun K hK => by rw [if_pos hw]; exact h K hK
theorem wlg_det {d g s : Nat} {want : Bool} {op : Op} {ty : TypeId} {pos : String} {af : Array Edge} {v : Value} (hs : (ops[g]?).bind (·.dst) = some s) (hsn : Nat.blt s n = true) (hb : lk ρ s = some (.bool want))
    (h : Ow P w0 n op ty ρ Γ (Det w0 v Γ')) (hd : Nat.blt d n = true) (h' : WL P w0 n ops rest Q ((d, v) :: ρ) Γ') : WL P w0 n ops (⟨some d, op, ty, pos, af, some (g, want)⟩ :: rest) Q ρ Γ :=
  fun a w hF hS => wpList_guard ((wanted_of rfl hs hsn hF hb).trans (by simp)) fun K hK => h a w hF hS _ _ _ _ _ _ fun v' w' ⟨e, hS'⟩ => hK _ _ (by subst e; exact h' _ _ (hF.put hd _) hS')
theorem wlg_some {d g s : Nat} {want : Bool} {op : Op} {ty : TypeId} {pos : String} {af : Array Edge} {α : Type} {p : α → Prop} {F : α → Value} {Γ' : α → List HP} (hs : (ops[g]?).bind (·.dst) = some s) (hsn : Nat.blt s n = true) (hb : lk ρ s = some (.bool want))
    (h : Ow P w0 n op ty ρ Γ (Some_ w0 p F Γ')) (hd : Nat.blt d n = true) (h' : ∀ x, p x → WL P w0 n ops rest Q ((d, F x) :: ρ) (Γ' x)) : WL P w0 n ops (⟨some d, op, ty, pos, af, some (g, want)⟩ :: rest) Q ρ Γ :=
  fun a w hF hS => wpList_guard ((wanted_of rfl hs hsn hF hb).trans (by simp)) fun K hK => h a w hF hS _ _ _ _ _ _ fun v' w' ⟨x, hp, e, hS'⟩ => hK _ _ (by subst e; exact h' x hp _ _ (hF.put hd _) hS')
theorem wlg_eff {g s : Nat} {want : Bool} {op : Op} {ty : TypeId} {pos : String} {af : Array Edge} {v : Value} (hs : (ops[g]?).bind (·.dst) = some s) (hsn : Nat.blt s n = true) (hb : lk ρ s = some (.bool want))
    (h : Ow P w0 n op ty ρ Γ (Det w0 v Γ')) (h' : WL P w0 n ops rest Q ρ Γ') : WL P w0 n ops (⟨none, op, ty, pos, af, some (g, want)⟩ :: rest) Q ρ Γ :=
  fun a w hF hS => wpList_guard ((wanted_of rfl hs hsn hF hb).trans (by simp)) fun K hK => h a w hF hS _ _ _ _ _ _ fun _ w' ⟨_, hS'⟩ => hK _ _ (h' _ _ (hF.none _) hS')
theorem wlg_skip {d g s : Nat} {want b : Bool} {op : Op} {ty : TypeId} {pos : String} {af : Array Edge} (hs : (ops[g]?).bind (·.dst) = some s) (hsn : Nat.blt s n = true) (hb : lk ρ s = some (.bool b)) (hne : (b == want) = false)
    (hd : Nat.blt d n = true) (h' : WL P w0 n ops rest Q ((d, undef) :: ρ) Γ) : WL P w0 n ops (⟨some d, op, ty, pos, af, some (g, want)⟩ :: rest) Q ρ Γ :=
  fun a w hF hS => wpList_skip ((wanted_of rfl hs hsn hF hb).trans hne) (h' _ _ (hF.put hd _) hS)
end
end Go.Toll
