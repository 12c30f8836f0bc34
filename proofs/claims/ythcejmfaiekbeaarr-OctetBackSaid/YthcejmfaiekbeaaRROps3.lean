/- Steps of a call, more: cutting slices, what is built, append, copy, calls, texts. Plain lemmas; no program in sight. -/
import Derived.Test.YthcejmfaiekbeaaRROps2
set_option linter.unusedVariables false
set_option linter.unusedSimpArgs false
namespace Go.Toll
open Go.RowKit
section
variable {P : Program} {w0 : World} {n : Nat} {ty : TypeId} {ρ : Env} {Γ : List HP}

/-! ### Cutting -/
theorem run_sliceBounds {isS : Bool} {len cap : Nat} {lo hi : Option Value} {l h : Nat} {w : World}
    (hh : (hi = none ∧ h = len) ∨ ∃ k : IntKind, ∃ j : Int, hi = some (.int k j) ∧ 0 ≤ j ∧ j ≤ cap ∧ h = j.toNat) (hl : (lo = none ∧ l = 0) ∨ ∃ k : IntKind, ∃ j : Int, lo = some (.int k j) ∧ 0 ≤ j ∧ j ≤ h ∧ l = j.toNat) :
    (Instr.sliceBounds isS len cap lo hi none).run P w = .ok (l, h, cap) w := by
  rcases hh with ⟨rfl, rfl⟩ | ⟨k, j, rfl, h1, h2, rfl⟩ <;> rcases hl with ⟨rfl, rfl⟩ | ⟨k', j', rfl, h3, h4, rfl⟩ <;>
    simp_all [Instr.sliceBounds, Instr.sliceBound, asIntOf]

theorem rd_cut {sz : Nat} {v : Value} {xs : List Value} (hr : Rd w0 Γ sz v xs) {w : World} (hS : Sat w0 Γ w) (l h : Nat) (hlh : l ≤ h) (hh : h * sz ≤ xs.length) (hsz : 0 < sz) :
    ∃ ao m cap, v = .slice ao m cap ∧ h ≤ m ∧ m ≤ cap ∧ Rd w0 Γ sz (.slice (if cap = l then ao else ao.map (·.add (l * sz))) (h - l) (cap - l)) ((xs.drop (l * sz)).take ((h - l) * sz)) := by
  obtain ⟨m, hm, h0⟩ := hr w hS
  have hhm : h ≤ m := by rw [hm] at hh; exact Nat.le_of_mul_le_mul_right hh hsz
  rcases h0 with ⟨rfl, rfl⟩ | ⟨a, cap, rfl, h1, h2, h3⟩
  · refine ⟨none, 0, 0, rfl, hhm, Nat.le_refl _, ?_⟩
    have : h = 0 := by omega
    subst this
    have : l = 0 := by omega
    subst this
    simpa using Rd.nil
  · refine ⟨some a, m, cap, rfl, hhm, h1, fun w' hS' => ?_⟩
    refine ⟨h - l, ?_, ?_⟩
    · rw [List.length_take, List.length_drop, hm]
      refine Nat.min_eq_left ?_
      rw [← Nat.sub_mul]
      exact Nat.mul_le_mul_right _ (by omega)
    · by_cases hcl : cap = l
      · rw [if_pos hcl]
        have hhl : h - l = 0 := by omega
        refine .inr ⟨a, cap - l, by rw [hhl], by omega, by omega, fun j u hu => ?_⟩
        rw [hhl] at hu
        simp at hu
      · rw [if_neg hcl]
        refine .inr ⟨a.add (l * sz), cap - l, rfl, by omega, by omega, fun j u hu => ?_⟩
        rw [List.getElem?_take] at hu
        split at hu
        · rw [List.getElem?_drop] at hu
          obtain ⟨m', hm', h'⟩ := hr w' hS'
          rcases h' with ⟨e1, _⟩ | ⟨a', cap', e1, _, _, h3'⟩
          · cases e1
          · injection e1 with e1 _ _
            injection e1 with e1
            subst e1
            rw [addr_add_add]
            exact h3' _ u hu
        · cases hu

/-- A bound of a slice expression. -/
def Bnd (ρ : Env) (d : Nat) (x : Option Operand) (l : Nat) : Prop := (x = none ∧ l = d) ∨ ∃ y : Operand, ∃ k : IntKind, ∃ j : Int, x = some y ∧ ev ρ y = some (.int k j) ∧ 0 ≤ j ∧ l = j.toNat
theorem Bnd.none (ρ : Env) (d : Nat) : Bnd ρ d none d := .inl ⟨rfl, rfl⟩
theorem Bnd.at {ρ : Env} {d : Nat} {y : Operand} {k : IntKind} {j : Int} {l : Nat} (h : ev ρ y = some (.int k j)) (hl : j = (l : Int)) : Bnd ρ d (some y) l := .inr ⟨y, k, j, rfl, h, by omega, by omega⟩

theorem ow_slice {t e : TypeId} {x : Operand} {lo hi : Option Operand} {sz m l h : Nat} {v : Value} {xs : List Value} (ht : P.underlying t = some (.slice e)) (hz : (P.info? e).map (·.size) = some sz) (hx : ev ρ x = some v) (hr : Rd w0 Γ sz v xs) (hsz : 0 < sz) (hm : xs.length = m * sz)
    (hlo : Bnd ρ 0 lo l) (hhi : Bnd ρ m hi h) (hlh : l ≤ h) (hh : h ≤ m) :
    Ow P w0 n (.slice t x lo hi none) ty ρ Γ (Some_ w0 (fun v' => Rd w0 Γ sz v' ((xs.drop (l * sz)).take ((h - l) * sz))) id (fun _ => Γ)) := by
  intro A w hF hS dst pos af g K Q hK
  obtain ⟨ao, m', cap, rfl, h1, h2, h3⟩ := rd_cut hr hS l h hlh (by rw [hm]; exact Nat.mul_le_mul_right _ hh) hsz
  obtain ⟨ao', cap', e1, _, _, _⟩ := hr.len hsz hm hS
  injection e1 with e1 e2 e3
  subst e2
  cases hi' : P.info? e with
  | none => simp [hi'] at hz
  | some q =>
    have hq : q.size = sz := by simpa [hi'] using hz
    have hb : (Instr.sliceBounds true m' cap (lo.map A.eval) (hi.map A.eval) none).run P w = .ok (l, h, cap) w := by
      refine run_sliceBounds ?_ ?_
      · rcases hhi with ⟨rfl, rfl⟩ | ⟨y, k, j, rfl, hy, hj0, rfl⟩
        · exact .inl ⟨rfl, rfl⟩
        · exact .inr ⟨k, j, by simp [hF.evl hy], hj0, by omega, rfl⟩
      · rcases hlo with ⟨rfl, rfl⟩ | ⟨y, k, j, rfl, hy, hj0, rfl⟩
        · exact .inl ⟨rfl, rfl⟩
        · exact .inr ⟨k, j, by simp [hF.evl hy], hj0, by omega, rfl⟩
    unfold Oper.wp
    have hrun : (execOp A.eval ⟨dst, .slice t x lo hi none, ty, pos, af, g⟩).run P w = .ok (.value (.slice (if cap = l then ao else ao.map (·.add (l * sz))) (h - l) (cap - l))) w := by
      simp [execOp, hF.evl hx, Instr.sliceAt, Instr.slice, run_underlying ht, hb, sizeOf, typeInfo, hi', hq]
    rw [hrun, Oper.upon_value]
    exact hK _ _ ⟨_, h3, rfl, hS⟩

/-- A slice of an array in memory. -/
theorem ow_slice_arr {t e : TypeId} {x : Operand} {lo hi : Option Operand} {sz len b o' l h q : Nat} (ht : P.underlying t = some (.array len e)) (hz : (P.info? e).map (·.size) = some sz) (hx : ev ρ x = some (.pointer (some ⟨b, o', none⟩)))
    (hlo : Bnd ρ 0 lo l) (hhi : Bnd ρ len hi h) (hlh : l ≤ h) (hh : h ≤ len) (hl : l < len) (hq : o' + l * sz = q) :
    Ow P w0 n (.slice t x lo hi none) ty ρ Γ (Det w0 (.slice (some ⟨b, q, none⟩) (h - l) (len - l)) Γ) :=
  ow_pure fun A o w hF ho hty => by
    subst hq
    cases hi' : P.info? e with
    | none => simp [hi'] at hz
    | some q =>
      have hq : q.size = sz := by simpa [hi'] using hz
      have hb : (Instr.sliceBounds false len len (lo.map A.eval) (hi.map A.eval) none).run P w = .ok (l, h, len) w := by
        refine run_sliceBounds ?_ ?_
        · rcases hhi with ⟨rfl, rfl⟩ | ⟨y, k, j, rfl, hy, hj0, rfl⟩
          · exact .inl ⟨rfl, rfl⟩
          · exact .inr ⟨k, j, by simp [hF.evl hy], hj0, by omega, rfl⟩
        · rcases hlo with ⟨rfl, rfl⟩ | ⟨y, k, j, rfl, hy, hj0, rfl⟩
          · exact .inl ⟨rfl, rfl⟩
          · exact .inr ⟨k, j, by simp [hF.evl hy], hj0, by omega, rfl⟩
      have hne : ¬ len = l := by omega
      simp [execOp, ho, hF.evl hx, Instr.sliceAt, Instr.sureAddr, run_underlying ht, hb, sizeOf, typeInfo, hi', hq, hne, Addr.add_mid]

/-! ### Calls -/
def evs (ρ : Env) : List Operand → Option (List Value)
  | [] => some []
  | x :: xs => match ev ρ x, evs ρ xs with
    | some v, some vs => some (v :: vs)
    | _, _ => none
theorem evs_map {a : Act} (hF : Fr n a ρ) : ∀ {xs : List Operand} {vs : List Value}, evs ρ xs = some vs → xs.map a.eval = vs
  | [], vs, h => by simpa [evs] using h
  | x :: xs, vs, h => by
    simp only [evs] at h
    cases h1 : ev ρ x with
    | none => rw [h1] at h; cases h
    | some v =>
      rw [h1] at h
      cases h2 : evs ρ xs with
      | none => rw [h2] at h; cases h
      | some us =>
        rw [h2] at h
        simp only [Option.some.injEq] at h
        subst h
        simp [hF.evl h1, evs_map hF h2]
theorem ow_call {f : FuncId} {fn : Func} {args : List Operand} {vs : List Value} {ts : Array TypeId} {R : Value → World → Prop} (hf : CallOk P f fn) (ha : evs ρ args = some vs) (hc : ∀ w, Sat w0 Γ w → Calls P f vs.toArray w (Ret R)) :
    Ow P w0 n (.call { callee := .value (.func f), args := args.toArray, argTypes := ts }) ty ρ Γ R := by
  intro A w hF hS dst pos af g K Q hK
  have hargs := evs_map hF ha
  unfold Oper.wp
  have hrun : (execOp A.eval ⟨dst, .call { callee := .value (.func f), args := args.toArray, argTypes := ts }, ty, pos, af, g⟩).run P w = .ok (.enter f vs.toArray) w := by
    have hp := hf.plain
    simp only [beq_eq_false_iff_ne, ne_eq] at hp
    have hb : ¬ fn.body = none := fun h => by have := hf.body; rw [h] at this; cases this
    have e1 : A.eval (.func f) = .func (.func f) #[] #[] := rfl
    simp [execOp, resolve, Deferred.ofValue, invoke, callFunc, e1, hf.there, hb, hp, hargs]
  rw [hrun, Oper.upon_enter]
  refine (hc w hS).mono ?_
  rintro e w' ⟨v, rfl, hR⟩
  exact hK v w' hR

/-! ### append, copy -/
theorem ow_append {s x : Operand} {t tx e e' : TypeId} {z : Value} {sz bytes : Nat} {Δ : List HP} {v xv : Value} {xs news : List Value} (ht : P.underlying t = some (.slice e)) (htx : P.underlying tx = some (.slice e'))
    (hinfo : (P.info? e).map (fun i => (i.zero, i.size, i.bytes)) = some (some z, sz, bytes)) (hzs : z.cells.size = sz) (hsz : 0 < sz) (hs : ev ρ s = some v) (hx : ev ρ x = some xv)
    (hp : Pick Γ (own v xs e sz) Δ) (hr : Rd w0 Γ sz xv news) (h1 : ∀ u ∈ news, u.oneCell' = true)
    (hB : (xs.length + news.length) * bytes ≤ 140737488355328 * sz) (hM : xs.length + news.length ≤ 140737488355328 * sz) :
    Ow P w0 n (.call { callee := .builtin .append, args := #[s, x], argTypes := #[t, tx] }) ty ρ Γ (Some_ w0 (fun _ => True) id (fun v' => own v' (xs ++ news) e sz :: Δ)) := by
  intro A w hF hS dst pos af g K Q hK
  exact wp_append (P := P) s x t tx rfl e e' z sz bytes ht htx hinfo hzs hsz v xv xs news (hF.evl hs) (hF.evl hx) (hp.front hS) (hr w hS) h1 hB hM fun v' w' h => hK _ _ ⟨v', trivial, rfl, h⟩

theorem ow_copy {x y : Operand} {t tx e : TypeId} {b off dl dc : Nat} {xv : Value} {news : List Value} {cs : List Value} {T : TypeId} {Γ' : List HP} (pre mid post : List Value) (ht : P.underlying t = some (.slice e)) (hz : (P.info? e).map (·.size) = some 1)
    (hx : ev ρ x = some (.slice (some ⟨b, off, none⟩) dl dc)) (hy : ev ρ y = some xv) (hr : Rd w0 Γ 1 xv news) (h1 : ∀ u ∈ news, u.oneCell' = true)
    (hcs : cs = pre ++ (mid ++ post)) (ho : pre.length = off) (hl : mid.length = Nat.min news.length dl) (hc : Chg Γ (blk b cs T) (blk b (pre ++ (news.take (Nat.min news.length dl) ++ post)) T) Γ') :
    Ow P w0 n (.call { callee := .builtin .copy, args := #[x, y], argTypes := #[t, tx] }) ty ρ Γ (Det w0 (.int .i64 (Nat.min news.length dl : Nat)) Γ') := by
  intro A w hF hS dst pos af g K Q hK
  subst hcs
  subst ho
  obtain ⟨Δ, p1, p2⟩ := hc.split
  have hS1 := hS.perm p1
  have hnl : (news.take (Nat.min news.length dl)).length = mid.length := by rw [hl, List.length_take]; exact Nat.min_eq_left (Nat.min_le_left _ _)
  obtain ⟨ao, cap, rfl, h2, h3, h4, h5⟩ := (hr w hS).one
  have hfirst : (Builtin.firstCells 1 (Nat.min news.length dl) (.slice ao news.length cap)).run P w = .ok (news.take (Nat.min news.length dl)).toArray w := by
    cases ao with
    | none =>
      have := (h4 rfl).1
      subst this
      simp [Builtin.firstCells]
    | some a =>
      refine run_firstCells_some (P := P) w 1 _ a _ _ _ (by rw [Nat.mul_one, hnl, hl]) fun j u hu => ?_
      rw [List.getElem?_take] at hu
      split at hu
      · exact h5 a rfl j u hu
      · cases hu
  have hth := hS1.there pre.length (news.take (Nat.min news.length dl)).length (by simp only [List.length_append]; omega)
  have hst := run_storeCells_cells (P := P) b pre.length (news.take (Nat.min news.length dl)) 0 w (fun j hj => by simpa using (hth j hj).1) (fun j hj => by simpa using (hth j hj).2) (fun u hu => h1 u (List.mem_of_mem_take hu))
  simp only [Nat.add_zero] at hst
  cases hi' : P.info? e with
  | none => simp [hi'] at hz
  | some q =>
    have hq : q.size = 1 := by simpa [hi'] using hz
    have hrun : (execOp A.eval ⟨dst, .call { callee := .builtin .copy, args := #[x, y], argTypes := #[t, tx] }, ty, pos, af, g⟩).run P w = .ok (.value (.int .i64 (Nat.min news.length dl : Nat))) (w.setCells b pre.length (news.take (Nat.min news.length dl))) := by
      simp only [execOp, resolve, invoke, builtin, Sem.run_bind, Sem.run_pure, Result.andThen_ok, List.map_toArray, List.map_cons, List.map_nil, hF.evl hx, hF.evl hy]
      simp [Builtin.copy_, run_underlying ht, sizeOf, typeInfo, hi', hq, Builtin.lenOf, hfirst, hst, goInt]
    unfold Oper.wp
    rw [hrun, Oper.upon_value]
    exact hK _ _ ⟨rfl, (hS1.setCells _ mid pre post w hnl).perm p2.symm⟩

/-! ### Texts -/
theorem ow_str {s d e : TypeId} {x : Operand} {v : Value} {l : List UInt8} (hs : P.underlying s = some (.slice e)) (he : P.underlying e = some (.int .u8)) (hd : P.underlying d = some .string) (hx : ev ρ x = some v) (hr : Rd w0 Γ 1 v (B l)) :
    Ow P w0 n (.convert s d x) ty ρ Γ (Det w0 (.string ⟨l.toArray⟩) Γ) :=
  ow_read fun a o w hF hS ho hty => by
    obtain ⟨ao, cap, rfl, h2, h3, h4, h5⟩ := (hr w hS).one
    have hc : (convert s d (.slice ao (B l).length cap)).run P w = .ok (.string ⟨l.toArray⟩) w := by
      cases ao with
      | none =>
        have := (h4 rfl).1
        have hl : l = [] := by cases l with | nil => rfl | cons => simp at this
        subst hl
        have := run_convert_bytes_nil (P := P) w s e hs he 0 cap d hd
        exact this
      | some ad =>
        rw [run_convert_bytes_string w s d e _ _ cap hs he hd]
        have hl : (loadCells ad (B l).length).run P w = .ok ((l.map fun b => (b.toNat : Int)).map (Value.int .u8)).toArray w := by
          have := run_loadCells_list (P := P) w ad (B l) (h5 ad rfl)
          simpa [B, Function.comp_def] using this
        rw [run_bytesToString w ad _ cap _ hl, foldl_push_byteCells]
        simp [ByteArray.empty, ByteArray.emptyWithCapacity]
        rfl
    simp only [B_length] at hc
    simp [execOp, ho, hF.evl hx, hc]
theorem ow_eq_str {t t2 : TypeId} {x y : Operand} {a b : ByteArray} {r : Bool} (hx : ev ρ x = some (.string a)) (hy : ev ρ y = some (.string b)) (hr : (a.toList == b.toList) = r) : Ow P w0 n (.binOp .eql t x y t2) ty ρ Γ (Det w0 (.bool r) Γ) :=
  ow_pure fun A o w hF ho ht => by subst hr; simp [execOp, ho, hF.evl hx, hF.evl hy, eqGuard, binOp, Op.stringOp]
theorem ow_ne_str {t t2 : TypeId} {x y : Operand} {a b : ByteArray} {r : Bool} (hx : ev ρ x = some (.string a)) (hy : ev ρ y = some (.string b)) (hr : (!(a.toList == b.toList)) = r) : Ow P w0 n (.binOp .neq t x y t2) ty ρ Γ (Det w0 (.bool r) Γ) :=
  ow_pure fun A o w hF ho ht => by subst hr; simp [execOp, ho, hF.evl hx, hF.evl hy, eqGuard, binOp, Op.stringOp]

/-! ### What is built -/
theorem splice (pre c mid post : List Value) (h : c.length = mid.length) : (c.toArray.zipIdx.foldl (fun cs (x : Value × Nat) => cs.setIfInBounds (pre.length + x.2) x.1) (pre ++ (mid ++ post)).toArray) = (pre ++ (c ++ post)).toArray := by
  have go : ∀ (c mid done : List Value), c.length = mid.length → ((c.zipIdx done.length).foldl (fun (cs : Array Value) (x : Value × Nat) => cs.setIfInBounds (pre.length + x.2) x.1) (pre ++ (done ++ (mid ++ post))).toArray) = (pre ++ (done ++ (c ++ post))).toArray := by
    intro c
    induction c with
    | nil => intro mid done h; cases mid with | nil => rfl | cons => simp at h
    | cons x c ih =>
      intro mid done h
      cases mid with
      | nil => simp at h
      | cons m mid =>
        have := ih mid (done ++ [x]) (by simpa using h)
        simp only [List.zipIdx_cons, List.foldl_cons]
        have e : (pre ++ (done ++ (m :: mid ++ post))).toArray.setIfInBounds (pre.length + done.length) x = (pre ++ (done ++ [x] ++ (mid ++ post))).toArray := by
          apply Array.ext'
          simp [List.set_append_right]
        rw [e]
        simpa using this
  have := go c mid [] h
  simpa using this
theorem fill_nil (place : Nat → Option (Nat × Nat)) (cs : Array Value) : Instr.fill place cs [] = some cs := rfl
theorem fill_cons {place : Nat → Option (Nat × Nat)} {i : Nat} {v : Value} {rest : List (Nat × Value)} (pre c mid post : List Value) {off sz : Nat} {r : Option (Array Value)} (hp : place i = some (off, sz)) (ho : pre.length = off) (hv : v.cells.toList = c) (hc : c.length = sz) (hm : mid.length = sz)
    (h : Instr.fill place (pre ++ (c ++ post)).toArray rest = r) : Instr.fill place (pre ++ (mid ++ post)).toArray ((i, v) :: rest) = r := by
  subst ho
  have hs : v.cells.size = sz := by rw [← Array.length_toList, hv, hc]
  have hle : ¬ (v.cells.size ≠ sz ∨ pre.length + v.cells.size > (pre ++ (mid ++ post)).toArray.size) := by
    simp only [List.size_toArray, List.length_append]
    omega
  have hv' : v.cells = c.toArray := by rw [← hv]
  rw [Instr.fill, hp]
  simp only [Bool.or_eq_true, decide_eq_true_eq, hle, if_false]
  rw [hv', splice pre c mid post (by omega)]
  exact h
theorem ow_buildSlice {t e : TypeId} {len sz : Nat} {parts : List (Nat × Operand)} {vs : List (Nat × Value)} {z : Value} (cs : List Value) (ht : P.underlying t = some (.slice e)) (hinfo : (P.info? e).map (fun i => (i.zero, i.size)) = some (some z, sz)) (hsm : len * sz ≤ 2 ^ 24)
    (hv : parts.mapM (fun p => (ev ρ p.2).map fun v => (p.1, v)) = some vs) (hf : Instr.fill (fun i => some (i * sz, sz)) ((Array.range (len * sz)).map (z.cells[· % z.cells.size]!)) vs = some cs.toArray) :
    Ow P w0 n (.buildSlice t len parts.toArray) ty ρ Γ (Some_ w0 (fun _ => True) (fun b : Nat => .slice (some ⟨b, 0, none⟩) len len) (fun b => blk b cs e :: Γ)) := by
  intro A w hF hS dst pos af g K Q hK
  have hmap : parts.map (fun p => (p.1, A.eval p.2)) = vs := by
    have key : ∀ (l : List (Nat × Operand)) (us : List (Nat × Value)), l.mapM (fun p => (ev ρ p.2).map fun v => (p.1, v)) = some us → l.map (fun p => (p.1, A.eval p.2)) = us := by
      intro l
      induction l with
      | nil => intro us h; simpa using h
      | cons p l ih =>
        intro us h
        rw [List.mapM_cons] at h
        cases h1 : ev ρ p.2 with
        | none => simp [h1] at h
        | some v =>
          cases h2 : l.mapM (fun p => (ev ρ p.2).map fun v => (p.1, v)) with
          | none => simp [h1, h2] at h
          | some us' =>
            simp [h1, h2] at h
            subst h
            simp [hF.evl h1, ih us' h2]
    exact key parts vs hv
  cases hi' : P.info? e with
  | none => simp [hi'] at hinfo
  | some q =>
    have hq : q.zero = some z ∧ q.size = sz := by simpa [hi'] using hinfo
    have hrun : (execOp A.eval ⟨dst, .buildSlice t len parts.toArray, ty, pos, af, g⟩).run P w = .ok (.value (.slice (some ⟨w.heap.size, 0, none⟩) len len)) (w.alloc (.cells cs.toArray e)) := by
      have h24 : ¬ (2 ^ 24 < len * sz) := by omega
      by_cases h0 : len * sz = 0
      · have hf0 : Instr.fill (fun i => some (i * sz, sz)) #[] vs = some cs.toArray := by rw [h0, show Array.range 0 = #[] from rfl] at hf; simpa using hf
        simp [execOp, Instr.buildSlice, run_underlying ht, sizeOf, typeInfo, hi', hq.2, h0, hmap, hf0, newRow, show Array.range 0 = #[] from rfl]
      · simp [execOp, Instr.buildSlice, run_underlying ht, sizeOf, typeInfo, hi', hq.1, hq.2, h0, h24, zeroValue, hmap, hf, newRow]
    unfold Oper.wp
    rw [hrun, Oper.upon_value]
    exact hK _ _ ⟨w.heap.size, trivial, rfl, by simpa using hS.alloc (.cells cs.toArray e)⟩

theorem range_map (z : Array Value) (k : Nat) : (Array.range k).map (z[· % z.size]!) = ((List.range k).map (fun i => z[i % z.size]!)).toArray := by
  apply Array.ext'
  simp
theorem ones_row (z : Value) (k : Nat) (hz : z.cells = #[z]) : (Array.range (k * 1)).map (z.cells[· % z.cells.size]!) = (List.replicate k z).toArray := by
  rw [range_map, hz, Nat.mul_one]
  congr 1
  refine List.ext_getElem (by simp) fun i h1 h2 => ?_
  simp [Nat.mod_one]
section
variable {t e : TypeId} {z : Value}
theorem ow_bs0 {sz : Nat} (ht : P.underlying t = some (.slice e)) (hinfo : (P.info? e).map (fun i => (i.zero, i.size)) = some (some z, sz)) :
    Ow P w0 n (.buildSlice t 0 #[]) ty ρ Γ (Some_ w0 (fun _ => True) (fun b : Nat => .slice (some ⟨b, 0, none⟩) 0 0) (fun b => blk b [] e :: Γ)) := by
  refine ow_buildSlice (parts := []) (vs := []) [] ht hinfo (by simp) rfl ?_
  rw [Nat.zero_mul, show Array.range 0 = #[] from rfl]
  simp [fill_nil]
theorem ow_bs1 {x0 : Operand} {v0 : Value} (ht : P.underlying t = some (.slice e)) (hinfo : (P.info? e).map (fun i => (i.zero, i.size)) = some (some z, 1)) (hz : z.cells = #[z]) (h0 : ev ρ x0 = some v0) (c0 : v0.cells = #[v0]) :
    Ow P w0 n (.buildSlice t 1 #[(0, x0)]) ty ρ Γ (Some_ w0 (fun _ => True) (fun b : Nat => .slice (some ⟨b, 0, none⟩) 1 1) (fun b => blk b [v0] e :: Γ)) := by
  refine ow_buildSlice (parts := [(0, x0)]) (vs := [(0, v0)]) [v0] ht hinfo (by simp) (by simp [h0]) ?_
  rw [ones_row z 1 hz]
  exact fill_cons (off := 0) [] [v0] [z] [] rfl rfl (by rw [c0]) rfl rfl rfl
theorem ow_bs2 {x0 x1 : Operand} {v0 v1 : Value} (ht : P.underlying t = some (.slice e)) (hinfo : (P.info? e).map (fun i => (i.zero, i.size)) = some (some z, 1)) (hz : z.cells = #[z]) (h0 : ev ρ x0 = some v0) (c0 : v0.cells = #[v0]) (h1 : ev ρ x1 = some v1) (c1 : v1.cells = #[v1]) :
    Ow P w0 n (.buildSlice t 2 #[(0, x0), (1, x1)]) ty ρ Γ (Some_ w0 (fun _ => True) (fun b : Nat => .slice (some ⟨b, 0, none⟩) 2 2) (fun b => blk b [v0, v1] e :: Γ)) := by
  refine ow_buildSlice (parts := [(0, x0), (1, x1)]) (vs := [(0, v0), (1, v1)]) [v0, v1] ht hinfo (by simp) (by simp [h0, h1]) ?_
  rw [ones_row z 2 hz]
  exact fill_cons (off := 0) [] [v0] [z] [z] rfl rfl (by rw [c0]) rfl rfl (fill_cons (off := 1) [v0] [v1] [z] [] rfl rfl (by rw [c1]) rfl rfl rfl)
theorem ow_bs3 {x0 x1 x2 : Operand} {v0 v1 v2 : Value} (ht : P.underlying t = some (.slice e)) (hinfo : (P.info? e).map (fun i => (i.zero, i.size)) = some (some z, 1)) (hz : z.cells = #[z]) (h0 : ev ρ x0 = some v0) (c0 : v0.cells = #[v0]) (h1 : ev ρ x1 = some v1) (c1 : v1.cells = #[v1]) (h2 : ev ρ x2 = some v2) (c2 : v2.cells = #[v2]) :
    Ow P w0 n (.buildSlice t 3 #[(0, x0), (1, x1), (2, x2)]) ty ρ Γ (Some_ w0 (fun _ => True) (fun b : Nat => .slice (some ⟨b, 0, none⟩) 3 3) (fun b => blk b [v0, v1, v2] e :: Γ)) := by
  refine ow_buildSlice (parts := [(0, x0), (1, x1), (2, x2)]) (vs := [(0, v0), (1, v1), (2, v2)]) [v0, v1, v2] ht hinfo (by simp) (by simp [h0, h1, h2]) ?_
  rw [ones_row z 3 hz]
  exact fill_cons (off := 0) [] [v0] [z] [z, z] rfl rfl (by rw [c0]) rfl rfl (fill_cons (off := 1) [v0] [v1] [z] [z] rfl rfl (by rw [c1]) rfl rfl (fill_cons (off := 2) [v0, v1] [v2] [z] [] rfl rfl (by rw [c2]) rfl rfl rfl))
theorem ow_bs4 {x0 x1 x2 x3 : Operand} {v0 v1 v2 v3 : Value} (ht : P.underlying t = some (.slice e)) (hinfo : (P.info? e).map (fun i => (i.zero, i.size)) = some (some z, 1)) (hz : z.cells = #[z]) (h0 : ev ρ x0 = some v0) (c0 : v0.cells = #[v0]) (h1 : ev ρ x1 = some v1) (c1 : v1.cells = #[v1]) (h2 : ev ρ x2 = some v2) (c2 : v2.cells = #[v2]) (h3 : ev ρ x3 = some v3) (c3 : v3.cells = #[v3]) :
    Ow P w0 n (.buildSlice t 4 #[(0, x0), (1, x1), (2, x2), (3, x3)]) ty ρ Γ (Some_ w0 (fun _ => True) (fun b : Nat => .slice (some ⟨b, 0, none⟩) 4 4) (fun b => blk b [v0, v1, v2, v3] e :: Γ)) := by
  refine ow_buildSlice (parts := [(0, x0), (1, x1), (2, x2), (3, x3)]) (vs := [(0, v0), (1, v1), (2, v2), (3, v3)]) [v0, v1, v2, v3] ht hinfo (by simp) (by simp [h0, h1, h2, h3]) ?_
  rw [ones_row z 4 hz]
  exact fill_cons (off := 0) [] [v0] [z] [z, z, z] rfl rfl (by rw [c0]) rfl rfl (fill_cons (off := 1) [v0] [v1] [z] [z, z] rfl rfl (by rw [c1]) rfl rfl (fill_cons (off := 2) [v0, v1] [v2] [z] [z] rfl rfl (by rw [c2]) rfl rfl (fill_cons (off := 3) [v0, v1, v2] [v3] [z] [] rfl rfl (by rw [c3]) rfl rfl rfl)))
/-- Det element of several cells. -/
theorem ow_bsA {x0 : Operand} {l : List Value} {sz : Nat} (ht : P.underlying t = some (.slice e)) (hinfo : (P.info? e).map (fun i => (i.zero, i.size)) = some (some z, sz)) (hsz : sz ≤ 2 ^ 24) (h0 : ev ρ x0 = some (.agg l.toArray)) (c0 : l.length = sz) :
    Ow P w0 n (.buildSlice t 1 #[(0, x0)]) ty ρ Γ (Some_ w0 (fun _ => True) (fun b : Nat => .slice (some ⟨b, 0, none⟩) 1 1) (fun b => blk b l e :: Γ)) := by
  refine ow_buildSlice (parts := [(0, x0)]) (vs := [(0, .agg l.toArray)]) l ht hinfo (by omega) (by simp [h0]) ?_
  rw [range_map]
  have := fill_cons (place := fun i => some (i * sz, sz)) (i := 0) (v := .agg l.toArray) (rest := []) (off := 0) (sz := sz) [] l ((List.range (1 * sz)).map (fun i => z.cells[i % z.cells.size]!)) [] (by simp) rfl rfl c0 (by simp) rfl
  simpa [fill_nil] using this
end
/-- A struct or an array of parts. -/
theorem ow_build {t : TypeId} {parts : List (Nat × Operand)} {vs : List (Nat × Value)} {z : List Value} {fs : Array Field} {places : List (Nat × Nat)} (cs : List Value) (ht : P.underlying t = some (.struct fs)) (hz : (P.info? t).map (·.zero) = some (some (.agg z.toArray)))
    (hp : fs.toList.mapM (fun f => (P.info? f.type).map fun i => (f.offset, i.size)) = some places) (hv : parts.mapM (fun p => (ev ρ p.2).map fun v => (p.1, v)) = some vs) (hf : Instr.fill (places.toArray[·]?) z.toArray vs = some cs.toArray) :
    Ow P w0 n (.build t parts.toArray) ty ρ Γ (Det w0 (.agg cs.toArray) Γ) := by
  refine ow_pure fun A o w hF ho hty => ?_
  have hmap : parts.map (fun p => (p.1, A.eval p.2)) = vs := by
    have key : ∀ (l : List (Nat × Operand)) (us : List (Nat × Value)), l.mapM (fun p => (ev ρ p.2).map fun v => (p.1, v)) = some us → l.map (fun p => (p.1, A.eval p.2)) = us := by
      intro l
      induction l with
      | nil => intro us h; simpa using h
      | cons p l ih =>
        intro us h
        rw [List.mapM_cons] at h
        cases h1 : ev ρ p.2 with
        | none => simp [h1] at h
        | some v =>
          cases h2 : l.mapM (fun p => (ev ρ p.2).map fun v => (p.1, v)) with
          | none => simp [h1, h2] at h
          | some us' =>
            simp [h1, h2] at h
            subst h
            simp [hF.evl h1, ih us' h2]
    exact key parts vs hv
  have hpl : ∀ (l : List Field) (ps : List (Nat × Nat)), l.mapM (fun f => (P.info? f.type).map fun i => (f.offset, i.size)) = some ps → (l.mapM (m := Sem) fun f => do pure (f.offset, ← sizeOf f.type)).run P w = .ok ps w := by
    intro l
    induction l with
    | nil => intro ps h; simp at h; subst h; simp
    | cons f l ih =>
      intro ps h
      rw [List.mapM_cons] at h
      cases h1 : P.info? f.type with
      | none => simp [h1] at h
      | some i =>
        cases h2 : l.mapM (fun f => (P.info? f.type).map fun i => (f.offset, i.size)) with
        | none => simp [h1, h2] at h
        | some ps' =>
          simp [h1, h2] at h
          subst h
          have := ih ps' h2
          rw [List.mapM_cons]
          simp [sizeOf, typeInfo, h1] at this ⊢
          simp [this]
  cases hi' : P.info? t with
  | none => simp [hi'] at hz
  | some q =>
    have hq : q.zero = some (.agg z.toArray) := by simpa [hi'] using hz
    have hpl' : (fs.mapM (m := Sem) fun f => do pure (f.offset, ← sizeOf f.type)).run P w = .ok places.toArray w := by
      have h1 := hpl fs.toList places hp
      rw [Array.mapM_eq_mapM_toList]
      simp at h1 ⊢
      simp [h1]
    simp at hpl'
    simp [execOp, ho, Instr.build, zeroValue, typeInfo, hi', hq, run_underlying ht, Value.cells, hmap]
    rw [hpl']
    simp only [Result.andThen_ok]
    rw [hf]
    simp
end
end Go.Toll
