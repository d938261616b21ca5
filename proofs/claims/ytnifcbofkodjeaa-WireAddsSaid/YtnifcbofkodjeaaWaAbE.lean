/- Loads, stores, fields, indexes. -/
import Derived.Test.YtnifcbofkodjeaaWaAbD
set_option linter.unusedVariables false
set_option linter.unusedSimpArgs false
namespace Go.Ab
open Go.RowKit

variable {P : Program} {T : Nat → Option TI} {st : St} {new : Option Nat}

theorem run_isAgg {t : TypeId} {ti : TI} (hT : TOK P t ti) (w : World) : (isAgg t).run P w = .ok ti.k.agg w := by
  obtain ⟨d, hd, hk⟩ := hT.desc
  unfold isAgg
  simp only [Sem.run_bind, run_underlying hd, Result.andThen_ok]
  unfold KOK at hk
  cases hkk : ti.k with
  | one =>
    rw [hkk] at hk
    cases hty : ti.ty <;> rw [hty] at hk <;> first | (subst hk; rfl) | cases hk
  | struct fs =>
    rw [hkk] at hk
    obtain ⟨f, e, _⟩ := hk
    subst e
    rfl
  | slice e =>
    rw [hkk] at hk
    subst hk
    rfl
  | array n e =>
    rw [hkk] at hk
    subst hk
    rfl
  | map k e =>
    rw [hkk] at hk
    subst hk
    rfl
  | bld =>
    rw [hkk] at hk
    obtain ⟨f, e⟩ := hk
    subst e
    rfl

theorem run_sizeOf {t : TypeId} {ti : TI} (hT : TOK P t ti) (w : World) : (sizeOf t).run P w = .ok ti.sz w := by
  obtain ⟨i, z, hi, h1, _⟩ := hT.info
  unfold sizeOf typeInfo
  simp only [Sem.run_bind, run_program, Result.andThen_ok, hi, Sem.run_pure, h1]

theorem run_zero {t : TypeId} {ti : TI} (hT : TOK P t ti) (w : World) : ∃ z, (zeroValue t).run P w = .ok z w ∧ (∀ μ S w, AllRel μ S w ti.zero z.cells.toList) ∧ (∀ S w, Rd S w ti.ty ti.ty.dflt z.cells.toList) := by
  obtain ⟨i, z, hi, _, _, hz, h1, h2⟩ := hT.info
  refine ⟨z, ?_, h1, h2⟩
  unfold zeroValue typeInfo
  simp only [Sem.run_bind, run_program, Result.andThen_ok, hi, Sem.run_pure, hz]

/-- A piece of some cells. -/
theorem pick_rel {μ : Nat → Value} {S : Nat → Prop} {w : World} {ti : TI} {cs : List Cell} {off : Nat} {x : Fl} {vs : List Value} (hp : pick ti cs off = some x) (ha : AllRel μ S w cs vs) :
    (ti.k.agg = true ∧ off + ti.sz ≤ vs.length ∧ x = .agg ((cs.drop off).take ti.sz) ∧ FlRel μ S w x (.agg ((vs.drop off).take ti.sz).toArray)) ∨ (ti.k.agg = false ∧ ∃ v, vs[off]? = some v ∧ FlRel μ S w x v ∧ x.isAgg = false) := by
  unfold pick at hp
  cases hk : ti.k.agg with
  | true =>
    rw [hk] at hp
    have hp : cond (Nat.ble (off + ti.sz) cs.length) (some (Fl.agg ((cs.drop off).take ti.sz))) none = some x := hp
    cases hb : Nat.ble (off + ti.sz) cs.length with
    | false => rw [hb] at hp; cases hp
    | true =>
      rw [hb] at hp
      injection hp with hp
      subst hp
      refine .inl ⟨rfl, by rw [AllRel_len ha]; exact Nat.le_of_ble_eq_true hb, rfl, _, rfl, AllRel_take _ (AllRel_drop _ ha)⟩
  | false =>
    rw [hk] at hp
    obtain ⟨c, hc, hp⟩ := bind_some (show (cs[off]?).bind _ = some x from hp)
    injection hp with hp
    subst hp
    obtain ⟨v, h1, h2⟩ := AllRel_get off ha hc
    exact .inr ⟨rfl, v, h1, h2, rfl⟩

theorem load_at {t : TypeId} {ti : TI} (hT : TOK P t ti) {μ : Nat → Value} {S : Nat → Prop} {w : World} {cs : List Cell} {off : Nat} {x : Fl} {vs : List Value} {ad : Addr} (hp : pick ti cs off = some x) (ha : AllRel μ S w cs vs)
    (hc : ∀ j v, vs[off + j]? = some v → w.cell? (ad.add j) = some v) : ∃ v, (loadVar t ad).run P w = .ok v w ∧ FlRel μ S w x v := by
  rcases pick_rel hp ha with ⟨hk, hl, _, hr⟩ | ⟨hk, v, hv, hr, _⟩
  · refine ⟨_, ?_, hr⟩
    unfold loadVar
    simp only [Sem.run_bind, run_isAgg hT, Result.andThen_ok, hk, if_true, run_sizeOf hT, Sem.run_pure]
    have hlen : ((vs.drop off).take ti.sz).length = ti.sz := by
      rw [List.length_take, List.length_drop]
      omega
    have := run_loadCells_list (P := P) w ad ((vs.drop off).take ti.sz) (fun j v hv => hc j v (by
      rw [List.getElem?_take] at hv
      split at hv
      · rwa [List.getElem?_drop] at hv
      · cases hv))
    rw [hlen] at this
    rw [this]
    rfl
  · refine ⟨v, ?_, hr⟩
    unfold loadVar
    have h0 := hc 0 v (by simpa using hv)
    have : ad.add 0 = ad := by unfold Addr.add; rw [if_pos rfl]
    rw [this] at h0
    simp only [Sem.run_bind, run_isAgg hT, Result.andThen_ok, hk, Bool.false_eq_true, if_false, run_load, h0]

theorem ok_load_ptr {t : TypeId} {ti : TI} (hT : TOK P t ti) {p : Operand} {id off : Nat} {cs : List Cell} {x : Fl} (hp : evC st p = some (.ptr id off)) (hl : look st (2 * id + 1) = some (.box cs)) (hx : pick ti cs off = some x) :
    StepOK P (.load t p) st new (.f x) [] :=
  stepOK_pure fun S0 w0 nt μ FS a w o ho hs hsim => by
    obtain ⟨g, h1, h2⟩ := evC_rel hsim (sees_of hs (by simp [Op.operands])) hp
    have hi := seesIds_of hs (x := p) (by simp [Op.operands]) (evC_evO hp) id (by simp [tvIds, Fl.cells, cellIds, Cell.id?])
    obtain ⟨g', vs, Ty', h3, _, h4, h5⟩ := hsim.obj id (.box cs) (by rw [hi]; exact hl)
    rw [h1] at h3
    have hg : g = g' := by injection h3 with h3; injection h3 with h3; injection h3
    subst hg
    obtain ⟨v, hr, hv⟩ := load_at hT (ad := ⟨g, off, none⟩) hx h5 (box_cells h4 off)
    refine ⟨v, ?_, hv⟩
    unfold execOp
    rw [ho]
    simp only [Instr.loadAt, h2, Instr.sureAddr, Sem.run_bind, Sem.run_pure, Result.andThen_ok, hr]

theorem loadTy_some {ti : TI} {u : Ty} {x : u.den} {y : Fl} (h : loadTy ti u x = some y) : ti.k.agg = u.isPair ∧ u.sz = ti.sz ∧ y = flOf u x := by
  unfold loadTy at h
  cases hb : (ti.k.agg == u.isPair && Nat.beq u.sz ti.sz) with
  | false => rw [hb] at h; cases h
  | true =>
    rw [hb] at h
    injection h with h
    simp only [Bool.and_eq_true, beq_iff_eq] at hb
    exact ⟨hb.1, Nat.eq_of_beq_eq_true hb.2, h.symm⟩

theorem load_ref {t : TypeId} {ti : TI} (hT : TOK P t ti) {μ : Nat → Value} {S : Nat → Prop} {w : World} {u : Ty} {x : u.den} {y : Fl} {es : List Value} {ad : Addr} (hy : loadTy ti u x = some y) (hr : Rd S w u x es) (hc : At w ad es) :
    ∃ v, (loadVar t ad).run P w = .ok v w ∧ FlRel μ S w y v := by
  obtain ⟨h1, h2, h3⟩ := loadTy_some hy
  subst h3
  have hl := Rd_len hr
  cases hp : u.isPair with
  | true =>
    refine ⟨.agg es.toArray, ?_, flOf_rel μ u (by unfold Val; rw [hp]; exact ⟨es, rfl, hr⟩)⟩
    unfold loadVar
    simp only [Sem.run_bind, run_isAgg hT, Result.andThen_ok, h1, hp, if_true, run_sizeOf hT, Sem.run_pure]
    rw [← h2, ← hl, run_loadCells_list (P := P) w ad es hc]
    rfl
  | false =>
    have h1' : u.sz = 1 := by cases u <;> first | rfl | cases hp
    obtain ⟨v, rfl⟩ : ∃ v, es = [v] := by
      rw [h1'] at hl
      match es, hl with
      | [v], _ => exact ⟨v, rfl⟩
    refine ⟨v, ?_, flOf_rel μ u (by unfold Val; rw [hp]; exact hr)⟩
    unfold loadVar
    have h0 := hc 0 v rfl
    have : ad.add 0 = ad := by unfold Addr.add; rw [if_pos rfl]
    rw [this] at h0
    simp only [Sem.run_bind, run_isAgg hT, Result.andThen_ok, h1, hp, Bool.false_eq_true, if_false, run_load, h0]

theorem ok_load_ref {t : TypeId} {ti : TI} (hT : TOK P t ti) {p : Operand} {u : Ty} {x : u.den} {y : Fl} (hp : evC st p = some (.ref u x)) (hy : loadTy ti u x = some y) : StepOK P (.load t p) st new (.f y) [] :=
  stepOK_pure fun S0 w0 nt μ FS a w o ho hs hsim => by
    obtain ⟨ad, es, h1, h2, h3, _⟩ := evC_rel hsim (sees_of hs (by simp [Op.operands])) hp
    obtain ⟨v, hr, hv⟩ := load_ref hT (μ := μ) hy h2 h3
    refine ⟨v, ?_, hv⟩
    unfold execOp
    rw [ho]
    simp only [Instr.loadAt, h1, Instr.sureAddr, Sem.run_bind, Sem.run_pure, Result.andThen_ok, hr]

/-- An element of an own row. -/
theorem own_elem {μ : Nat → Value} {S : Nat → Prop} {w : World} {base id : Nat} {e : TypeId} {u : Ty} {xs : List u.den} (h : ObjRel μ S w base id (.row e u xs)) {g n c : Nat} (hv : μ id = .slice (some ⟨g, 0, none⟩) n c) {i : Nat} (hi : i < xs.length) :
    ∃ es, Rd S w u (xs[i]'hi) es ∧ ∀ off j v, es[off + j]? = some v → w.cell? ((⟨g, i * u.sz + off, none⟩ : Addr).add j) = some v := by
  obtain ⟨inner, h1, h2, _⟩ := h
  have hc : ∀ j u, inner[j]? = some u → w.cell? ((⟨g, 0, none⟩ : Addr).add j) = some u := h1.cells (by rw [hv]; rfl)
  obtain ⟨es, h3, h4⟩ := Parts_get h2 i hi
  refine ⟨es, h3, fun off j v hv => ?_⟩
  have := hc _ _ (h4 _ _ hv)
  rw [add_plain] at this ⊢
  rw [show 0 + (i * u.sz + (off + j)) = i * u.sz + off + j by omega] at this
  exact this

theorem getD_eq {α : Type} {xs : List α} {i : Nat} (h : i < xs.length) (d : α) : xs.getD i d = xs[i]'h := by
  rw [List.getD_eq_getElem?_getD, List.getElem?_eq_getElem h]
  rfl

theorem ok_load_own {t : TypeId} {ti : TI} (hT : TOK P t ti) {p : Operand} {id i off s : Nat} {e : TypeId} {u : Ty} {xs : List u.den} {x : Fl} (hp : evC st p = some (.eptr id i off s)) (hl : look st (2 * id + 1) = some (.row e u xs))
    (hi : i < xs.length) (hsz : s = u.sz) (hx : pick ti (cellsOf u (xs.getD i u.dflt)) off = some x) : StepOK P (.load t p) st new (.f x) [] :=
  stepOK_pure fun S0 w0 nt μ FS a w o ho hs hsim => by
    obtain ⟨g, n, c, h1, h2⟩ := evC_rel hsim (sees_of hs (by simp [Op.operands])) hp
    have hid := seesIds_of hs (x := p) (by simp [Op.operands]) (evC_evO hp) id (by simp [tvIds, Fl.cells, cellIds, Cell.id?])
    have hobj := hsim.obj id _ (by rw [hid]; exact hl)
    obtain ⟨es, h3, h4⟩ := own_elem hobj h1 hi
    rw [getD_eq hi] at hx
    subst hsz
    obtain ⟨v, hr, hv⟩ := load_at hT (ad := ⟨g, i * u.sz + off, none⟩) hx (cellsOf_rel μ u h3) (h4 off)
    refine ⟨v, ?_, hv⟩
    unfold execOp
    rw [ho]
    simp only [Instr.loadAt, h2, Instr.sureAddr, Sem.run_bind, Sem.run_pure, Result.andThen_ok, hr]

theorem ok_alloc {t : TypeId} {ti : TI} (hT : TOK P t ti) {n : Nat} (hf : fresh st n = true) : StepOK P (.alloc t) st (some n) (.f (.c (.ptr n 0))) [(2 * n + 1, .box ti.zero)] := by
  intro S0 w0 nt μ FS a w o ho hs hfr hsim next Q hn
  have hfs := hfr n rfl hf (by simp)
  obtain ⟨z, hz, hz1, _⟩ := run_zero hT w
  have hrun : (execOp a.eval o).run P w = .ok (.value (.pointer (some ⟨w.heap.size, 0, none⟩))) (w.alloc (.cells z.cells t)) := by
    unfold execOp
    rw [ho]
    simp only [Instr.alloc, Sem.run_bind, hz, Result.andThen_ok]
    rfl
  have hv : ∀ k, blk (.pointer (some ⟨w.heap.size, 0, none⟩)) = some k → w.heap.size ≤ k := fun k hk => by injection hk with hk; exact Nat.le_of_eq hk
  have hbel : Below w.heap.size w (w.alloc (.cells z.cells t)) := (Below.refl _ _).alloc (Nat.le_refl _) _
  refine step_of_run hrun (hn _ _ (upd μ n (.pointer (some ⟨w.heap.size, 0, none⟩))) (hsim.made hfs new_even (new_old (n := n)) new_self hbel hv ?_) ⟨w.heap.size, by unfold upd; rw [if_pos rfl], rfl⟩)
  exact ⟨w.heap.size, z.cells.toList, t, by unfold upd; rw [if_pos rfl], hsim.below.size, by simpa using heap_alloc_new w _, hz1 _ _ _⟩

theorem ok_alloc_bld {t : TypeId} {ti : TI} (hT : TOK P t ti) {u : Unit} (hz0 : ti.zero = [.v (.nul false) u, .nil]) {n : Nat} (hf : fresh st n = true) : StepOK P (.alloc t) st (some n) (.f (.c (.ptr n 0))) [(2 * n + 1, .bld t .nil)] := by
  intro S0 w0 nt μ FS a w o ho hs hfr hsim next Q hn
  have hfs := hfr n rfl hf (by simp)
  obtain ⟨z, hz, hz1, _⟩ := run_zero hT w
  have hrun : (execOp a.eval o).run P w = .ok (.value (.pointer (some ⟨w.heap.size, 0, none⟩))) (w.alloc (.cells z.cells t)) := by
    unfold execOp
    rw [ho]
    simp only [Instr.alloc, Sem.run_bind, hz, Result.andThen_ok]
    rfl
  have hv : ∀ k, blk (.pointer (some ⟨w.heap.size, 0, none⟩)) = some k → w.heap.size ≤ k := fun k hk => by injection hk with hk; exact Nat.le_of_eq hk
  have hbel : Below w.heap.size w (w.alloc (.cells z.cells t)) := (Below.refl _ _).alloc (Nat.le_refl _) _
  have hzc : z.cells = #[.pointer none, .slice none 0 0] := by
    have h1 := hz1 μ (fun _ => False) w
    rw [hz0] at h1
    obtain ⟨vp, r1, e1, h5, vq, r2, e2, h6, e3⟩ := h1
    have e3 : r2 = [] := e3
    have h5 : [vp] = [Value.pointer none] := h5
    have h6 : vq = .slice none 0 0 := h6
    apply Array.ext'
    rw [e1, e2, e3, h6, (List.cons.inj h5).1]
  refine step_of_run hrun (hn _ _ (upd μ n (.pointer (some ⟨w.heap.size, 0, none⟩))) (hsim.made hfs new_even (new_old (n := n)) new_self hbel hv ?_) ⟨w.heap.size, by unfold upd; rw [if_pos rfl], rfl⟩)
  exact ⟨w.heap.size, _, _, by unfold upd; rw [if_pos rfl], hsim.below.size, by rw [hzc]; exact heap_alloc_new w _, .inl rfl, rfl⟩

/-! ### Stores -/
theorem storeCells_run {g : Nat} {cur : Array Value} {t : TypeId} {w : World} (hg : w.heap[g]? = some (.cells cur t (0, 0))) (off : Nat) (vs : List Value) (h1 : ∀ u ∈ vs, u.oneCell' = true) (hl : off + vs.length ≤ cur.size) :
    (storeCells ⟨g, off, none⟩ vs).run P w = .ok () (w.setRow g (cur.toList.take off ++ vs ++ cur.toList.drop (off + vs.length)).toArray) := by
  have := run_storeCells_at P g off t vs 0 cur w hg (by omega) h1
  simpa using this

end Go.Ab
