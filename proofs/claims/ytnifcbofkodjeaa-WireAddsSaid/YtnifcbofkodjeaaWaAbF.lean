/- Stores; fields, elements, pieces. -/
import Derived.Test.YtnifcbofkodjeaaWaAbE
set_option linter.unusedVariables false
set_option linter.unusedSimpArgs false
namespace Go.Ab
open Go.RowKit

variable {P : Program} {T : Nat → Option TI} {st : St} {new : Option Nat}

theorem live_same {S0 : Nat → Prop} {μ : Nat → Value} {FS : Nat → Option Lv} {id : Nat} {lv lv' : Lv} (h : FS (2 * id + 1) = some lv) (ho : lv.isObj = true) (k : Nat) : live S0 μ (over [(2 * id + 1, lv')] FS) k → live S0 μ FS k := by
  rintro (hl | ⟨i, x, hx, hxo, hb⟩)
  · exact .inl hl
  · by_cases e : i = id
    · subst e
      exact .inr ⟨i, lv, h, ho, hb⟩
    · rw [over_one, if_neg (by omega)] at hx
      exact .inr ⟨i, x, hx, hxo, hb⟩

/-- An object's block is written; it is told anew. -/
theorem Sim.store {S0 : Nat → Prop} {w0 : World} {nt : Nat} {μ : Nat → Value} {FS : Nat → Option Lv} {a : Act} {w : World} (h : Sim S0 w0 nt μ FS a w) {id g : Nat} {lv lv' : Lv} (hl : FS (2 * id + 1) = some lv) (ho : lv.isObj = true)
    (hg : blk (μ id) = some g) {w' : World} (hos : w'.os = w.os) (htape : w'.tape = w.tape) (hout : w'.output = w.output) (hsz : w'.heap.size = w.heap.size) (hblk : ∀ k, k ≠ g → w'.heap[k]? = w.heap[k]?)
    (hobj : Agree (live S0 μ FS) w w' → ObjRel μ (live S0 μ (over [(2 * id + 1, lv')] FS)) w' w0.heap.size id lv') :
    Sim S0 w0 nt μ (over [(2 * id + 1, lv')] FS) a w' := by
  have hlive : live S0 μ FS g := .inr ⟨id, lv, hl, ho, hg⟩
  have hge := ((h.obj id lv hl).lt ho hg).1
  have hag : Agree (live S0 μ FS) w w' := ⟨Nat.le_of_eq hsz.symm, fun k _ hn => hblk k (fun e => hn (e ▸ hlive))⟩
  have surv : ∀ i x, i ≠ id → over [(2 * id + 1, lv')] FS (2 * i + 1) = some x → FS (2 * i + 1) = some x := by
    intro i x hne hx
    rwa [over_one, if_neg (by omega)] at hx
  refine h.gen id lv' _ μ w' new_even (new_old (n := id)) new_self (fun _ _ _ _ _ => rfl) (fun _ _ _ _ => rfl) hag
    ⟨hos.trans h.below.os, htape.trans h.below.tape, hout.trans h.below.output, by rw [hsz]; exact h.below.size, fun k hk => (hblk k (by omega)).trans (h.below.block k hk)⟩
    (fun i x k hne hx hxo hk => hblk k (fun e => ?_)) (fun k hk _ => .inr ⟨id, lv, hl, ho, hk⟩) (fun i x k hne hx hxo hk hk' => ?_) (hobj hag)
  · subst e
    exact h.inj id i lv x k hl (surv i x hne hx) ho hxo (fun e => hne e.symm) hg hk
  · exact h.inj id i lv x k hl (surv i x hne hx) ho hxo (fun e => hne e.symm) hk hk'

theorem cells_size {μ : Nat → Value} {S : Nat → Prop} {w : World} {x : Fl} {v : Value} (h : FlRel μ S w x v) : v.cells.size = x.cells.length := by
  have := AllRel_len (Fl.cells_rel h)
  rwa [Array.length_toList] at this

theorem run_storeVar {t : TypeId} {ti : TI} (hT : TOK P t ti) {w : World} {v : Value} {g off : Nat} {cur : Array Value} {Ty' : TypeId} (hg : w.heap[g]? = some (.cells cur Ty' (0, 0))) (hs : v.cells.size = ti.sz) (h1 : ∀ u ∈ v.cells.toList, u.oneCell' = true)
    (hl : off + ti.sz ≤ cur.size) : (storeVar t ⟨g, off, none⟩ v).run P w = .ok () (w.setRow g (cur.toList.take off ++ v.cells.toList ++ cur.toList.drop (off + ti.sz)).toArray) := by
  unfold storeVar
  have := storeCells_run (P := P) hg off v.cells.toList h1 (by rw [Array.length_toList, hs]; exact hl)
  rw [Array.length_toList, hs] at this
  simp only [Sem.run_bind, run_sizeOf hT, Result.andThen_ok, hs, ne_eq, not_true_eq_false, if_false, Sem.run_pure, this]

theorem ok_store_ptr {t : TypeId} {ti : TI} (hT : TOK P t ti) {p x : Operand} {v : Fl} {id off : Nat} {cs : List Cell} (hx : evF st x = some v) (hp : evC st p = some (.ptr id off)) (hl : look st (2 * id + 1) = some (.box cs))
    (hsz : v.cells.length = ti.sz) (hoff : off + ti.sz ≤ cs.length) : StepOK P (.store t p x) st new (.tup []) [(2 * id + 1, .box (cs.take off ++ v.cells ++ cs.drop (off + ti.sz)))] := by
  intro S0 w0 nt μ FS a w o ho hs _ hsim next Q hn
  obtain ⟨g, h1, h2⟩ := evC_rel hsim (sees_of hs (by simp [Op.operands])) hp
  have hv := evF_rel hsim (sees_of hs (by simp [Op.operands])) hx
  have hi := seesIds_of hs (x := p) (by simp [Op.operands]) (evC_evO hp) id (by simp [tvIds, Fl.cells, cellIds, Cell.id?])
  have hFS : FS (2 * id + 1) = some (.box cs) := by rw [hi]; exact hl
  obtain ⟨g', vs, Ty', h3, hge, h4, h5⟩ := hsim.obj id (.box cs) hFS
  rw [h1] at h3
  have hg : g = g' := by injection h3 with h3; injection h3 with h3; injection h3
  subst hg
  have hlen := AllRel_len h5
  have hcells := Fl.cells_rel hv
  have hrun := run_storeVar hT (w := w) (v := a.eval x) (off := off) h4 (by rw [cells_size hv, hsz]) (AllRel_one hcells) (by simp; omega)
  have hrun' : (execOp a.eval o).run P w = .ok .skip (w.setRow g (vs.take off ++ (a.eval x).cells.toList ++ vs.drop (off + ti.sz)).toArray) := by
    unfold execOp
    rw [ho]
    simp only [Instr.storeAt, h2, Instr.sureAddr, Sem.run_bind, Sem.run_pure, Result.andThen_ok, hrun]
  have hsim' := hsim.store (lv' := .box (cs.take off ++ v.cells ++ cs.drop (off + ti.sz))) (w' := w.setRow g (vs.take off ++ (a.eval x).cells.toList ++ vs.drop (off + ti.sz)).toArray) hFS rfl (g := g) (by rw [h1]; rfl) rfl rfl rfl
    (by simp [World.setRow]) (fun k hk => setRow_other w g k _ hk) (fun hag => ⟨g, vs.take off ++ (a.eval x).cells.toList ++ vs.drop (off + ti.sz), Ty', h1, hge, setRow_heap w g _ _ Ty' (0, 0) h4,
      AllRel.move hag (fun k _ hk => live_same hFS rfl k hk) (fun _ _ => rfl) (AllRel_append (AllRel_append (AllRel_take _ h5) hcells) (AllRel_drop _ h5))⟩)
  exact step_of_skip hrun' (hn _ _ μ hsim' ⟨[], rfl, rfl⟩)

theorem Parts_set {S : Nat → Prop} {w : World} {t : Ty} {y : t.den} {es : List Value} (hy : Rd S w t y es) : ∀ {xs : List t.den} {l : List Value}, Parts S w t xs l → ∀ i, i < xs.length →
    Parts S w t (xs.set i y) (l.take (i * t.sz) ++ es ++ l.drop (i * t.sz + t.sz))
  | [], _, _, i, hi => absurd hi (Nat.not_lt_zero _)
  | x :: xs, _, ⟨e0, r, h, h1, h2⟩, i, hi => by
    subst h
    have hl := Rd_len h1
    cases i with
    | zero =>
      rw [Nat.zero_mul, Nat.zero_add, List.take_zero, List.nil_append, ← hl, List.drop_left]
      exact ⟨es, r, rfl, hy, h2⟩
    | succ i =>
      have e1 : (i + 1) * t.sz = e0.length + i * t.sz := by rw [hl, Nat.add_mul]; omega
      have e2 : (i + 1) * t.sz + t.sz = e0.length + (i * t.sz + t.sz) := by rw [e1]; omega
      rw [e2, e1, List.take_append, List.drop_append, List.take_of_length_le (by omega), List.drop_eq_nil_of_le (by omega), List.nil_append,
        show e0.length + i * t.sz - e0.length = i * t.sz by omega, show e0.length + (i * t.sz + t.sz) - e0.length = i * t.sz + t.sz by omega]
      exact ⟨e0, r.take (i * t.sz) ++ es ++ r.drop (i * t.sz + t.sz), by simp only [List.append_assoc], h1, Parts_set hy h2 i (by simpa using hi)⟩

theorem own_set {w : World} {base : Nat} {e : TypeId} {sz n g c : Nat} {inner : List Value} (h : w.ownsRow base e sz (.slice (some ⟨g, 0, none⟩) n c) n inner) {cur : Array Value} {Ty' : TypeId} (hg : w.heap[g]? = some (.cells cur Ty' (0, 0))) {off : Nat} {es : List Value}
    (hoff : off + es.length ≤ inner.length) : (w.setRow g (cur.toList.take off ++ es ++ cur.toList.drop (off + es.length)).toArray).ownsRow base e sz (.slice (some ⟨g, 0, none⟩) n c) n (inner.take off ++ es ++ inner.drop (off + es.length)) := by
  obtain ⟨hlen, h⟩ := h
  rcases h with ⟨hv, _⟩ | ⟨g', cap, cur', hv, hb, hg', hnc, hcm, hcs, htake⟩
  · cases hv
  · have e1 : g' = g := by injection hv with hv; injection hv with hv; injection hv with hv; exact hv.symm
    subst e1
    have e2 : c = cap := by injection hv
    subst e2
    rw [hg] at hg'
    injection hg' with hg'
    injection hg' with hcur hty
    subst hcur
    subst hty
    have hcl : inner.length ≤ cur.toList.length := by rw [← htake, List.length_take]; exact Nat.min_le_right _ _
    have hcu : cur.toList.length = cur.size := Array.length_toList
    have tl1 : (cur.toList.take off).length = off := by rw [List.length_take]; omega
    have tl2 : (inner.take off).length = off := by rw [List.length_take]; omega
    refine ⟨?_, .inr ⟨g', c, _, rfl, hb, setRow_heap w g' cur _ Ty' (0, 0) hg, hnc, hcm, ?_, ?_⟩⟩
    · rw [List.length_append, List.length_append, tl2, List.length_drop]
      omega
    · rw [List.size_toArray, List.length_append, List.length_append, tl1, List.length_drop]
      omega
    · have hin : inner = cur.toList.take inner.length := by rw [hlen, htake]
      show (cur.toList.take off ++ es ++ cur.toList.drop (off + es.length)).take (n * sz) = _
      rw [← hlen]
      apply List.ext_getElem?
      intro j
      rw [List.getElem?_take]
      have gin : ∀ j, j < inner.length → cur.toList[j]? = inner[j]? := fun j hj => by
        conv => rhs; rw [hin]
        rw [List.getElem?_take, if_pos hj]
      by_cases hj : j < inner.length
      · rw [if_pos hj, List.append_assoc, List.append_assoc]
        by_cases h1 : j < off
        · rw [List.getElem?_append_left (by rw [tl1]; exact h1), List.getElem?_append_left (by rw [tl2]; exact h1), List.getElem?_take, List.getElem?_take, if_pos h1, if_pos h1, gin j hj]
        · rw [List.getElem?_append_right (show (cur.toList.take off).length ≤ j by omega), List.getElem?_append_right (show (inner.take off).length ≤ j by omega), tl1, tl2]
          by_cases h2 : j - off < es.length
          · rw [List.getElem?_append_left h2, List.getElem?_append_left h2]
          · rw [List.getElem?_append_right (show es.length ≤ j - off by omega), List.getElem?_append_right (show es.length ≤ j - off by omega), List.getElem?_drop, List.getElem?_drop, gin _ (by omega)]
      · rw [if_neg hj]
        symm
        apply List.getElem?_eq_none
        rw [List.length_append, List.length_append, tl2, List.length_drop]
        omega

theorem ofFl_plain {t : Ty} {x : Fl} {y : t.den} {μ : Nat → Value} {S : Nat → Prop} {w : World} {v : Value} (hx : FlRel μ S w x v) (he : plainFl t x = some y) : Rd S w t y v.cells.toList := by
  unfold plainFl at he
  have hc : (x.isAgg == t.isPair) = true := by cases hb : x.isAgg == t.isPair <;> rw [hb] at he <;> first | cases he | rfl
  rw [hc] at he
  obtain ⟨⟨y', r⟩, h1, he⟩ := bind_some (show (ofCells t x.cells).bind _ = some y from he)
  cases r with
  | cons _ _ => cases he
  | nil =>
    injection he with he
    have he : y' = y := he
    subst he
    obtain ⟨v1, v2, hv, hr, ha⟩ := plain_rd t (Fl.cells_rel hx) h1
    have ha : v2 = [] := ha
    subst ha
    rw [List.append_nil] at hv
    rw [hv]
    exact hr

theorem ok_store_own {t : TypeId} {ti : TI} (hT : TOK P t ti) {p x : Operand} {v : Fl} {id i s : Nat} {e : TypeId} {u : Ty} {xs : List u.den} {y : u.den} (hx : evF st x = some v) (hp : evC st p = some (.eptr id i 0 s)) (hl : look st (2 * id + 1) = some (.row e u xs))
    (hi : i < xs.length) (hsu : s = u.sz) (hut : u.sz = ti.sz) (hy : plainFl u v = some y) : StepOK P (.store t p x) st new (.tup []) [(2 * id + 1, .row e u (xs.set i y))] := by
  intro S0 w0 nt μ FS a w o ho hs _ hsim next Q hn
  obtain ⟨g, n, c, h1, h2⟩ := evC_rel hsim (sees_of hs (by simp [Op.operands])) hp
  have hv := evF_rel hsim (sees_of hs (by simp [Op.operands])) hx
  have hid := seesIds_of hs (x := p) (by simp [Op.operands]) (evC_evO hp) id (by simp [tvIds, Fl.cells, cellIds, Cell.id?])
  have hFS : FS (2 * id + 1) = some (.row e u xs) := by rw [hid]; exact hl
  obtain ⟨inner, h3, h4, h5⟩ := hsim.obj id _ hFS
  have hrd := ofFl_plain hv hy
  have hes := Rd_len hrd
  have hil := Parts_len h4
  rw [h1] at h3
  have hn' : n = xs.length := by
    rcases h3.2 with ⟨hv, _⟩ | ⟨_, _, _, hv, _⟩
    · cases hv
    · injection hv
  subst hn'
  obtain ⟨cur, hg, hcl⟩ : ∃ cur, w.heap[g]? = some (.cells cur e (0, 0)) ∧ inner.length ≤ cur.size := by
    rcases h3.2 with ⟨hv, _⟩ | ⟨g', cap, cur, hv, _, hg, _, _, _, htake⟩
    · cases hv
    · have e1 : g = g' := by injection hv with hv; injection hv with hv; injection hv with hv
      subst e1
      refine ⟨cur, hg, ?_⟩
      rw [← htake, List.length_take, Array.length_toList]
      exact Nat.min_le_right _ _
  have hbound : i * u.sz + u.sz ≤ inner.length := by
    rw [hil, ← Nat.succ_mul]
    exact Nat.mul_le_mul_right _ hi
  have hrun := run_storeVar hT (w := w) (v := a.eval x) (off := i * u.sz) hg (by rw [← Array.length_toList, hes, hut]) (AllRel_one (Fl.cells_rel hv)) (by omega)
  have hrun' : (execOp a.eval o).run P w = .ok .skip (w.setRow g (cur.toList.take (i * u.sz) ++ (a.eval x).cells.toList ++ cur.toList.drop (i * u.sz + ti.sz)).toArray) := by
    unfold execOp
    rw [ho]
    subst hsu
    simp only [Instr.storeAt, h2, Nat.add_zero, Instr.sureAddr, Sem.run_bind, Sem.run_pure, Result.andThen_ok, hrun]
  have hset := own_set h3 hg (off := i * u.sz) (es := (a.eval x).cells.toList) (by rw [hes]; exact hbound)
  rw [hes, hut] at hset
  rw [← hut] at hset hrun'
  have hsim' := hsim.store (lv' := .row e u (xs.set i y)) (w' := w.setRow g (cur.toList.take (i * u.sz) ++ (a.eval x).cells.toList ++ cur.toList.drop (i * u.sz + u.sz)).toArray) hFS rfl (g := g) (by rw [h1]; rfl) rfl rfl rfl
    (by simp [World.setRow]) (fun k hk => setRow_other w g k _ hk) (fun hag => by
      refine ⟨_, ?_, Parts.move hag (fun k _ hk => live_same hFS rfl k hk) (Parts_set hrd h4 i hi), by rw [List.length_set]; exact h5⟩
      rw [h1, List.length_set]
      exact hset)
  exact step_of_skip hrun' (hn _ _ μ hsim' ⟨[], rfl, rfl⟩)

end Go.Ab
