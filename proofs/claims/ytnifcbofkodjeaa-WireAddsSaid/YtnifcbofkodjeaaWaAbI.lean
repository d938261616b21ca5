/- Lengths, the lesser and the greater, calls, rows made. -/
import Derived.Test.YtnifcbofkodjeaaWaAbH
import Derived.Great.BuildSlice
set_option linter.unusedVariables false
set_option linter.unusedSimpArgs false
namespace Go.Ab
open Go.RowKit

variable {P : Program} {T : Nat → Option TI} {st : St} {new : Option Nat}

theorem run_one {t : TypeId} {c : Call} {x : Operand} {b : Builtin} (hc : c.callee = .builtin b) (ha : c.args.toList = [x]) (hat : c.argTypes.toList = [t]) {a : Act} {o : Oper} (ho : o.op = .call c) (w : World) :
    (execOp a.eval o).run P w = (builtin b #[t] o.type (#[match x with | .const _ => true | _ => false]) #[a.eval x]).run P w := by
  obtain ⟨callee, args, argTypes⟩ := c
  simp only at hc ha hat
  obtain rfl : args = #[x] := by apply Array.ext'; exact ha
  obtain rfl : argTypes = #[t] := by apply Array.ext'; exact hat
  subst hc
  unfold execOp
  rw [ho]
  simp only [resolve, invoke, Sem.run_bind, Sem.run_pure, Result.andThen_ok, List.map_toArray, List.map_cons, List.map_nil]
  cases x <;> rfl

theorem ok_len_nil {t : TypeId} {ti : TI} (hT : TOK P t ti) {e : TypeId} (hk : ti.k = .slice e) {c : Call} {x : Operand} (hc : c.callee = .builtin .len) (ha : c.args.toList = [x]) (hat : c.argTypes.toList = [t]) (hx : evC st x = some .nil) :
    StepOK P (.call c) st new (.f (.c (.v (.int .i64) 0))) [] :=
  stepOK_pure fun S0 w0 nt μ FS a w o ho hs hsim => by
    have hmem : x ∈ (Op.call c).operands.toList := by
      obtain ⟨callee, args, argTypes⟩ := c
      simp only at hc ha hat
      obtain rfl : args = #[x] := by apply Array.ext'; exact ha
      subst hc
      simp [Op.operands, Call.operands]
    have hv : a.eval x = .slice none 0 0 := evC_rel hsim (sees_of hs hmem) hx
    refine ⟨.int .i64 0, ?_, rfl⟩
    rw [run_one hc ha hat ho w, hv]
    simp [builtin, Builtin.len_, run_underlying (slice_desc hT hk), goInt]

theorem ok_len_row {t : TypeId} {ti : TI} (hT : TOK P t ti) {e : TypeId} (hk : ti.k = .slice e) {c : Call} {x : Operand} (hc : c.callee = .builtin .len) (ha : c.args.toList = [x]) (hat : c.argTypes.toList = [t]) {y : Cell} (hx : evC st x = some y) {r : (t : Ty) × List t.den} (hr : rowCell st y = some r) :
    StepOK P (.call c) st new (.f (.c (.v (.int .i64) ((r.2.length : Nat) : Int)))) [] :=
  stepOK_pure fun S0 w0 nt μ FS a w o ho hs hsim => by
    have hmem : x ∈ (Op.call c).operands.toList := by
      obtain ⟨callee, args, argTypes⟩ := c
      simp only at hc ha hat
      obtain rfl : args = #[x] := by apply Array.ext'; exact ha
      subst hc
      simp [Op.operands, Call.operands]
    have hids := seesIds_of hs (x := x) hmem (evC_evO hx)
    obtain ⟨A, cp, h1, _⟩ := rowCell_rd hsim (by simpa [tvIds, Fl.cells] using hids) (evC_rel hsim (sees_of hs hmem) hx) hr
    have hv := (List.cons.inj h1).1
    refine ⟨.int .i64 r.2.length, ?_, rfl⟩
    rw [run_one hc ha hat ho w, hv]
    simp [builtin, Builtin.len_, run_underlying (slice_desc hT hk), goInt]

theorem run_args2 {c : Call} {x y : Operand} {b : Builtin} (hc : c.callee = .builtin b) (ha : c.args.toList = [x, y]) {a : Act} {o : Oper} (ho : o.op = .call c) (w : World) :
    ∃ cs, (execOp a.eval o).run P w = (builtin b c.argTypes o.type cs #[a.eval x, a.eval y]).run P w := by
  obtain ⟨callee, args, argTypes⟩ := c
  simp only at hc ha
  obtain rfl : args = #[x, y] := by apply Array.ext'; exact ha
  subst hc
  unfold execOp
  rw [ho]
  simp only [resolve, invoke, Sem.run_bind, Sem.run_pure, Result.andThen_ok, List.map_toArray, List.map_cons, List.map_nil]
  exact ⟨_, rfl⟩

theorem mem_args2 {c : Call} {x y : Operand} {b : Builtin} (hc : c.callee = .builtin b) (ha : c.args.toList = [x, y]) : x ∈ (Op.call c).operands.toList ∧ y ∈ (Op.call c).operands.toList := by
  obtain ⟨callee, args, argTypes⟩ := c
  simp only at hc ha
  obtain rfl : args = #[x, y] := by apply Array.ext'; exact ha
  subst hc
  simp [Op.operands, Call.operands]

theorem ok_min {c : Call} {x y : Operand} (hc : c.callee = .builtin .min) (ha : c.args.toList = [x, y]) {k : IntKind} {n m : Int} (hx : evC st x = some (.v (.int k) n)) (hy : evC st y = some (.v (.int k) m)) :
    StepOK P (.call c) st new (.f (.c (.v (.int k) (if m < n then m else n)))) [] :=
  stepOK_pure fun S0 w0 nt μ FS a w o ho hs hsim => by
    obtain ⟨m1, m2⟩ := mem_args2 hc ha
    have h1 : [a.eval x] = [.int k n] := evC_rel hsim (sees_of hs m1) hx
    have h2 : [a.eval y] = [.int k m] := evC_rel hsim (sees_of hs m2) hy
    refine ⟨.int k (if m < n then m else n), ?_, rfl⟩
    obtain ⟨cs, hr⟩ := run_args2 (P := P) hc ha ho w
    rw [hr, (List.cons.inj h1).1, (List.cons.inj h2).1]
    simp [builtin, Builtin.min_, Builtin.min2]

theorem ok_max {c : Call} {x y : Operand} (hc : c.callee = .builtin .max) (ha : c.args.toList = [x, y]) {k : IntKind} {n m : Int} (hx : evC st x = some (.v (.int k) n)) (hy : evC st y = some (.v (.int k) m)) :
    StepOK P (.call c) st new (.f (.c (.v (.int k) (if n < m then m else n)))) [] :=
  stepOK_pure fun S0 w0 nt μ FS a w o ho hs hsim => by
    obtain ⟨m1, m2⟩ := mem_args2 hc ha
    have h1 : [a.eval x] = [.int k n] := evC_rel hsim (sees_of hs m1) hx
    have h2 : [a.eval y] = [.int k m] := evC_rel hsim (sees_of hs m2) hy
    refine ⟨.int k (if n < m then m else n), ?_, rfl⟩
    obtain ⟨cs, hr⟩ := run_args2 (P := P) hc ha ho w
    rw [hr, (List.cons.inj h1).1, (List.cons.inj h2).1]
    simp [builtin, Builtin.max_, Builtin.max2]

/-! ### Calls -/
theorem Rd_flat {S S' : Nat → Prop} {w w' : World} : ∀ {t : Ty} {x : t.den} {cs : List Value}, t.hasSl = false → Rd S w t x cs → Rd S' w' t x cs
  | .int _, _, _, _, h => h
  | .bool, _, _, _, h => h
  | .str, _, _, _, h => h
  | .sl _, _, _, hh, _ => by cases hh
  | .pair a b, _, _, hh, ⟨c1, c2, h0, h1, h2⟩ => by
    have hh : (a.hasSl || b.hasSl) = false := hh
    rw [Bool.or_eq_false_iff] at hh
    exact ⟨c1, c2, h0, Rd_flat hh.1 h1, Rd_flat hh.2 h2⟩
  | .nul _, _, _, _, h => h

theorem Vals_flat {S S' : Nat → Prop} {w w' : World} : ∀ {ts : List Ty} {x : Dens ts} {vs : List Value}, ts.any Ty.hasSl = false → Vals S w ts x vs → Vals S' w' ts x vs
  | [], _, _, _, h => h
  | t :: ts, _, _, hh, ⟨v, r, h0, h1, h2⟩ => by
    rw [List.any_cons, Bool.or_eq_false_iff] at hh
    refine ⟨v, r, h0, ?_, Vals_flat hh.2 h2⟩
    unfold Val at *
    cases hp : t.isPair with
    | true =>
      rw [hp] at h1
      obtain ⟨cs, h3, h4⟩ := h1
      exact ⟨cs, h3, Rd_flat hh.1 h4⟩
    | false =>
      rw [hp] at h1
      exact Rd_flat hh.1 h1

theorem ret_rel {S : Nat → Prop} {w : World} (μ : Nat → Value) {ts : List Ty} {x : Dens ts} {v : Value} (h : Ret S w ts x v) : TVRel μ S w (retTV ts x) v := by
  obtain ⟨vs, h1, hv⟩ := h
  subst hv
  have hr := flsOf_rel μ ts h1
  unfold retTV
  split
  · rename_i y hy
    rw [hy] at hr
    obtain ⟨v, r, e, h2, h3⟩ := hr
    have h3 : r = [] := h3
    subst e
    subst h3
    exact h2
  · rename_i l hl
    refine ⟨vs, ?_, hr⟩
    match vs, hr with
    | [v], hr =>
      exfalso
      match hf : flsOf ts x, hr with
      | [], hr => cases hr
      | [y], _ => exact hl y hf
      | y :: z :: l, ⟨v', r, e, _, ⟨v2, r2, e2, _, _⟩⟩ =>
        injection e with _ e
        subst e
        cases e2
    | [], _ => rfl
    | _ :: _ :: _, _ => rfl

def Gv (i : Nat) (c : Cell) : Prop := c = .own i ∨ ∃ lo s, c = .osl i lo s

/-- What is given of a list of values. -/
theorem gives_look {x : List Fl} {l : Nat} {v : Lv} (h : look (x.flatMap gives) l = some v) : v = .gone ∧ ∃ i, l = 2 * i + 1 ∧ i ∈ x.flatMap fun y => cellIds y.cells := by
  have hm := look_mem h
  obtain ⟨y, hy, hm⟩ := List.mem_flatMap.1 hm
  obtain ⟨c, hc, hm⟩ := List.mem_filterMap.1 hm
  cases c with
  | own id =>
    simp only [Option.some.injEq, Prod.mk.injEq] at hm
    exact ⟨hm.2.symm, id, hm.1.symm, List.mem_flatMap.2 ⟨y, hy, List.mem_filterMap.2 ⟨.own id, hc, rfl⟩⟩⟩
  | osl id lo s =>
    simp only [Option.some.injEq, Prod.mk.injEq] at hm
    exact ⟨hm.2.symm, id, hm.1.symm, List.mem_flatMap.2 ⟨y, hy, List.mem_filterMap.2 ⟨.osl id lo s, hc, rfl⟩⟩⟩
  | _ => cases hm

theorem gives_given {x : List Fl} {y : Fl} {i : Nat} (hy : y ∈ x) {c : Cell} (hg : Gv i c) (hc : c ∈ y.cells) : look (x.flatMap gives) (2 * i + 1) = some .gone := by
  have hm : (2 * i + 1, Lv.gone) ∈ x.flatMap gives := List.mem_flatMap.2 ⟨y, hy, List.mem_filterMap.2 ⟨c, hc, by rcases hg with rfl | ⟨lo, s, rfl⟩ <;> rfl⟩⟩
  have key : ∀ (g : St), (2 * i + 1, Lv.gone) ∈ g → ∃ v, look g (2 * i + 1) = some v := by
    intro g
    induction g with
    | nil => intro h; cases h
    | cons p g ih =>
      intro h
      obtain ⟨m, u⟩ := p
      rw [look_cons]
      by_cases e : 2 * i + 1 = m
      · exact ⟨u, by rw [if_pos e]⟩
      · rw [if_neg e]
        cases h with
        | head => exact absurd rfl e
        | tail _ h => exact ih h
  obtain ⟨v, hv⟩ := key _ hm
  rw [hv, (gives_look hv).1]

/-- The cells that are read as a value are own rows, or no objects. -/
theorem ofCells_ids : ∀ (t : Ty) {cs : List Cell} {x : t.den} {r : List Cell}, ofCells t (cs.map (view false st)) = some (x, r) → ∃ cs1 cs2, cs = cs1 ++ cs2 ∧ r = cs2.map (view false st) ∧ ∀ i ∈ cellIds cs1, (∃ c ∈ cs1, Gv i c) ∧ ∃ e t xs, look st (2 * i + 1) = some (.row e t xs) := by
  have leaf : ∀ (t : Ty), t.isPair = false → ∀ {cs : List Cell} {x : t.den} {r : List Cell}, ofCells t (cs.map (view false st)) = some (x, r) → ∃ cs1 cs2, cs = cs1 ++ cs2 ∧ r = cs2.map (view false st) ∧ ∀ i ∈ cellIds cs1, (∃ c ∈ cs1, Gv i c) ∧ ∃ e t xs, look st (2 * i + 1) = some (.row e t xs) := by
    intro t ht cs x r he
    cases cs with
    | nil => cases t <;> first | cases he | cases ht
    | cons c cs =>
      obtain ⟨hr, hc⟩ := ofCells_leaf ht he
      refine ⟨[c], cs, rfl, hr, fun i hi => ?_⟩
      cases c with
      | own id =>
        have hid : i = id := by simpa [cellIds, Cell.id?] using hi
        subst hid
        refine ⟨⟨_, List.mem_singleton.2 rfl, .inl rfl⟩, ?_⟩
        simp only [view] at hc
        split at hc
        · rename_i e u xs hl
          exact ⟨e, u, xs, hl⟩
        · rcases hc with hc | ⟨hc, _⟩ <;> cases hc
      | osl id lo s =>
        have hid : i = id := by simpa [cellIds, Cell.id?] using hi
        subst hid
        refine ⟨⟨_, List.mem_singleton.2 rfl, .inr ⟨lo, s, rfl⟩⟩, ?_⟩
        simp only [view] at hc
        split at hc
        · rename_i e u xs hl
          exact ⟨e, u, xs, hl⟩
        · rcases hc with hc | ⟨hc, _⟩ <;> cases hc
      | clo _ _ _ _ => rcases hc with hc | ⟨hc, _⟩ <;> cases hc
      | asl _ _ _ => rcases hc with hc | ⟨hc, _⟩ <;> cases hc
      | ptr _ _ => rcases hc with hc | ⟨hc, _⟩ <;> cases hc
      | eptr _ _ _ _ => rcases hc with hc | ⟨hc, _⟩ <;> cases hc
      | mp _ => rcases hc with hc | ⟨hc, _⟩ <;> cases hc
      | _ => simp [cellIds, Cell.id?] at hi
  intro t
  induction t with
  | pair p q ihp ihq =>
    intro cs x r he
    simp only [ofCells] at he
    obtain ⟨⟨x1, r1⟩, h1, he⟩ := bind_some he
    obtain ⟨⟨x2, r2⟩, h2, he⟩ := bind_some he
    injection he with he
    injection he with hx hr
    subst hx
    subst hr
    obtain ⟨c1, c2, h3, h4, h5⟩ := ihp h1
    subst h4
    obtain ⟨d1, d2, h6, h7, h8⟩ := ihq h2
    subst h6
    refine ⟨c1 ++ d1, d2, by rw [h3, List.append_assoc], h7, fun i hi => ?_⟩
    have : cellIds (c1 ++ d1) = cellIds c1 ++ cellIds d1 := by unfold cellIds; exact List.filterMap_append ..
    rw [this] at hi
    rcases List.mem_append.1 hi with hi | hi
    · obtain ⟨⟨c, h9, h11⟩, h10⟩ := h5 i hi
      exact ⟨⟨c, List.mem_append_left _ h9, h11⟩, h10⟩
    · obtain ⟨⟨c, h9, h11⟩, h10⟩ := h8 i hi
      exact ⟨⟨c, List.mem_append_right _ h9, h11⟩, h10⟩
  | _ => exact leaf _ rfl

theorem ofFl_ids {t : Ty} {x : Fl} {y : t.den} (he : ofFl false st t x = some y) : ∀ i ∈ cellIds x.cells, (∃ c ∈ x.cells, Gv i c) ∧ ∃ e t xs, look st (2 * i + 1) = some (.row e t xs) := by
  obtain ⟨_, h1⟩ := ofFl_cells he
  obtain ⟨c1, c2, h2, h3, h4⟩ := ofCells_ids t h1
  have : c2 = [] := by cases c2 with | nil => rfl | cons _ _ => cases h3
  subst this
  rw [List.append_nil] at h2
  rw [h2]
  exact h4

theorem ofFls_ids : ∀ (ts : List Ty) {xs : List Fl} {y : Dens ts}, ofFls false st ts xs = some y → ∀ i ∈ xs.flatMap (fun x => cellIds x.cells), (∃ x ∈ xs, ∃ c ∈ x.cells, Gv i c) ∧ ∃ e t xs, look st (2 * i + 1) = some (.row e t xs)
  | [], [], _, _, i, hi => by cases hi
  | [], _ :: _, _, he, _, _ => by cases he
  | _ :: _, [], _, he, _, _ => by cases he
  | t :: ts, x :: xs, _, he, i, hi => by
    simp only [ofFls] at he
    obtain ⟨p, hp, he⟩ := bind_some he
    obtain ⟨q, hq, he⟩ := bind_some he
    rw [List.flatMap_cons] at hi
    rcases List.mem_append.1 hi with hi | hi
    · obtain ⟨h1, h2⟩ := ofFl_ids hp i hi
      exact ⟨⟨x, List.mem_cons_self, h1⟩, h2⟩
    · obtain ⟨⟨z, h1, h2⟩, h3⟩ := ofFls_ids ts hq i hi
      exact ⟨⟨z, List.mem_cons_of_mem _ h1, h2⟩, h3⟩

theorem live_lt {S0 : Nat → Prop} {w0 : World} {nt : Nat} {μ : Nat → Value} {FS : Nat → Option Lv} {a : Act} {w : World} (h : Sim S0 w0 nt μ FS a w) {k : Nat} (hk : live S0 μ FS k) : k < w.heap.size := by
  rcases hk with hk | ⟨id, lv, h1, h2, h3⟩
  · exact Nat.lt_of_lt_of_le (h.low k hk) h.below.size
  · exact ((h.obj id lv h1).lt h2 h3).2

/-- A call of a function, its arguments at hand. -/
theorem call_core {G : Env} (hG : EnvOK P G) {op : Op} {f : FuncId} {E : Entry} (hE : G f = some E) (hsp : E.sp.isNo = true) {k : Nat} {xs : List Fl} {x : Dens E.args} (hx : ofFls (!(E.rets.any Ty.hasSl)) st E.args xs = some x)
    {r : Dens E.rets} (hr : E.run k x = some r) {S0 : Nat → Prop} {w0 : World} {nt : Nat} {μ : Nat → Value} {FS : Nat → Option Lv} {a : Act} {w : World} {o : Oper} (hsim : Sim S0 w0 nt μ FS a w) {vs : List Value} (hrel : FlsRel μ (live S0 μ FS) w xs vs) (hids : SeesIds st FS (xs.flatMap fun x => cellIds x.cells))
    (hrun : (execOp a.eval o).run P w = .ok (.enter f vs.toArray) w) {next : Act → World → Prop} {Q : Exit → Act → World → Prop}
    (hn : ∀ v w' μ', Sim S0 w0 nt μ' (over (cond (E.rets.any Ty.hasSl) (xs.flatMap gives) []) FS) a w' → TVRel μ' (live S0 μ' (over (cond (E.rets.any Ty.hasSl) (xs.flatMap gives) []) FS)) w' (retTV E.rets r) v → next (a.put o.dst v) w') : o.wp P a w next Q := by
  have hC := hG.get hE hsp
  unfold Oper.wp
  rw [hrun, Oper.upon_enter]
  cases hb : E.rets.any Ty.hasSl with
  | false =>
    have hv : Vals (fun _ => False) w E.args x vs := ofFls_rd hsim (fun _ hk => hk.elim) E.args hids (fun _ _ _ _ hk => hk.elim) hrel hx
    refine (hC.calls k x r hr (fun _ => False) _ w (fun _ hk => hk.elim) hv).mono fun e w' hh => ?_
    obtain ⟨v, he, ⟨vs, hvs, hvt⟩, hbel⟩ := hh
    subst he
    rw [hb] at hn
    have hsim' := hsim.grow hbel
    exact hn v w' μ hsim' (ret_rel μ ⟨vs, Vals_flat hb hvs, hvt⟩)
  | true =>
    rw [hb] at hn hx
    have hown := ofFls_ids E.args hx
    have hsg : Sim S0 w0 nt μ (over (xs.flatMap gives) FS) a w := by
      refine hsim.gives (fun s => ?_) (fun id => ?_)
      · unfold over
        cases hl : look (xs.flatMap gives) (2 * s) with
        | none => rfl
        | some v =>
          obtain ⟨_, i, hi, _⟩ := gives_look hl
          omega
      · unfold over
        cases hl : look (xs.flatMap gives) (2 * id + 1) with
        | none => exact .inl rfl
        | some v => exact .inr (by rw [(gives_look hl).1])
    have hlv : ∀ k, live S0 μ (over (xs.flatMap gives) FS) k → live S0 μ FS k := by
      rintro k (hk | ⟨id, lv, h1, h2, h3⟩)
      · exact .inl hk
      · refine .inr ⟨id, lv, ?_, h2, h3⟩
        unfold over at h1
        cases hl : look (xs.flatMap gives) (2 * id + 1) with
        | none => rw [hl] at h1; exact h1
        | some v =>
          rw [hl, (gives_look hl).1] at h1
          injection h1 with h1
          subst h1
          cases h2
    have haway : Away μ (live S0 μ (over (xs.flatMap gives) FS)) (xs.flatMap fun x => cellIds x.cells) := by
      intro i hi k hk hl
      obtain ⟨⟨z, hz, c, hzc, hgv⟩, e, t, row, hrow⟩ := hown i hi
      have hFS : FS (2 * i + 1) = some (.row e t row) := (hids i hi).trans hrow
      have hge := ((hsim.obj i _ hFS).lt rfl hk).1
      rcases hl with hl | ⟨id, lv, h1, h2, h3⟩
      · have := hsim.low k hl
        omega
      · have hne : id ≠ i := by
          intro e
          subst e
          unfold over at h1
          rw [gives_given hz hgv hzc] at h1
          injection h1 with h1
          subst h1
          cases h2
        have h4 : FS (2 * id + 1) = some lv := by
          unfold over at h1
          cases hl : look (xs.flatMap gives) (2 * id + 1) with
          | none => rw [hl] at h1; exact h1
          | some v =>
            rw [hl, (gives_look hl).1] at h1
            injection h1 with h1
            subst h1
            cases h2
        exact hsim.inj id i lv _ k h4 hFS h2 rfl hne h3 hk
    have hv := ofFls_rd hsim hlv E.args hids haway hrel hx
    refine (hC.calls k x r hr _ _ w (fun j hj => live_lt hsg hj) hv).mono fun e w' hh => ?_
    obtain ⟨v, he, hret, hbel⟩ := hh
    subst he
    exact hn v w' μ (hsg.grow hbel) (ret_rel μ hret)

theorem evFs_ids {FS : Nat → Option Lv} {op : Op} (hs : ∀ l, l ∈ opReads op st → FS l = look st l) : ∀ {l : List Operand} {ys : List Fl}, (∀ y ∈ l, y ∈ op.operands.toList) → evFs st l = some ys → SeesIds st FS (ys.flatMap fun x => cellIds x.cells)
  | [], _, _, he => by
    injection he with he
    subst he
    intro i hi
    cases hi
  | y :: l, _, hm, he => by
    simp only [evFs] at he
    obtain ⟨z, h1, he⟩ := bind_some he
    obtain ⟨zs, h2, he⟩ := bind_some he
    injection he with he
    subst he
    intro i hi
    rw [List.flatMap_cons] at hi
    rcases List.mem_append.1 hi with hi | hi
    · exact seesIds_of hs (hm y List.mem_cons_self) (evF_evO h1) i hi
    · exact evFs_ids hs (fun y hy => hm y (List.mem_cons_of_mem _ hy)) h2 i hi

theorem call_mem {c : Call} {y : Operand} (hc : ∃ x, c.callee = .value x) (hy : y ∈ c.args.toList) : y ∈ (Op.call c).operands.toList := by
  obtain ⟨x, hc⟩ := hc
  simp only [Op.operands, Call.operands, hc]
  first | exact hy | (simp only [Array.toList_append, List.mem_append]; exact .inr hy) | simpa using hy | (simp; exact .inr (by simpa using hy))

theorem ok_call {G : Env} (hG : EnvOK P G) {c : Call} {f : FuncId} (hc : c.callee = .value (.func f)) {E : Entry} (hE : G f = some E) (hsp : E.sp.isNo = true) {k : Nat} {xs : List Fl} (hxs : evFs st c.args.toList = some xs) {x : Dens E.args} (hx : ofFls (!(E.rets.any Ty.hasSl)) st E.args xs = some x)
    {r : Dens E.rets} (hr : E.run k x = some r) : StepOK P (.call c) st new (retTV E.rets r) (cond (E.rets.any Ty.hasSl) (xs.flatMap gives) []) := by
  intro S0 w0 nt μ FS a w o ho hs _ hsim next Q hn
  have hmem : ∀ y ∈ c.args.toList, y ∈ (Op.call c).operands.toList := fun y hy => call_mem ⟨_, hc⟩ hy
  have hrel := evFs_rel hsim (fun y hy => sees_of hs (hmem y hy)) hxs
  refine call_core hG (op := .call c) hE hsp hx hr hsim hrel (evFs_ids hs hmem hxs) ?_ hn
  have he := (hG.get hE hsp).enters (c.args.toList.map a.eval).toArray w
  unfold execOp
  rw [ho]
  obtain ⟨callee, args, argTypes⟩ := c
  simp only at hc
  subst hc
  simp only [resolve, invoke, Sem.run_bind]
  rw [show Array.map a.eval args = (args.toList.map a.eval).toArray from by apply Array.ext'; exact Array.toList_map ..]
  simpa [Act.eval, Deferred.ofValue] using he

theorem FlsRel_append {μ : Nat → Value} {S : Nat → Prop} {w : World} : ∀ {xs ys : List Fl} {vs us : List Value}, FlsRel μ S w xs vs → FlsRel μ S w ys us → FlsRel μ S w (xs ++ ys) (vs ++ us)
  | [], _, _, _, h, h' => by
    have h : _ = [] := h
    subst h
    exact h'
  | x :: xs, _, _, _, ⟨v, r, hv, h1, h2⟩, h' => by
    subst hv
    exact ⟨v, r ++ _, rfl, h1, FlsRel_append h2 h'⟩

/-- A closure that caught one variable is called. -/
theorem ok_call_fn {G : Env} (hG : EnvOK P G) {c : Call} {s : Tmp} (hc : c.callee = .value (.tmp s)) {f : FuncId} {u : Ty} {y : u.den} (hcl : evC st (.tmp s) = some (.v (.fn f u) y)) {E : Entry} (hE : G f = some E) (hsp : E.sp.isNo = true) {k : Nat} {xs : List Fl} (hxs : evFs st c.args.toList = some xs)
    {x : Dens E.args} (hx : ofFls (!(E.rets.any Ty.hasSl)) st E.args (xs ++ [.c (.ref u y)]) = some x)
    {r : Dens E.rets} (hr : E.run k x = some r) : StepOK P (.call c) st new (retTV E.rets r) (cond (E.rets.any Ty.hasSl) (xs.flatMap gives) []) := by
  intro S0 w0 nt μ FS a w o ho hs _ hsim next Q hn
  have hmem : ∀ y ∈ c.args.toList, y ∈ (Op.call c).operands.toList := fun y hy => call_mem ⟨_, hc⟩ hy
  have hrel := evFs_rel hsim (fun y hy => sees_of hs (hmem y hy)) hxs
  have hms : Operand.tmp s ∈ (Op.call c).operands.toList := by
    simp only [Op.operands, Call.operands, hc]
    simp
  have hv : Rd (live S0 μ FS) w (.fn f u) y [a.eval (.tmp s)] := evC_rel hsim (sees_of hs hms) hcl
  obtain ⟨ad, es, h1, h2, h3, h4⟩ := hv
  have h1 := (List.cons.inj h1).1
  have hg : (xs ++ [Fl.c (.ref u y)]).flatMap gives = xs.flatMap gives := by
    rw [List.flatMap_append]
    simp [gives, Fl.cells]
  have hi : (xs ++ [Fl.c (.ref u y)]).flatMap (fun x => cellIds x.cells) = xs.flatMap fun x => cellIds x.cells := by
    rw [List.flatMap_append]
    simp [cellIds, Fl.cells, Cell.id?]
  refine call_core hG (op := .call c) hE hsp hx hr hsim (FlsRel_append hrel ⟨.pointer (some ad), [], rfl, ⟨ad, es, rfl, h3, h4, h2⟩, rfl⟩) (by rw [hi]; exact evFs_ids hs hmem hxs) ?_ (by rw [hg]; exact hn)
  have he := (hG.get hE hsp).enters (c.args.toList.map a.eval ++ [Value.pointer (some ad)]).toArray w
  unfold execOp
  rw [ho]
  obtain ⟨callee, args, argTypes⟩ := c
  simp only at hc
  subst hc
  simp only [resolve, invoke, Sem.run_bind, h1]
  rw [show Array.map a.eval args = (args.toList.map a.eval).toArray from by apply Array.ext'; exact Array.toList_map ..]
  simpa [Deferred.ofValue] using he

end Go.Ab
