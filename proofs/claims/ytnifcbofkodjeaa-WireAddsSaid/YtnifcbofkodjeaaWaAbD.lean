/- One operation: what the interpreter says of it, the model does. First: how a state goes on. -/
import Derived.Test.YtnifcbofkodjeaaWaAbC
set_option linter.unusedVariables false
set_option linter.unusedSimpArgs false
namespace Go.Ab
open Go.RowKit

def over (eff : St) (FS : Nat → Option Lv) (l : Nat) : Option Lv := match look eff l with | some v => some v | none => FS l
def FreshFS (FS : Nat → Option Lv) (n : Nat) : Prop := FS (2 * n + 1) = none ∧ ∀ l lv, FS l = some lv → n ∉ lvIds lv
def opReads (op : Op) (st : St) : List Nat := (opSlots op).flatMap fun s => 2 * s :: slotIds st s
def upd (μ : Nat → Value) (n : Nat) (v : Value) (i : Nat) : Value := if i = n then v else μ i

theorem over_nil (FS : Nat → Option Lv) : over [] FS = FS := rfl

theorem upd_agree {μ : Nat → Value} {n : Nat} {v : Value} {l : List Nat} (h : n ∉ l) : agreeOn μ (upd μ n v) l := fun i hi => by
  unfold upd
  rw [if_neg (fun e : i = n => h (e ▸ hi))]

/-- One object told anew; some given up; the others as they were. -/
theorem Sim.gen {S0 : Nat → Prop} {w0 : World} {nt : Nat} {μ : Nat → Value} {FS : Nat → Option Lv} {a : Act} {w : World} (h : Sim S0 w0 nt μ FS a w)
    (n : Nat) (lv : Lv) (FS' : Nat → Option Lv) (μ' : Nat → Value) (w' : World)
    (heven : ∀ s, FS' (2 * s) = FS (2 * s)) (hold : ∀ id, id ≠ n → FS' (2 * id + 1) = FS (2 * id + 1) ∨ FS' (2 * id + 1) = some .gone) (hnew : FS' (2 * n + 1) = some lv)
    (hμ : ∀ l x, FS l = some x → agreeOn μ μ' (lvIds x)) (hμ2 : ∀ id x, id ≠ n → FS (2 * id + 1) = some x → μ' id = μ id)
    (hag : Agree (live S0 μ FS) w w') (hb : Below w0.heap.size w0 w')
    (hsv : ∀ id x k, id ≠ n → FS' (2 * id + 1) = some x → x.isObj = true → blk (μ id) = some k → w'.heap[k]? = w.heap[k]?)
    (hv : ∀ k, blk (μ' n) = some k → k < w.heap.size → live S0 μ FS k)
    (hv2 : ∀ id x k, id ≠ n → FS' (2 * id + 1) = some x → x.isObj = true → blk (μ' n) = some k → blk (μ id) ≠ some k)
    (hobj : ObjRel μ' (live S0 μ' FS') w' w0.heap.size n lv) : Sim S0 w0 nt μ' FS' a w' := by
  have surv : ∀ id x, id ≠ n → FS' (2 * id + 1) = some x → x.isObj = true → FS (2 * id + 1) = some x ∧ μ' id = μ id := by
    intro id x hne hx ho
    rcases hold id hne with e | e
    · rw [e] at hx
      exact ⟨hx, hμ2 id x hne hx⟩
    · rw [e] at hx
      injection hx with hx
      subst hx
      cases ho
  have hlive : ∀ k, k < w.heap.size → live S0 μ' FS' k → live S0 μ FS k := by
    intro k hk hl
    rcases hl with hl | ⟨id, x, hx, ho, hbk⟩
    · exact .inl hl
    · by_cases e : id = n
      · subst e
        exact hv k hbk hk
      · obtain ⟨h1, h2⟩ := surv id x e hx ho
        exact .inr ⟨id, x, h1, ho, by rw [← h2]; exact hbk⟩
  refine h.update heven hag hlive (fun s x hs => hμ (2 * s) (.tv x) hs) hb (fun id x hx => ?_) (fun i j x y k hi hj hxi hyj hne hbi => ?_)
  · by_cases e : id = n
    · subst e
      rw [hnew] at hx
      injection hx with hx
      subst hx
      exact hobj
    · cases ho : x.isObj with
      | true =>
        obtain ⟨h1, h2⟩ := surv id x e hx ho
        exact (h.obj id x h1).move hag hlive h2 (fun k hk => hsv id x k e hx ho hk) (hμ _ x h1)
      | false => cases x <;> first | exact trivial | cases ho
  · by_cases ei : i = n
    · subst ei
      obtain ⟨h1, h2⟩ := surv j y (fun e => hne e.symm) hj hyj
      rw [h2]
      exact hv2 j y k (fun e => hne e.symm) hj hyj hbi
    · obtain ⟨h1, h2⟩ := surv i x ei hi hxi
      rw [h2] at hbi
      by_cases ej : j = n
      · subst ej
        intro hbj
        exact hv2 i x k ei hi hxi hbj hbi
      · obtain ⟨h3, h4⟩ := surv j y ej hj hyj
        rw [h4]
        exact h.inj i j x y k h1 h3 hxi hyj hne hbi

/-- Some objects given up. -/
theorem Sim.gives {S0 : Nat → Prop} {w0 : World} {nt : Nat} {μ : Nat → Value} {FS : Nat → Option Lv} {a : Act} {w : World} (h : Sim S0 w0 nt μ FS a w) {FS' : Nat → Option Lv}
    (heven : ∀ s, FS' (2 * s) = FS (2 * s)) (hold : ∀ id, FS' (2 * id + 1) = FS (2 * id + 1) ∨ FS' (2 * id + 1) = some .gone) : Sim S0 w0 nt μ FS' a w := by
  have surv : ∀ id x, FS' (2 * id + 1) = some x → x.isObj = true → FS (2 * id + 1) = some x := by
    intro id x hx ho
    rcases hold id with e | e
    · rw [e] at hx
      exact hx
    · rw [e] at hx
      injection hx with hx
      subst hx
      cases ho
  have hlive : ∀ k, live S0 μ FS' k → live S0 μ FS k := by
    intro k hl
    rcases hl with hl | ⟨id, x, hx, ho, hbk⟩
    · exact .inl hl
    · exact .inr ⟨id, x, surv id x hx ho, ho, hbk⟩
  refine h.update heven (Agree.refl _ _) (fun k _ hk => hlive k hk) (fun _ _ _ _ _ => rfl) h.below (fun id x hx => ?_) (fun i j x y k hi hj hxi hyj => h.inj i j x y k (surv i x hi hxi) (surv j y hj hyj) hxi hyj)
  cases ho : x.isObj with
  | true => exact (h.obj id x (surv id x hx ho)).move (Agree.refl _ _) (fun k _ hk => hlive k hk) rfl (fun _ _ => rfl) (fun _ _ => rfl)
  | false => cases x <;> first | exact trivial | cases ho

/-- What one operation leaves. -/
def StepOK (P : Program) (op : Op) (st : St) (new : Option Nat) (tv : TV) (eff : St) : Prop :=
  ∀ (S0 : Nat → Prop) (w0 : World) (nt : Nat) (μ : Nat → Value) (FS : Nat → Option Lv) (a : Act) (w : World) (o : Oper), o.op = op → (∀ l, l ∈ opReads op st → FS l = look st l) →
    (∀ n, new = some n → fresh st n = true → 2 * n + 1 ∈ eff.map (·.1) → FreshFS FS n) → Sim S0 w0 nt μ FS a w →
    ∀ (next : Act → World → Prop) (Q : Exit → Act → World → Prop),
      (∀ v w' μ', Sim S0 w0 nt μ' (over eff FS) a w' → TVRel μ' (live S0 μ' (over eff FS)) w' tv v → next (a.put o.dst v) w') → o.wp P a w next Q

theorem step_of_run {P : Program} {o : Oper} {a : Act} {w w' : World} {next : Act → World → Prop} {Q : Exit → Act → World → Prop} {v : Value} (hr : (execOp a.eval o).run P w = .ok (.value v) w') (h : next (a.put o.dst v) w') : o.wp P a w next Q := by
  unfold Oper.wp
  rw [hr]
  exact h

theorem step_of_skip {P : Program} {o : Oper} {a : Act} {w w' : World} {next : Act → World → Prop} {Q : Exit → Act → World → Prop} (hr : (execOp a.eval o).run P w = .ok .skip w') (h : next (a.put o.dst Go.undef) w') : o.wp P a w next Q := by
  unfold Oper.wp
  rw [hr]
  exact h

theorem sees_of {op : Op} {st : St} {FS : Nat → Option Lv} (h : ∀ l, l ∈ opReads op st → FS l = look st l) {x : Operand} (hx : x ∈ op.operands.toList) : Sees st FS x := by
  cases x with
  | tmp t =>
    refine h _ ?_
    unfold opReads opSlots
    refine List.mem_flatMap.2 ⟨t, ?_, List.mem_cons_self⟩
    exact List.mem_filterMap.2 ⟨.tmp t, hx, rfl⟩
  | _ => trivial

theorem seesIds_of {op : Op} {st : St} {FS : Nat → Option Lv} (h : ∀ l, l ∈ opReads op st → FS l = look st l) {x : Operand} (hx : x ∈ op.operands.toList) {v : TV} (he : evO st x = some v) : SeesIds st FS (tvIds v) := by
  intro i hi
  cases x with
  | tmp t =>
    refine h _ ?_
    unfold opReads opSlots
    refine List.mem_flatMap.2 ⟨t, List.mem_filterMap.2 ⟨.tmp t, hx, rfl⟩, List.mem_cons_of_mem _ ?_⟩
    unfold slotIds
    simp only [evO] at he
    split at he
    · rename_i y hy
      injection he with he
      subst he
      rw [hy]
      exact List.mem_map.2 ⟨i, hi, rfl⟩
    · cases he
  | const v' =>
    have he : constTV v' = some v := he
    unfold constTV at he
    split at he <;> simp at he <;> subst he <;> simp [tvIds, cellIds, Fl.cells, Cell.id?] at hi
  | global g => cases he
  | func f => cases he

theorem evF_evO {st : St} {o : Operand} {x : Fl} (h : evF st o = some x) : evO st o = some (.f x) := by
  unfold evF at h
  split at h
  · rename_i y hy
    injection h with h
    subst h
    exact hy
  · cases h
theorem evC_evO {st : St} {o : Operand} {x : Cell} (h : evC st o = some x) : evO st o = some (.f (.c x)) := by
  unfold evC at h
  split at h
  · rename_i y hy
    injection h with h
    subst h
    exact hy
  · cases h

/-- A step that computes alone. -/
theorem stepOK_pure {P : Program} {op : Op} {st : St} {new : Option Nat} {tv : TV}
    (h : ∀ (S0 : Nat → Prop) (w0 : World) (nt : Nat) (μ : Nat → Value) (FS : Nat → Option Lv) (a : Act) (w : World) (o : Oper), o.op = op → (∀ l, l ∈ opReads op st → FS l = look st l) → Sim S0 w0 nt μ FS a w →
      ∃ v, (execOp a.eval o).run P w = .ok (.value v) w ∧ TVRel μ (live S0 μ FS) w tv v) : StepOK P op st new tv [] := by
  intro S0 w0 nt μ FS a w o ho hs _ hsim next Q hn
  obtain ⟨v, hr, hv⟩ := h S0 w0 nt μ FS a w o ho hs hsim
  exact step_of_run hr (hn v w μ hsim hv)

variable {P : Program} {T : Nat → Option TI} {st : St} {new : Option Nat}

theorem ok_move {x : Operand} {tv : TV} (h : evO st x = some tv) : StepOK P (.move x) st new tv [] :=
  stepOK_pure fun S0 w0 nt μ FS a w o ho hs hsim => ⟨a.eval x, by unfold execOp; rw [ho]; rfl, evO_rel hsim (sees_of hs (by simp [Op.operands])) h⟩
theorem ok_assign {x : Operand} {tv : TV} (h : evO st x = some tv) : StepOK P (.assign x) st new tv [] :=
  stepOK_pure fun S0 w0 nt μ FS a w o ho hs hsim => ⟨a.eval x, by unfold execOp; rw [ho]; rfl, evO_rel hsim (sees_of hs (by simp [Op.operands])) h⟩
theorem ok_pick {c x y : Operand} {b : Bool} {tv : TV} (hc : evB st c = some b) (h : evO st (cond b x y) = some tv) : StepOK P (.pick c x y) st new tv [] :=
  stepOK_pure fun S0 w0 nt μ FS a w o ho hs hsim => by
    have hb := evB_rel hsim (sees_of hs (by simp [Op.operands])) hc
    refine ⟨a.eval (cond b x y), ?_, evO_rel hsim (sees_of hs (by cases b <;> simp [Op.operands])) h⟩
    unfold execOp
    rw [ho]
    simp only [hb, asBool]
    cases b <;> rfl
theorem ok_nilCheck {x : Operand} {c : Cell} (h : evC st x = some c) (hc : (∃ i off, c = .ptr i off) ∨ (∃ t y, c = .ref t y)) : StepOK P (.nilCheck x) st new (.f (.c c)) [] :=
  stepOK_pure fun S0 w0 nt μ FS a w o ho hs hsim => by
    have hr := evC_rel hsim (sees_of hs (by simp [Op.operands])) h
    refine ⟨a.eval x, ?_, hr⟩
    have : ∃ ad, a.eval x = .pointer (some ad) := by
      rcases hc with ⟨i, off, rfl⟩ | ⟨t, y, rfl⟩
      · obtain ⟨g, _, e⟩ := hr
        exact ⟨_, e⟩
      · obtain ⟨ad, _, e, _⟩ := hr
        exact ⟨_, e⟩
    obtain ⟨ad, e⟩ := this
    unfold execOp
    rw [ho]
    simp only [e]
    rfl

theorem over_one (n : Nat) (lv : Lv) (FS : Nat → Option Lv) (l : Nat) : over [(n, lv)] FS l = if l = n then some lv else FS l := by
  unfold over
  rw [look_cons]
  by_cases h : l = n
  · rw [if_pos h, if_pos h]
  · rw [if_neg h, if_neg h]
    rfl

/-- A new block, one object in it. -/
theorem Sim.made {S0 : Nat → Prop} {w0 : World} {nt : Nat} {μ : Nat → Value} {FS FS' : Nat → Option Lv} {a : Act} {w w' : World} (h : Sim S0 w0 nt μ FS a w) {n : Nat} (hf : FreshFS FS n) {lv : Lv} {v : Value}
    (heven : ∀ s, FS' (2 * s) = FS (2 * s)) (hold : ∀ id, id ≠ n → FS' (2 * id + 1) = FS (2 * id + 1) ∨ FS' (2 * id + 1) = some .gone) (hnew : FS' (2 * n + 1) = some lv)
    (hb : Below w.heap.size w w') (hv : ∀ k, blk v = some k → w.heap.size ≤ k)
    (hobj : ObjRel (upd μ n v) (live S0 (upd μ n v) FS') w' w0.heap.size n lv) : Sim S0 w0 nt (upd μ n v) FS' a w' := by
  have hsz := h.below.size
  have hn : upd μ n v n = v := by unfold upd; rw [if_pos rfl]
  have lt : ∀ id x k, id ≠ n → FS' (2 * id + 1) = some x → x.isObj = true → blk (μ id) = some k → k < w.heap.size := by
    intro id x k hne hx ho hk
    rcases hold id hne with e | e
    · rw [e] at hx
      exact ((h.obj id x hx).lt ho hk).2
    · rw [e] at hx
      injection hx with hx
      subst hx
      cases ho
  refine h.gen n lv FS' (upd μ n v) w' heven hold hnew (fun l x hx => upd_agree (hf.2 l x hx)) (fun id x hne hx => by unfold upd; rw [if_neg hne]) ⟨hb.size, fun k hk _ => hb.block k hk⟩
    (h.below.trans ⟨hb.os, hb.tape, hb.output, hb.size, fun k hk => hb.block k (by omega)⟩) (fun id x k hne hx ho hk => hb.block k (lt id x k hne hx ho hk))
    (fun k hk hlt => ?_) (fun id x k hne hx ho hk hk' => ?_) hobj
  · rw [hn] at hk
    have := hv k hk
    omega
  · rw [hn] at hk
    have := hv k hk
    have := lt id x k hne hx ho hk'
    omega

theorem new_even {n : Nat} {lv : Lv} {FS : Nat → Option Lv} (s : Nat) : over [(2 * n + 1, lv)] FS (2 * s) = FS (2 * s) := by rw [over_one, if_neg (by omega)]
theorem new_old {n : Nat} {lv : Lv} {FS : Nat → Option Lv} (id : Nat) (h : id ≠ n) : over [(2 * n + 1, lv)] FS (2 * id + 1) = FS (2 * id + 1) ∨ over [(2 * n + 1, lv)] FS (2 * id + 1) = some .gone := by
  rw [over_one, if_neg (by omega)]
  exact .inl rfl
theorem new_self {n : Nat} {lv : Lv} {FS : Nat → Option Lv} : over [(2 * n + 1, lv)] FS (2 * n + 1) = some lv := by rw [over_one, if_pos rfl]

theorem live_new {S0 : Nat → Prop} {w0 : World} {nt : Nat} {μ : Nat → Value} {FS FS' : Nat → Option Lv} {a : Act} {w : World} (h : Sim S0 w0 nt μ FS a w) {n : Nat} {v : Value}
    (hold : ∀ id, id ≠ n → FS' (2 * id + 1) = FS (2 * id + 1) ∨ FS' (2 * id + 1) = some .gone) (hv : ∀ k, blk v = some k → w.heap.size ≤ k) :
    ∀ k, k < w.heap.size → live S0 (upd μ n v) FS' k → live S0 μ FS k := by
  intro k hk hl
  rcases hl with hl | ⟨id, x, hx, ho, hbk⟩
  · exact .inl hl
  · by_cases e : id = n
    · subst e
      unfold upd at hbk
      rw [if_pos rfl] at hbk
      have := hv k hbk
      omega
    · rcases hold id e with e' | e'
      · rw [e'] at hx
        unfold upd at hbk
        rw [if_neg e] at hbk
        exact .inr ⟨id, x, hx, ho, hbk⟩
      · rw [e'] at hx
        injection hx with hx
        subst hx
        cases ho

theorem fresh_look {n : Nat} (h : fresh st n = true) : FreshFS (look st) n := by
  have hall : ∀ p ∈ st, p.1 ≠ 2 * n + 1 ∧ n ∉ lvIds p.2 := by
    intro p hp
    unfold fresh at h
    have := List.all_eq_true.1 h p hp
    simp only [Bool.and_eq_true, Bool.not_eq_true'] at this
    obtain ⟨h1, h2⟩ := this
    refine ⟨fun e => ?_, fun hi => ?_⟩
    · rw [e, Nat.beq_refl] at h1
      cases h1
    · have cellsN : ∀ cs : List Cell, n ∈ cellIds cs → cs.any (·.names n) = true := by
        intro cs hi
        obtain ⟨c, hc, hid⟩ := List.mem_filterMap.1 hi
        refine List.any_eq_true.2 ⟨c, hc, ?_⟩
        cases c <;> simp [Cell.id?] at hid <;> subst hid <;> simp [Cell.names]
      obtain ⟨m, lv⟩ := p
      cases lv with
      | tv x =>
        cases x with
        | f y =>
          have := cellsN _ hi
          simp only [Lv.names, Fl.names] at h2
          rw [this] at h2
          cases h2
        | tup l =>
          obtain ⟨y, hy, hi⟩ := List.mem_flatMap.1 hi
          have := cellsN _ hi
          simp only [Lv.names] at h2
          have h3 : l.any (·.names n) = true := List.any_eq_true.2 ⟨y, hy, this⟩
          rw [h3] at h2
          cases h2
      | box cs =>
        have := cellsN _ hi
        simp only [Lv.names] at h2
        rw [this] at h2
        cases h2
      | bld T q =>
        have := cellsN _ hi
        simp only [Lv.names] at h2
        rw [List.any_cons, List.any_nil, Bool.or_false] at this
        rw [this] at h2
        cases h2
      | _ => cases hi
  refine ⟨?_, fun l lv hl => (hall _ (look_mem hl)).2⟩
  cases hl : look st (2 * n + 1) with
  | none => rfl
  | some v => exact absurd rfl (hall _ (look_mem hl)).1

theorem ok_box {t : TypeId} {x : Operand} {v : Fl} {n : Nat} (h : evF st x = some v) (hf : fresh st n = true) : StepOK P (.box t x) st (some n) (.f (.c (.ptr n 0))) [(2 * n + 1, .box v.cells)] := by
  intro S0 w0 nt μ FS a w o ho hs hfr hsim next Q hn
  have hr := evF_rel hsim (sees_of hs (by simp [Op.operands])) h
  have hfs := hfr n rfl hf (by simp)
  have hrun : (execOp a.eval o).run P w = .ok (.value (.pointer (some ⟨w.heap.size, 0, none⟩))) (w.alloc (.cells (a.eval x).cells t)) := by
    unfold execOp
    rw [ho]
    rfl
  have hv : ∀ k, blk (.pointer (some ⟨w.heap.size, 0, none⟩)) = some k → w.heap.size ≤ k := fun k hk => by injection hk with hk; exact Nat.le_of_eq hk
  have hlt := live_new (FS' := over [(2 * n + 1, .box v.cells)] FS) hsim (new_old (n := n) (lv := .box v.cells)) hv
  have hbel : Below w.heap.size w (w.alloc (.cells (a.eval x).cells t)) := (Below.refl _ _).alloc (Nat.le_refl _) _
  refine step_of_run hrun (hn _ _ (upd μ n (.pointer (some ⟨w.heap.size, 0, none⟩))) (hsim.made hfs new_even (new_old (n := n)) new_self hbel hv ?_) ⟨w.heap.size, by unfold upd; rw [if_pos rfl], rfl⟩)
  refine ⟨w.heap.size, (a.eval x).cells.toList, t, by unfold upd; rw [if_pos rfl], hsim.below.size, by simpa using heap_alloc_new w _, ?_⟩
  have hids : n ∉ cellIds v.cells := by
    cases x with
    | tmp s =>
      have := evF_evO h
      simp only [evO] at this
      split at this
      · rename_i y hy
        injection this with this
        subst this
        exact hfs.2 (2 * s) _ ((hs _ (by unfold opReads opSlots; exact List.mem_flatMap.2 ⟨s, List.mem_filterMap.2 ⟨.tmp s, by simp [Op.operands], rfl⟩, List.mem_cons_self⟩)).trans hy)
      · cases this
    | const u =>
      have he : constTV u = some (.f v) := evF_evO h
      unfold constTV at he
      split at he <;> simp at he <;> subst he <;> simp [cellIds, Fl.cells, Cell.id?]
    | global g => cases evF_evO h
    | func f => cases evF_evO h
  exact (Fl.cells_rel hr).move ⟨hbel.size, fun k hk _ => hbel.block k hk⟩ hlt (upd_agree hids)

end Go.Ab
