/- A law's row, whatever its parameters. -/
import Derived.Test.YtnifcbofkodjeaaWaAbR
set_option linter.unusedVariables false
namespace Go.Ab
open Go.RowKit Go.ChangeShapes Go.WideShapes

def WfAll : (ts : List Ty) → Dens ts → Prop
  | [], _ => True
  | t :: ts, x => Wf t x.1 ∧ WfAll ts x.2

def fitAll (T : Nat → Option TI) (n : Nat) : List TypeId → List Ty → Bool
  | [], [] => true
  | t :: ts, u :: us => fit T n t u && fitAll T n ts us
  | _, _ => false

variable {P : Program} {T : Nat → Option TI} {H : Type} {enc : TypeId × Value → H} {w : World} {base : Nat} {spare : Nat → Bool} {held : Bool}

theorem open_all (hTS : TypesOK P T) {n : Nat} {r : Reach} {b0 : Nat} : ∀ {ts : List TypeId} {us : List Ty} {vs : List Value} {ds : List (DataW H)} {p : List MemPlace}, fitAll T n ts us = true → (∀ (j : Nat) (t : TypeId) (v : Value), ts[j]? = some t → vs[j]? = some v → Value.okWide P w r b0 t v) →
    DataW.TrodAll enc P w base spare held ts vs ds p → ∃ x : Dens us, Vals (fun _ => False) w us x vs ∧ WfAll us x
  | [], [], [], _, _, _, _, _ => ⟨(), rfl, trivial⟩
  | [], [], _ :: _, ds, _, _, _, h => by cases ds <;> exact h.elim
  | [], _ :: _, _, _, _, h, _, _ => by cases h
  | _ :: _, [], _, _, _, h, _, _ => by cases h
  | t :: ts, u :: us, [], _, _, _, _, h => by exact h.elim
  | t :: ts, u :: us, v :: vs, [], _, _, _, h => by exact h.elim
  | t :: ts, u :: us, v :: vs, d :: ds, _, hf, hok, ⟨p, q, h1, h2, _⟩ => by
    obtain ⟨hf1, hf2⟩ := band hf
    obtain ⟨y, h3, h4⟩ := open_val hTS hf1 (hok 0 t v rfl rfl) h1
    obtain ⟨x, h5, h6⟩ := open_all hTS hf2 (fun j t' v' ht hv => hok (j + 1) t' v' ht hv) h2
    exact ⟨(y, x), ⟨v, vs, rfl, h3, h5⟩, h4, h6⟩

theorem len_all : ∀ {ts : List TypeId} {vs : List Value} {ds : List (DataW H)} {p : List MemPlace}, DataW.TrodAll enc P w base spare held ts vs ds p → ds.length = ts.length
  | [], [], [], _, _ => rfl
  | [], [], _ :: _, _, h => h.elim
  | [], _ :: _, _, _, h => h.elim
  | _ :: _, [], _, _, h => h.elim
  | _ :: _, _ :: _, [], _, h => h.elim
  | t :: ts, v :: vs, d :: ds, _, ⟨p, q, _, h2, _⟩ => by rw [List.length_cons, List.length_cons, len_all h2]

theorem list1 {α : Type} {l : List α} (h : l.length = 1) : ∃ a, l = [a] := by
  match l, h with
  | [a], _ => exact ⟨a, rfl⟩
theorem list2 {α : Type} {l : List α} (h : l.length = 2) : ∃ a b, l = [a, b] := by
  match l, h with
  | [a, b], _ => exact ⟨a, b, rfl⟩
theorem list3 {α : Type} {l : List α} (h : l.length = 3) : ∃ a b c, l = [a, b, c] := by
  match l, h with
  | [a, b, c], _ => exact ⟨a, b, c, rfl⟩

/-- The arguments read behind the call as they did. -/
theorem keep_all {W W' : World} (hl : laidOutB P = true) : ∀ {ts : List TypeId} {vs : List Value} {ds : List (DataW H)} {p : List MemPlace}, (ts.all fun t => P.readableRec t && decide (t < P.types.size)) = true →
    DataW.TrodAll enc P W 0 (fun _ => true) true ts vs ds p → Below W.heap.size W W' → (∀ x ∈ p, x.block < W.heap.size) → DataW.TrodAll enc P W' 0 (fun b => decide (b < W.heap.size)) true ts vs ds p
  | [], [], [], _, _, h, _, _ => h
  | [], [], _ :: _, _, _, h, _, _ => h.elim
  | [], _ :: _, _, _, _, h, _, _ => h.elim
  | _ :: _, [], _, _, _, h, _, _ => h.elim
  | _ :: _, _ :: _, [], _, _, h, _, _ => h.elim
  | t :: ts, v :: vs, d :: ds, _, hr, ⟨p, q, h1, h2, hp⟩, hb, hlt => by
    rw [List.all_cons] at hr
    obtain ⟨hr1, hr2⟩ := band hr
    obtain ⟨hr1, hr3⟩ := band hr1
    subst hp
    exact ⟨p, q, Below.trod hl hr1 (of_decide_eq_true hr3) h1 hb (fun x hx => hlt x (List.mem_append_left _ hx)), keep_all hl hr2 h2 hb (fun x hx => hlt x (List.mem_append_right _ hx)), rfl⟩

theorem law_run {f : FuncId} {ts : List Ty} {run : Nat → Dens ts → Option (Dens [.bool])} (hC : Contract P f ⟨ts, [.bool], run, .no⟩) (hp : ∀ x, WfAll ts x → ∃ k, run k x = some (true, ())) {vs : List Value} {W : World}
    (hv : ∃ x, Vals (fun _ => False) W ts x vs ∧ WfAll ts x) : Calls P f vs.toArray W fun e W' => e = .returned (.bool true) ∧ Below W.heap.size W W' := by
  obtain ⟨x, h1, h2⟩ := hv
  obtain ⟨k, hk⟩ := hp x h2
  refine (hC.calls k x _ hk (fun _ => False) vs W (fun _ h => h.elim) h1).mono fun e W' hh => ?_
  obtain ⟨v, he, ⟨vs', ⟨u, r, h3, h4, h5⟩, h6⟩, hbel⟩ := hh
  have h5 : r = [] := h5
  subst h5
  subst h3
  have h4 : [u] = [Value.bool true] := h4
  have h4 := (List.cons.inj h4).1
  subst h4
  exact ⟨by rw [he, h6]; rfl, hbel⟩

end Go.Ab
