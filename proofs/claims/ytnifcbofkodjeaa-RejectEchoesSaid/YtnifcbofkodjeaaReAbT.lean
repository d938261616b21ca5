/- Arguments, as they are read: how large they are. -/
import Derived.Test.YtnifcbofkodjeaaReAbS
import Derived.SizedLaws
set_option linter.unusedVariables false
namespace Go.Ab
open Go.RowKit Go.ChangeShapes Go.WideShapes Go.Deep

/-- Bytes of a type, where nothing pads it. -/
def Ty.bts : Ty → Nat
  | .int k => k.bits / 8
  | .bool => 1
  | .str => 16
  | .sl _ => 24
  | .pair a b => a.bts + b.bts
  | _ => 1

/-- The rows that lie at the top, each within what a program can reach. -/
def Sz : (t : Ty) → t.den → Prop
  | .sl u, xs => List.length xs * u.bts ≤ 140737488351232
  | .pair a b, x => Sz a x.1 ∧ Sz b x.2
  | _, _ => True

def fitZ (T : Nat → Option TI) : Nat → Nat → Ty → Bool
  | 0, _, _ => false
  | n + 1, t, ty => match T t with
    | some ti => decide (ti.ty = ty) && (match ti.k with
      | .one => true
      | .slice e => (match ty with | .sl u => (match T e with | some te => decide (u.bts ≤ te.bytes) | none => false) | _ => false)
      | .struct fs => ty.isPair && fitFs (fitZ T n) 0 fs ty
      | _ => false)
    | none => false

variable {P : Program} {T : Nat → Option TI} {H : Type} {enc : TypeId × Value → H} {w : World} {base : Nat} {spare : Nat → Bool} {held : Bool}

theorem fitZ_cells (hTS : TypesOK P T) {n t : Nat} {ty : Ty} (h : fitZ T n t ty = true) : P.cellsOf t = ty.sz := by
  cases n with
  | zero => cases h
  | succ n =>
    unfold fitZ at h
    split at h
    · rename_i ti hti
      obtain ⟨h1, _⟩ := band h
      have h1 := of_decide_eq_true h1
      have hT := hTS _ _ hti
      obtain ⟨i, z, hi, hsz, _⟩ := hT.info
      unfold Program.cellsOf
      rw [hi]
      show i.size = _
      rw [hsz, hT.size, h1]
    · cases h

theorem bytes_of (hTS : TypesOK P T) {e : Nat} {te : TI} (h : T e = some te) : P.bytesOf e = te.bytes := by
  obtain ⟨i, z, hi, _, hb, _⟩ := (hTS _ _ h).info
  unfold Program.bytesOf
  rw [hi]
  exact hb

theorem fields_sized {f : Nat → Ty → Bool} (hc : ∀ t ty, f t ty = true → P.cellsOf t = ty.sz)
    (hf : ∀ t ty, f t ty = true → ∀ {fuel : Nat} {cs : List Value} {x : DataW H × List MemPlace} {y : ty.den}, DataW.trod enc P w base spare held fuel t cs = some x → (∀ m ∈ x.1.weights P t, m ≤ reachBytes) → Rd (fun _ => False) w ty y cs → Sz ty y)
    {n : Nat} {cs : List Value} : ∀ (fs : List (Nat × TypeId)) (off : Nat) (ty : Ty), fitFs f off fs ty = true →
      (∀ p ∈ fs, ∃ x : DataW H × List MemPlace, DataW.trod enc P w base spare held n p.2 ((cs.drop p.1).take (P.cellsOf p.2)) = some x ∧ ∀ m ∈ x.1.weights P p.2, m ≤ reachBytes) →
      ∀ {y : ty.den}, Rd (fun _ => False) w ty y (cs.drop off) → Sz ty y
  | [], _, _, h, _, _, _ => by cases h
  | [p], off, ty, h, hx, y, hr => by
    have h : (Nat.beq p.1 off && f p.2 ty) = true := by
      unfold fitFs at h
      exact h
    obtain ⟨h1, h2⟩ := band h
    obtain ⟨x, hx, hw⟩ := hx p List.mem_cons_self
    have hl := Rd_len hr
    rw [nbeq h1, hc _ _ h2, List.take_of_length_le (by omega)] at hx
    exact hf _ _ h2 hx hw hr
  | p :: q :: r, off, ty, h, hx, y, hr => by
    cases ty with
    | pair a b =>
      have h : (Nat.beq p.1 off && f p.2 a && fitFs f (off + a.sz) (q :: r) b) = true := h
      obtain ⟨h1, h3⟩ := band h
      obtain ⟨h1, h2⟩ := band h1
      obtain ⟨c1, c2, e, r1, r2⟩ := hr
      have hl := Rd_len r1
      obtain ⟨x, hx1, hw⟩ := hx p List.mem_cons_self
      rw [nbeq h1, hc _ _ h2, e, ← hl, List.take_left] at hx1
      have e2 : cs.drop (off + a.sz) = c2 := by
        rw [← List.drop_drop, e, ← hl, List.drop_left]
      exact ⟨hf _ _ h2 hx1 hw r1, fields_sized hc hf (q :: r) (off + a.sz) b h3 (fun p' hp' => hx p' (List.mem_cons_of_mem _ hp')) (by rw [e2]; exact r2)⟩
    | _ => cases h

theorem sized_fit (hTS : TypesOK P T) : ∀ (n : Nat) (t : Nat) (ty : Ty), fitZ T n t ty = true → ∀ {fuel : Nat} {cs : List Value} {x : DataW H × List MemPlace} {y : ty.den}, DataW.trod enc P w base spare held fuel t cs = some x → (∀ m ∈ x.1.weights P t, m ≤ reachBytes) → Rd (fun _ => False) w ty y cs → Sz ty y
  | 0, _, _, h, _, _, _, _, _, _, _ => by cases h
  | n + 1, t, ty, h, fuel, cs, x, y, hx, hw, hr => by
    have hcell := fitZ_cells hTS h
    unfold fitZ at h
    split at h
    · rename_i ti hti
      obtain ⟨h1, h⟩ := band h
      have h1 := of_decide_eq_true h1
      have hT := hTS _ _ hti
      split at h
      · rename_i hk
        obtain ⟨d, hd, hkd⟩ := hT.desc
        unfold KOK at hkd
        rw [hk, h1] at hkd
        cases ty with
        | sl u => exact hkd.elim
        | pair a b => exact hkd.elim
        | _ => trivial
      · rename_i e hk
        cases ty with
        | sl u =>
          cases hte : T e with
          | none =>
            rw [hte] at h
            cases h
          | some te =>
            rw [hte] at h
            have hb := of_decide_eq_true h
            obtain ⟨A, c, hcs', _⟩ := hr
            have hu := slice_desc hT hk
            rcases open_slice hu hx with ⟨hcs, _⟩ | ⟨a, len, cap, m, n', D, Pl, hcs, _, hl, hcm, hm, hxe, hel⟩
            · rw [hcs'] at hcs
              injection hcs with hcs _
              injection hcs with _ hcs _
              show List.length y * u.bts ≤ _
              rw [hcs]
              omega
            · rw [hcs'] at hcs
              injection hcs with hcs _
              injection hcs with _ hcs _
              have hw := hw ((len + (m - len)) * P.bytesOf e) (by rw [hxe]; simp [DataW.weights, hu])
              rw [bytes_of hTS hte] at hw
              have hw : (len + (m - len)) * te.bytes ≤ 140737488351232 := hw
              show List.length y * u.bts ≤ _
              rw [hcs]
              exact Nat.le_trans (Nat.mul_le_mul (by omega) hb) hw
        | _ => cases h
      · rename_i fs hk
        obtain ⟨_, h⟩ := band h
        obtain ⟨fields, hu, hfs, hsz⟩ := struct_desc hT hk
        obtain ⟨xs, n', _, hxe, hlen, hxl, hel⟩ := DataW.trod_struct hu hx
        refine fields_sized (n := n') (cs := cs) (fun t ty h => fitZ_cells hTS h) (fun t ty h => sized_fit hTS n t ty h) fs 0 ty h (fun p hp => ?_) (by rw [List.drop_zero]; exact hr)
        obtain ⟨j, hj, rfl⟩ := List.getElem_of_mem hp
        obtain ⟨f, hf, ho, hft⟩ := hfs j fs[j] (List.getElem?_eq_getElem hj)
        have hel := hel j f hf
        have hjx : j < xs.length := by omega
        rw [ho, hft, List.getElem?_eq_getElem hjx] at hel
        refine ⟨_, hel, fun m hm => hw m ?_⟩
        rw [hxe]
        show m ∈ DataW.weights P t (.agg (xs.map (·.1)))
        unfold DataW.weights
        rw [hu]
        refine DataW.weights_mem_each (j := j) (t := fs[j].2) (d := xs[j].1) ?_ ?_ m hm
        · rw [List.getElem?_map, Array.getElem?_toList, hf, ← hft]
          rfl
        · rw [List.getElem?_map, List.getElem?_eq_getElem hjx]
          rfl
      · cases h
    · cases h

theorem val_cells {S : Nat → Prop} {ty : Ty} {y : ty.den} {v : Value} (h : Val S w ty y v) : Rd S w ty y v.cells.toList := by
  unfold Val at h
  cases ty with
  | pair a b =>
    obtain ⟨cs, rfl, h⟩ := h
    exact h
  | int k =>
    have h : [v] = [Value.int k y] := h
    rw [(List.cons.inj h).1]
    rfl
  | bool =>
    have h : [v] = [Value.bool y] := h
    rw [(List.cons.inj h).1]
    rfl
  | str =>
    have h : [v] = [Value.string ⟨List.toArray y⟩] := h
    rw [(List.cons.inj h).1]
    rfl
  | sl t =>
    obtain ⟨A, c, h1, h2⟩ := h
    rw [(List.cons.inj h1).1]
    exact ⟨A, c, rfl, h2⟩
  | refp t =>
    obtain ⟨ad, es, h1, h2⟩ := h
    rw [(List.cons.inj h1).1]
    exact ⟨ad, es, rfl, h2⟩
  | fn f t =>
    obtain ⟨ad, es, h1, h2⟩ := h
    rw [(List.cons.inj h1).1]
    exact ⟨ad, es, rfl, h2⟩
  | nul m =>
    have h : [v] = [cond m (.map none) (.pointer none)] := h
    rw [(List.cons.inj h).1]
    cases m <;> rfl

def SzAll : (ts : List Ty) → Dens ts → Prop
  | [], _ => True
  | t :: ts, x => Sz t x.1 ∧ SzAll ts x.2
def fitZAll (T : Nat → Option TI) (n : Nat) : List TypeId → List Ty → Bool
  | [], [] => true
  | t :: ts, u :: us => fitZ T n t u && fitZAll T n ts us
  | _, _ => false

theorem sized_all (hTS : TypesOK P T) {n : Nat} : ∀ {ts : List TypeId} {us : List Ty} {vs : List Value} {ds : List (DataW H)} {p : List MemPlace} {x : Dens us}, fitZAll T n ts us = true → DataW.TrodAll enc P w base spare held ts vs ds p →
    (∀ m ∈ DataW.weightsEach P ts ds, m ≤ reachBytes) → Vals (fun _ => False) w us x vs → SzAll us x
  | [], [], _, _, _, _, _, _, _, _ => trivial
  | [], _ :: _, _, _, _, _, h, _, _, _ => by cases h
  | _ :: _, [], _, _, _, _, h, _, _, _ => by cases h
  | t :: ts, u :: us, [], _, _, _, _, h, _, _ => by exact h.elim
  | t :: ts, u :: us, v :: vs, [], _, _, _, h, _, _ => by exact h.elim
  | t :: ts, u :: us, v :: vs, d :: ds, _, x, hf, ⟨p, q, ⟨fuel, h1⟩, h2, _⟩, hw, ⟨v', r, e, h3, h4⟩ => by
    obtain ⟨hf1, hf2⟩ := band hf
    injection e with e1 e2
    subst e1 e2
    refine ⟨sized_fit hTS n t u hf1 h1 (fun m hm => hw m ?_) (val_cells h3), sized_all hTS hf2 h2 (fun m hm => hw m ?_) h4⟩
    · unfold DataW.weightsEach
      exact List.mem_append_left _ hm
    · unfold DataW.weightsEach
      exact List.mem_append_right _ hm

theorem law_run_sized {f : FuncId} {ts : List Ty} {run : Nat → Dens ts → Option (Dens [.bool])} (hC : Contract P f ⟨ts, [.bool], run, .no⟩) (hp : ∀ x, WfAll ts x → SzAll ts x → ∃ k, run k x = some (true, ())) {vs : List Value} {W : World}
    (hv : ∃ x, Vals (fun _ => False) W ts x vs ∧ WfAll ts x ∧ SzAll ts x) : Calls P f vs.toArray W fun e W' => e = .returned (.bool true) ∧ Below W.heap.size W W' := by
  obtain ⟨x, h1, h2, h0⟩ := hv
  obtain ⟨k, hk⟩ := hp x h2 h0
  refine (hC.calls k x _ hk (fun _ => False) vs W (fun _ h => h.elim) h1).mono fun e W' hh => ?_
  obtain ⟨v, he, ⟨vs', ⟨u, r, h3, h4, h5⟩, h6⟩, hbel⟩ := hh
  have h5 : r = [] := h5
  subst h5
  subst h3
  have h4 : [u] = [Value.bool true] := h4
  have h4 := (List.cons.inj h4).1
  subst h4
  exact ⟨by rw [he, h6]; rfl, hbel⟩

end Go.Ab
