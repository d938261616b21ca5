/- Arguments, as they are read. -/
import Derived.Test.YtnifcbofkodjeaaWaAbQ
import Derived.Deep.Slices
import Derived.Carry
import Derived.ChangeArms
set_option linter.unusedVariables false
namespace Go.Ab
open Go.RowKit Go.ChangeShapes Go.WideShapes Go.Deep

def Wf : (t : Ty) → t.den → Prop
  | .int k, n => k.min ≤ n ∧ n ≤ k.max
  | .str, l => List.length l ≤ 9223372036854775807
  | .sl t, xs => List.length xs ≤ 9223372036854775807 ∧ ∀ x : t.den, x ∈ xs → Wf t x
  | .pair a b, x => Wf a x.1 ∧ Wf b x.2
  | _, _ => True

def fitFs (f : Nat → Ty → Bool) : Nat → List (Nat × TypeId) → Ty → Bool
  | off, [p], ty => Nat.beq p.1 off && f p.2 ty
  | off, p :: r, .pair a b => Nat.beq p.1 off && f p.2 a && fitFs f (off + a.sz) r b
  | _, _, _ => false

def fit (T : Nat → Option TI) : Nat → Nat → Ty → Bool
  | 0, _, _ => false
  | n + 1, t, ty => match T t with
    | some ti => decide (ti.ty = ty) && (match ti.k with
      | .one => true
      | .slice e => (match ty with | .sl u => fit T n e u | _ => false)
      | .struct fs => ty.isPair && fitFs (fit T n) 0 fs ty
      | _ => false)
    | none => false

variable {P : Program} {T : Nat → Option TI} {H : Type} {enc : TypeId × Value → H} {w : World} {base : Nat} {spare : Nat → Bool} {held : Bool}

theorem fit_cells (hTS : TypesOK P T) {n t : Nat} {ty : Ty} (h : fit T n t ty = true) : P.cellsOf t = ty.sz := by
  cases n with
  | zero => cases h
  | succ n =>
    unfold fit at h
    split at h
    · rename_i ti hti
      obtain ⟨h1, _⟩ := band h
      have h1 := of_decide_eq_true h1
      have hT := hTS _ _ hti
      obtain ⟨i, z, hi, hsz, _⟩ := hT.info
      unfold Program.cellsOf
      rw [hi]
      show i.size = _
      rw [hsz, hT.size, h1]
    · cases h

theorem fields_open {f : Nat → Ty → Bool} (hc : ∀ t ty, f t ty = true → P.cellsOf t = ty.sz)
    (hf : ∀ t ty, f t ty = true → ∀ {fuel : Nat} {cs : List Value} {x : DataW H × List MemPlace}, DataW.trod enc P w base spare held fuel t cs = some x → ∃ y : ty.den, Rd (fun _ => False) w ty y cs ∧ Wf ty y)
    {n : Nat} {cs : List Value} : ∀ (fs : List (Nat × TypeId)) (off : Nat) (ty : Ty), fitFs f off fs ty = true → (∀ p ∈ fs, ∃ x : DataW H × List MemPlace, DataW.trod enc P w base spare held n p.2 ((cs.drop p.1).take (P.cellsOf p.2)) = some x) →
      cs.length = off + ty.sz → ∃ y : ty.den, Rd (fun _ => False) w ty y (cs.drop off) ∧ Wf ty y
  | [], _, _, h, _, _ => by cases h
  | [p], off, ty, h, hx, hl => by
    have h : (Nat.beq p.1 off && f p.2 ty) = true := by
      unfold fitFs at h
      exact h
    obtain ⟨h1, h2⟩ := band h
    obtain ⟨x, hx⟩ := hx p List.mem_cons_self
    rw [nbeq h1, hc _ _ h2, List.take_of_length_le (by rw [List.length_drop]; omega)] at hx
    exact hf _ _ h2 hx
  | p :: q :: r, off, ty, h, hx, hl => by
    cases ty with
    | pair a b =>
      have h : (Nat.beq p.1 off && f p.2 a && fitFs f (off + a.sz) (q :: r) b) = true := h
      obtain ⟨h1, h3⟩ := band h
      obtain ⟨h1, h2⟩ := band h1
      have hl : cs.length = off + (a.sz + b.sz) := hl
      obtain ⟨x, hx1⟩ := hx p List.mem_cons_self
      rw [nbeq h1, hc _ _ h2] at hx1
      obtain ⟨y1, h4, h5⟩ := hf _ _ h2 hx1
      obtain ⟨y2, h6, h7⟩ := fields_open hc hf (q :: r) (off + a.sz) b h3 (fun p' hp' => hx p' (List.mem_cons_of_mem _ hp')) (by omega)
      refine ⟨(y1, y2), ⟨_, _, ?_, h4, h6⟩, h5, h7⟩
      rw [← List.drop_drop, List.take_append_drop]
    | _ => cases h

theorem choose_list {α : Type} [Inhabited α] {p : Nat → α → Prop} : ∀ (n : Nat), (∀ i, i < n → ∃ x, p i x) → ∃ l : List α, l.length = n ∧ ∀ (i : Nat) (h : i < l.length), p i (l[i]'h)
  | 0, _ => ⟨[], rfl, fun i h => absurd h (Nat.not_lt_zero _)⟩
  | n + 1, h => by
    obtain ⟨l, h1, h2⟩ := choose_list n (fun i hi => h i (by omega))
    obtain ⟨x, hx⟩ := h n (by omega)
    refine ⟨l ++ [x], by simp [h1], fun i hi => ?_⟩
    by_cases e : i < l.length
    · rw [List.getElem_append_left e]
      exact h2 i e
    · have : i = n := by simp at hi; omega
      subst this
      rw [List.getElem_append_right (by omega)]
      simpa using hx

theorem open_fit (hTS : TypesOK P T) : ∀ (n : Nat) (t : Nat) (ty : Ty), fit T n t ty = true → ∀ {fuel : Nat} {cs : List Value} {x : DataW H × List MemPlace}, DataW.trod enc P w base spare held fuel t cs = some x → ∃ y : ty.den, Rd (fun _ => False) w ty y cs ∧ Wf ty y
  | 0, _, _, h, _, _, _, _ => by cases h
  | n + 1, t, ty, h, fuel, cs, x, hx => by
    have hcell := fit_cells hTS h
    unfold fit at h
    split at h
    · rename_i ti hti
      obtain ⟨h1, h⟩ := band h
      have h1 := of_decide_eq_true h1
      have hT := hTS _ _ hti
      split at h
      · rename_i hk
        subst h1
        have hone := one_desc hT hk
        cases hty : ti.ty with
        | int k =>
          obtain ⟨m, hcs, _, hw⟩ := DataW.trod_int (hone.1 k hty) hx
          refine ⟨m, hcs, ?_⟩
          unfold Lit.wf at hw
          obtain ⟨h2, h3⟩ := band hw
          exact ⟨of_decide_eq_true h2, of_decide_eq_true h3⟩
        | bool =>
          obtain ⟨m, hcs, _⟩ := DataW.trod_bool (hone.2.1 hty) hx
          exact ⟨m, hcs, trivial⟩
        | str =>
          obtain ⟨m, hcs, _, hs⟩ := DataW.trod_string (hone.2.2 hty) hx
          obtain ⟨⟨m⟩⟩ := m
          exact ⟨m, hcs, by show List.length m ≤ 9223372036854775807; simpa [maxLen, ByteArray.size] using hs⟩
        | sl u =>
          obtain ⟨d, hd, hkd⟩ := hT.desc
          unfold KOK at hkd
          rw [hk, hty] at hkd
          exact hkd.elim
        | pair a b =>
          obtain ⟨d, hd, hkd⟩ := hT.desc
          unfold KOK at hkd
          rw [hk, hty] at hkd
          exact hkd.elim
        | refp u =>
          obtain ⟨d, hd, hkd⟩ := hT.desc
          unfold KOK at hkd
          rw [hk, hty] at hkd
          exact hkd.elim
        | fn f u =>
          obtain ⟨d, hd, hkd⟩ := hT.desc
          unfold KOK at hkd
          rw [hk, hty] at hkd
          exact hkd.elim
        | nul m =>
          obtain ⟨d, hd, hkd⟩ := hT.desc
          unfold KOK at hkd
          rw [hk, hty] at hkd
          exact hkd.elim
      · rename_i e hk
        cases ty with
        | sl u =>
          have he := fit_cells hTS h
          rcases open_slice (slice_desc hT hk) hx with ⟨hcs, _⟩ | ⟨a, len, cap, m, n', D, Pl, hcs, _, hl, hcm, hm, _, hel⟩
          · subst hcs
            exact ⟨[], nil_rd, by simp, fun x hx => by cases hx⟩
          · have hlm : len ≤ m := by rw [hm]; split <;> omega
            haveI : Inhabited u.den := ⟨u.dflt⟩
            obtain ⟨l, h2, h3⟩ := choose_list (p := fun i (y : u.den) => (∃ es, Rd (fun _ => False) w u y es ∧ At w (a.add (i * u.sz)) es) ∧ Wf u y) len (fun i hi => by
              obtain ⟨cs', h4, h5⟩ := hel i (by omega)
              obtain ⟨y, h6, h7⟩ := open_fit hTS n e u h h5
              obtain ⟨_, h8, h9⟩ := World.cells?_some h4
              rw [he] at h8 h9
              refine ⟨y, ⟨cs', h6, fun j v hv => ?_⟩, h7⟩
              have hj : j < cs'.length := by
                rcases Nat.lt_or_ge j cs'.length with h | h
                · exact h
                · rw [List.getElem?_eq_none h] at hv; cases hv
              rw [h9 j (by omega)]
              exact hv)
            subst hcs
            have hml : len ≤ 9223372036854775807 := by simp [maxLen] at hcm; omega
            refine ⟨l, ⟨some a, cap, by rw [h2], by rw [h2]; exact hl, by rw [h2]; exact hml, fun _ => ⟨a, rfl, fun hk => hk, fun i hi => (h3 i hi).1⟩⟩, by rw [h2]; exact hml, fun x hx => ?_⟩
            obtain ⟨i, hi, rfl⟩ := List.getElem_of_mem hx
            exact (h3 i hi).2
        | _ => cases h
      · rename_i fs hk
        obtain ⟨_, h⟩ := band h
        obtain ⟨fields, hu, hfs, hsz⟩ := struct_desc hT hk
        obtain ⟨xs, n', _, _, hlen, hxl, hel⟩ := DataW.trod_struct hu hx
        have := fields_open (n := n') (cs := cs) (fun t ty h => fit_cells hTS h) (fun t ty h => open_fit hTS n t ty h) fs 0 ty h (fun p hp => by
          obtain ⟨j, hj, rfl⟩ := List.getElem_of_mem hp
          obtain ⟨f, hf, ho, hft⟩ := hfs j fs[j] (List.getElem?_eq_getElem hj)
          have := hel j f hf
          rw [ho, hft] at this
          rw [this]
          exact ⟨_, List.getElem?_eq_getElem (by omega)⟩) (by rw [hlen, hcell, Nat.zero_add])
        simpa using this
      · cases h
    · cases h

/-- One argument. -/
theorem open_val (hTS : TypesOK P T) {n t : Nat} {ty : Ty} (h : fit T n t ty = true) {r : Reach} {b0 : Nat} {v : Value} {d : DataW H} {ps : List MemPlace} (hv : Value.okWide P w r b0 t v) (hd : DataW.Trod enc P w base spare held t v d ps) :
    ∃ y : ty.den, Val (fun _ => False) w ty y v ∧ Wf ty y := by
  obtain ⟨fuel, hd⟩ := hd
  obtain ⟨y, h1, h2⟩ := open_fit hTS n t ty h hd
  refine ⟨y, ?_, h2⟩
  have hc := fit_cells hTS h
  cases n with
  | zero => cases h
  | succ n =>
    unfold fit at h
    split at h
    · rename_i ti hti
      obtain ⟨h3, h⟩ := band h
      have h3 := of_decide_eq_true h3
      have hT := hTS _ _ hti
      unfold Val
      cases hp : ty.isPair with
      | true =>
        have : ∃ cs, v = .agg cs := by
          obtain ⟨dd, hd, hkd⟩ := hT.desc
          unfold KOK at hkd
          split at hkd
          · rename_i hk
            exfalso
            cases ty with
            | pair a b => rw [h3] at hkd; exact hkd.elim
            | _ => cases hp
          · obtain ⟨fields, rfl, _⟩ := hkd
            obtain ⟨cs, h4, _⟩ := okWide_struct hd hv
            exact ⟨cs, h4⟩
          · rename_i e hk
            exfalso
            rw [hk] at h
            cases ty with
            | pair a b => cases h
            | _ => cases hp
          · rename_i m e hk
            rw [hk] at h
            cases h
          · rename_i hk
            rw [hk] at h
            cases h
          · rename_i hk
            rw [hk] at h
            cases h
        obtain ⟨cs, rfl⟩ := this
        exact ⟨cs.toList, rfl, h1⟩
      | false =>
        have : v.cells.toList = [v] := by
          obtain ⟨dd, hd, hkd⟩ := hT.desc
          unfold KOK at hkd
          split at hkd
          · rename_i hk
            split at hkd
            · rename_i k _
              subst hkd
              obtain ⟨n, rfl⟩ := okWide_int hd hv
              rfl
            · subst hkd
              obtain ⟨n, rfl⟩ := okWide_bool hd hv
              rfl
            · subst hkd
              obtain ⟨n, rfl⟩ := okWide_string hd hv
              rfl
            · exact hkd.elim
          · rename_i fs hk
            exfalso
            rw [hk] at h
            obtain ⟨h4, _⟩ := band h
            rw [hp] at h4
            cases h4
          · subst hkd
            obtain ⟨a, l, c, rfl⟩ := okWide_slice hd hv
            rfl
          · rename_i m e hk
            rw [hk] at h
            cases h
          · rename_i hk
            rw [hk] at h
            cases h
          · rename_i hk
            rw [hk] at h
            cases h
        rw [this] at h1
        exact h1
    · cases h

end Go.Ab
