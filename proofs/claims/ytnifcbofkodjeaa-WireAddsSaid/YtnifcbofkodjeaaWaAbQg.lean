import Derived.Test.YtnifcbofkodjeaaWaAbQf
set_option linter.unusedVariables false
namespace Go.Ab

theorem in_ok {k : Nat} {l : List Int} {n : Int} (hl : l.length < 1000000) (hk : l.length < k) : f28 k (l, n, ()) = some (hasI l n, ()) := by
  have key := ix_loop (B := fun R2 p => f28_b2 k R2 p) l.length (fun i : Nat => ((l, n, ((i : Nat) : Int)) : f28_t2)) (fun i => some (hasI (l.drop i) n, ())) (fun i L hi hL => by
    dsimp only [f28_b2]
    by_cases hlt : i < l.length
    · rw [cond_yes (by omega), chk_decide (by omega), chk_decide (by omega), toNat_cast, at_index hlt, List.drop_eq_getElem_cons hlt]
      unfold hasI
      rw [List.any_cons]
      by_cases h : l[i] = n
      · rw [eqI_true h, eqI_true h.symm, cond_true, Bool.true_or]
      · rw [eqI_false h, eqI_false (fun e => h e.symm), cond_false, Bool.false_or, wsucc (by omega)]
        exact hL hlt
    · rw [cond_no (by omega), List.drop_eq_nil_of_le (by omega)]
      rfl) k 0 (Nat.zero_le _) (by omega)
  rw [List.drop_zero] at key
  exact key

/-- groatref23.find, over the first of a list -/
theorem rfindn_loop (k : Nat) (e : Int) (l : List Vl) (m : Nat) (hm : m ≤ l.length) (hl : l.length < 1000000) : ∀ (d i n : Nat), m = i + d → d < n → ∃ r, loopP (fun R p => f103_b2 k R p) n (l, (m : Int), e, (i : Int)) = some (r, ()) := by
  intro d
  induction d with
  | zero =>
    intro i n hi hn
    obtain ⟨n, rfl⟩ : ∃ m, n = m + 1 := ⟨n - 1, by omega⟩
    rw [loopP_succ]
    dsimp only [f103_b2]
    rw [cond_no (by omega)]
    exact ⟨_, rfl⟩
  | succ d ih =>
    intro i n hi hn
    obtain ⟨n, rfl⟩ : ∃ m, n = m + 1 := ⟨n - 1, by omega⟩
    rw [loopP_succ]
    have h : i < l.length := by omega
    have ih := ih (i + 1) n
    generalize loopP (fun R p => f103_b2 k R p) n = L at *
    dsimp only [f103_b2]
    rw [cond_yes (by omega), chk_decide (by omega), chk_decide (by omega), toNat_cast, at_index h, wsucc (by omega)]
    cases hb : (l[i].1 == e) with
    | true => exact ⟨_, rfl⟩
    | false => exact ih (by omega) (by omega)

/-- What a side that may be is. -/
structure SideOk (s : Sd) : Prop where
  sch : schOk s.1 = true
  echo : ∀ no ∈ s.2.2.1, no ≠ 39
  code : ∃ a, specF s.1.2.2 39 = some a ∧ ∀ c ∈ s.2.2.2, valueE a c.2 = 0
  some : (firstF s.2.2.2 0).isSome = true

theorem codes_loop {k : Nat} (s : Sc) (m1 : List (List UInt8 × List UInt8)) (m2 : List (Int × Int × Int × List UInt8 × List (List UInt8 × List UInt8))) (echo : List Int) (codes : List Vl) (q : Nat) (hq : q < s.2.2.length) (hs : s.2.2.length < 100000) (hc : codes.length < 100000)
    (hv : ∀ x ∈ codes, x.2.length < 100000) (hk : 1000000 < k) : ∀ (d i n : Nat), codes.length = i + d → d < n →
    ∃ e p r, loopP (fun R16 p => f58_b16 k R16 p) n ((q : Int), (i : Int), s.1, s.2.1, s.2.2, m1, m2, echo, codes) = some (e, p, r, ()) ∧ (e = 0 → (∀ c ∈ codes.drop i, valueE (s.2.2.getD q Spc0) c.2 = 0) ∧ (firstF codes 0).isSome = true) := by
  intro d
  induction d with
  | zero =>
    intro i n hi hn
    obtain ⟨n, rfl⟩ : ∃ m, n = m + 1 := ⟨n - 1, by omega⟩
    rw [loopP_succ]
    dsimp only [f58_b16]
    rw [cond_no (by omega), rfind_ok (by omega) (by omega), Option.bind_some, List.drop_eq_nil_of_le (by omega)]
    dsimp only
    unfold firstF
    cases hp : posF codes 0 with
    | none => exact ⟨_, _, _, rfl, fun h => by simp at h⟩
    | some j =>
      rw [show idxI (some j) = ((j : Nat) : Int) from rfl, cond_no (by omega)]
      exact ⟨_, _, _, rfl, fun _ => ⟨fun c hc => by simp at hc, rfl⟩⟩
  | succ d ih =>
    intro i n hi hn
    obtain ⟨n, rfl⟩ : ∃ m, n = m + 1 := ⟨n - 1, by omega⟩
    rw [loopP_succ]
    have h : i < codes.length := by omega
    have hx := hv codes[i] (List.getElem_mem h)
    have ih := ih (i + 1) n
    generalize loopP (fun R16 p => f58_b16 k R16 p) n = L at *
    dsimp only [f58_b16]
    rw [cond_yes (by omega), chk_decide (by omega), chk_decide (by omega), toNat_cast, at_index h]
    by_cases h1 : codes[i].1 < 0
    · rw [cond_yes h1]
      exact ⟨_, _, _, rfl, fun h => by cases h⟩
    rw [cond_no h1, chk_decide (by omega), chk_decide (by omega)]
    by_cases h2 : codes[i].1 > 16
    · rw [cond_yes h2]
      exact ⟨_, _, _, rfl, fun h => by cases h⟩
    rw [cond_no h2, chk_decide (by omega), chk_decide (by omega)]
    obtain ⟨r, hr⟩ := rfindn_loop k codes[i].1 codes i (by omega) (by omega) i 0 k (by omega) (by omega)
    have hr : f103 k (codes, ((i : Nat) : Int), codes[i].1, ()) = some (r, ()) := hr
    rw [hr, Option.bind_some]
    dsimp only
    by_cases h3 : r ≥ 0
    · rw [cond_yes h3]
      exact ⟨_, _, _, rfl, fun h => by cases h⟩
    rw [cond_no h3, chk_decide (by omega), chk_decide (by omega), chk_decide (by omega), chk_decide (by omega), toNat_cast, rvalue_ok (by omega) (by omega), Option.bind_some]
    dsimp only
    by_cases h4 : valueE (s.2.2.getD q Spc0) codes[i].2 ≠ 0
    · rw [neI_true h4, cond_true]
      exact ⟨_, _, _, rfl, fun h => absurd h h4⟩
    have h4 : valueE (s.2.2.getD q Spc0) codes[i].2 = 0 := by omega
    rw [neI_false h4, cond_false, wsucc (by omega)]
    obtain ⟨e, p, r, h5, h6⟩ := ih (by omega) (by omega)
    refine ⟨e, p, r, h5, fun he => ⟨fun c hc => ?_, (h6 he).2⟩⟩
    rw [List.drop_eq_getElem_cons h] at hc
    rcases List.mem_cons.1 hc with hc | hc
    · rw [hc]; exact h4
    · exact (h6 he).1 c hc

theorem echo_loop {k : Nat} (s : Sc) (m1 : List (List UInt8 × List UInt8)) (m2 : List (Int × Int × Int × List UInt8 × List (List UInt8 × List UInt8))) (echo : List Int) (codes : List Vl) (q : Nat) (hq : q < s.2.2.length) (hs : s.2.2.length < 100000) (hc : codes.length < 100000) (hec : echo.length < 100000)
    (hv : ∀ x ∈ codes, x.2.length < 100000) (hk : 1000000 < k) : ∀ (d i n : Nat), echo.length = i + d → d < n →
    ∃ e p r, loopP (fun R7 p => f58_b7 k (f58_l16 k) R7 p) n ((q : Int), (i : Int), s.1, s.2.1, s.2.2, m1, m2, echo, codes) = some (e, p, r, ()) ∧
      (e = 0 → (∀ no ∈ echo.drop i, no ≠ 39) ∧ (∀ c ∈ codes, valueE (s.2.2.getD q Spc0) c.2 = 0) ∧ (firstF codes 0).isSome = true) := by
  intro d
  induction d with
  | zero =>
    intro i n hi hn
    obtain ⟨n, rfl⟩ : ∃ m, n = m + 1 := ⟨n - 1, by omega⟩
    rw [loopP_succ]
    dsimp only [f58_b7]
    rw [cond_no (by omega), List.drop_eq_nil_of_le (by omega)]
    obtain ⟨e, p, r, h1, h2⟩ := codes_loop (k := k) s m1 m2 echo codes q hq hs hc hv hk codes.length 0 k (by omega) (by omega)
    exact ⟨e, p, r, h1, fun he => ⟨fun no hno => by simp at hno, by simpa using h2 he⟩⟩
  | succ d ih =>
    intro i n hi hn
    obtain ⟨n, rfl⟩ : ∃ m, n = m + 1 := ⟨n - 1, by omega⟩
    rw [loopP_succ]
    have h : i < echo.length := by omega
    have ih := ih (i + 1) n
    generalize loopP (fun R7 p => f58_b7 k (f58_l16 k) R7 p) n = L at *
    dsimp only [f58_b7]
    rw [cond_yes (by omega), chk_decide (by omega), chk_decide (by omega), toNat_cast, at_index h, rsfind_ok (s := s) (by omega) (by omega), Option.bind_some]
    dsimp only
    by_cases h1 : idxI (s.2.2.findIdx? fun x => x.1 == echo[i]) < 0
    · rw [cond_yes h1]
      exact ⟨_, _, _, rfl, fun h => by cases h⟩
    rw [cond_no h1, chk_decide (by omega), chk_decide (by omega)]
    by_cases h2 : echo[i] = 39
    · rw [eqI_true h2, cond_true]
      exact ⟨_, _, _, rfl, fun h => by cases h⟩
    rw [eqI_false h2, cond_false, chk_decide (by omega), chk_decide (by omega), chk_decide (by omega), chk_decide (by omega), in_ok (by simp; omega) (by simp; omega), Option.bind_some]
    dsimp only
    cases hh : hasI (List.drop 0 (List.take i echo)) echo[i] with
    | true => exact ⟨_, _, _, rfl, fun h => by cases h⟩
    | false =>
      rw [cond_false, wsucc (by omega)]
      obtain ⟨e, p, r, h3, h4⟩ := ih (by omega) (by omega)
      refine ⟨e, p, r, h3, fun he => ⟨fun no hno => ?_, (h4 he).2⟩⟩
      rw [List.drop_eq_getElem_cons h] at hno
      rcases List.mem_cons.1 hno with hno | hno
      · rw [hno]; exact h2
      · exact (h4 he).1 no hno

theorem rside_ok {k : Nat} {s : Sd} (hs : s.1.2.2.length < 100000) (he : s.2.2.1.length < 100000) (hc : s.2.2.2.length < 100000) (hv : ∀ x ∈ s.2.2.2, x.2.length < 100000) (hk : 1000000 < k) : ∃ b, f25 k (s, ()) = some (b, ()) ∧ (b = true → SideOk s) := by
  obtain ⟨sc, ⟨m1, m2⟩, echo, codes⟩ := s
  dsimp only at hs he hc hv
  have key : ∃ e p r, f58 k ((sc, (m1, m2), echo, codes), ()) = some (e, p, r, ()) ∧ (e = 0 → SideOk (sc, (m1, m2), echo, codes)) := by
    show ∃ e p r, f58_m k (f58_l7 k) _ = _ ∧ _
    dsimp only [f58_m]
    rw [rsch_ok (by omega) (by omega), Option.bind_some]
    dsimp only
    cases h1 : schOk sc with
    | false => exact ⟨_, _, _, rfl, fun h => by cases h⟩
    | true =>
      rw [Bool.not_true, cond_false]
      have hfi := rsfind_ok (k := k) (s := sc) (no := 39) (by omega) (by omega)
      have hsf := specF_idx sc.2.2 39
      cases hf : sc.2.2.findIdx? (fun x => x.1 == (39 : Int)) with
      | none =>
        rw [hf] at hfi
        have hfi : f60 k (sc, 39, ()) = some (-1, ()) := hfi
        rw [hfi]
        exact ⟨_, _, _, rfl, fun h => by cases h⟩
      | some q =>
        rw [hf] at hfi hsf
        obtain ⟨hq, hsf⟩ := hsf
        have hfi : f60 k (sc, 39, ()) = some (((q : Nat) : Int), ()) := hfi
        rw [hfi, Option.bind_some]
        dsimp only
        rw [cond_no (by omega)]
        obtain ⟨e, p, r, h2, h3⟩ := echo_loop (k := k) sc m1 m2 echo codes q hq hs hc he hv hk echo.length 0 k (by omega) (by omega)
        refine ⟨e, p, r, h2, fun h0 => ?_⟩
        obtain ⟨h4, h5, h6⟩ := h3 h0
        exact ⟨h1, by simpa using h4, ⟨_, hsf, h5⟩, h6⟩
  obtain ⟨e, p, r, h1, h2⟩ := key
  refine ⟨e == 0, ?_, fun h => h2 (eq_of_beq h)⟩
  show (f58 k _).bind (fun r1 => some (r1.1 == (0 : Int), ())) = _
  rw [h1]
  rfl

/-! ### Fields that may be -/
def okF (fs : List Spc) (x : Vl) : Prop := ∃ f, specF fs x.1 = some f ∧ valueE f x.2 = 0
theorem valueE_spec {f : Spc} {t : List UInt8} (h : valueE f t = 0) : specE f = 0 := by
  unfold valueE at h
  by_cases h1 : specE f = 0
  · exact h1
  · rw [if_pos h1] at h; omega
theorem specF_no {fs : List Spc} {no : Int} {f : Spc} (h : specF fs no = some f) : f.1 = no ∧ f ∈ fs := by
  unfold specF at h
  exact ⟨by have := List.find?_some h; exact eq_of_beq this, List.mem_of_find?_eq_some h⟩
theorem okF_pos {fs : List Spc} {x : Vl} (h : okF fs x) : 2 ≤ x.1 ∧ x.1 ≤ 128 := by
  obtain ⟨f, h1, h2⟩ := h
  have := specE_zero (valueE_spec h2)
  have := (specF_no h1).1
  omega

theorem fRun_zero (fs : List Spc) : ∀ (l : List Vl) (last : Int), fRun fs last l = (0, 0) ↔ (∀ x ∈ l, last < x.1) ∧ l.Pairwise (fun a b => a.1 < b.1) ∧ ∀ x ∈ l, okF fs x := by
  intro l
  induction l with
  | nil => intro last; simp [fRun]
  | cons x l ih =>
    intro last
    rw [fRun]
    by_cases h1 : x.1 ≤ last
    · rw [if_pos h1]
      constructor
      · intro h; simp at h
      · intro h
        have := h.1 x (by simp)
        omega
    · rw [if_neg h1]
      cases hf : specF fs x.1 with
      | none =>
        constructor
        · intro h; simp at h
        · rintro ⟨_, _, h⟩
          obtain ⟨f, h2, _⟩ := h x (by simp)
          rw [hf] at h2
          cases h2
      | some f =>
        dsimp only
        by_cases h2 : valueE f x.2 ≠ 0
        · rw [if_pos h2]
          constructor
          · intro h
            injection h with h _
            exact absurd h h2
          · rintro ⟨_, _, h⟩
            obtain ⟨g, h3, h4⟩ := h x (by simp)
            rw [hf] at h3
            injection h3 with h3
            subst h3
            exact absurd h4 h2
        · have h2 : valueE f x.2 = 0 := by omega
          rw [if_neg (by simpa using h2), ih x.1]
          constructor
          · rintro ⟨h3, h4, h5⟩
            refine ⟨fun y hy => ?_, List.pairwise_cons.2 ⟨h3, h4⟩, fun y hy => ?_⟩
            · rcases List.mem_cons.1 hy with hy | hy
              · rw [hy]; omega
              · have := h3 y hy; omega
            · rcases List.mem_cons.1 hy with hy | hy
              · rw [hy]; exact ⟨f, hf, h2⟩
              · exact h5 y hy
          · rintro ⟨h3, h4, h5⟩
            obtain ⟨h6, h7⟩ := List.pairwise_cons.1 h4
            exact ⟨h6, h7, fun y hy => h5 y (List.mem_cons_of_mem _ hy)⟩

/-- A list of fields that may be. -/
def FOk (fs : List Spc) (l : List Vl) : Prop := l.Pairwise (fun a b => a.1 < b.1) ∧ ∀ x ∈ l, okF fs x
theorem fRun_iff (fs : List Spc) (l : List Vl) : fRun fs 0 l = (0, 0) ↔ FOk fs l := by
  rw [fRun_zero]
  constructor
  · rintro ⟨_, h1, h2⟩
    exact ⟨h1, h2⟩
  · rintro ⟨h1, h2⟩
    exact ⟨fun x hx => by have := okF_pos (h2 x hx); omega, h1, h2⟩

theorem insF_mem (no : Int) (t : List UInt8) : ∀ (l : List Vl) (x : Vl), x ∈ insF l no t ↔ x = (no, t) ∨ x ∈ l := by
  intro l
  induction l with
  | nil => intro x; simp [insF, idxF]
  | cons v l ih =>
    intro x
    rw [insF_cons]
    by_cases h : v.1 > no
    · rw [if_pos h]; simp
    · rw [if_neg h, List.mem_cons, ih, List.mem_cons]
      constructor
      · rintro (h | h | h)
        · exact .inr (.inl h)
        · exact .inl h
        · exact .inr (.inr h)
      · rintro (h | h | h)
        · exact .inr (.inl h)
        · exact .inl h
        · exact .inr (.inr h)

theorem insF_sorted {no : Int} {t : List UInt8} : ∀ {l : List Vl}, l.Pairwise (fun a b => a.1 < b.1) → (∀ x ∈ l, x.1 ≠ no) → (insF l no t).Pairwise (fun a b => a.1 < b.1) := by
  intro l
  induction l with
  | nil => intro _ _; simp [insF, idxF]
  | cons v l ih =>
    intro h hn
    obtain ⟨h1, h2⟩ := List.pairwise_cons.1 h
    rw [insF_cons]
    by_cases hv : v.1 > no
    · rw [if_pos hv]
      refine List.pairwise_cons.2 ⟨fun x hx => ?_, h⟩
      rcases List.mem_cons.1 hx with hx | hx
      · rw [hx]; exact hv
      · have := h1 x hx
        show no < x.1
        omega
    · rw [if_neg hv]
      refine List.pairwise_cons.2 ⟨fun x hx => ?_, ih h2 (fun x hx => hn x (List.mem_cons_of_mem _ hx))⟩
      rcases (insF_mem no t l x).1 hx with hx | hx
      · rw [hx]
        have := hn v (by simp)
        show v.1 < no
        omega
      · exact h1 x hx

theorem with_FOk {fs : List Spc} {l : List Vl} (h : FOk fs l) {no : Int} {t : List UInt8} (hx : okF fs (no, t)) : FOk fs (insF (woF l no) no t) := by
  refine ⟨insF_sorted (h.1.sublist List.filter_sublist) (fun x hx => by simpa using (List.mem_filter.1 hx).2), fun x hx' => ?_⟩
  rcases (insF_mem no t _ x).1 hx' with e | e
  · rw [e]; exact hx
  · exact h.2 x (List.mem_filter.1 e).1

theorem getF_mem {l : List Vl} {no : Int} {v : List UInt8} (h : getF l no = some v) : (no, v) ∈ l := by
  unfold getF at h
  cases hf : l.find? (fun v => v.1 == no) with
  | none => rw [hf] at h; cases h
  | some x =>
    rw [hf] at h
    injection h with h
    have h1 := List.find?_some hf
    have h2 := List.mem_of_find?_eq_some hf
    obtain ⟨a, b⟩ := x
    have h1 : a = no := eq_of_beq h1
    subst h1
    have h : b = v := h
    subst h
    exact h2

theorem step_FOk {fs : List Spc} {m o : Ms} (hm : ∀ x ∈ m.2, okF fs x) (ho : FOk fs o.2) (no : Int) : FOk fs (stepF m o no).2 := by
  unfold stepF
  cases h : getF m.2 no with
  | none => exact ho
  | some v => exact with_FOk ho (hm _ (getF_mem h))
theorem step_mti (m o : Ms) (no : Int) : (stepF m o no).1 = o.1 := by
  unfold stepF
  cases h : getF m.2 no <;> rfl
theorem fold_FOk {fs : List Spc} {m : Ms} (hm : ∀ x ∈ m.2, okF fs x) : ∀ (l : List Int) (o : Ms), FOk fs o.2 → FOk fs (l.foldl (stepF m) o).2 ∧ (l.foldl (stepF m) o).1 = o.1
  | [], o, h => ⟨h, rfl⟩
  | x :: l, o, h => by
    obtain ⟨h1, h2⟩ := fold_FOk hm l (stepF m o x) (step_FOk hm h x)
    exact ⟨h1, h2.trans (step_mti m o x)⟩

theorem codeF_mem {l : List Vl} (h : (firstF l 0).isSome = true) (e : Int) : ∃ c ∈ l, codeF l e = c.2 := by
  have mem : ∀ {e t}, firstF l e = some t → ∃ c ∈ l, t = c.2 := by
    intro e t h
    rw [← firstF_get] at h
    exact ⟨_, getF_mem h, rfl⟩
  unfold codeF
  cases h1 : firstF l e with
  | some t => exact mem h1
  | none =>
    cases h2 : firstF l 0 with
    | some t => exact mem h2
    | none => rw [h2] at h; cases h

/-- The answer to what is valid is valid, and doesn't ask. -/
theorem build_valid {s : Sd} {m : Ms} (hs : SideOk s) (hm : mCheck s.1 m = (0, 0)) (hr : reqB m.1 = true) (e : Int) : mCheck s.1 (buildF s m e).1 = (0, 0) ∧ reqB (buildF s m e).1.1 = false := by
  have h1 : mtiR m.1 = true ∧ verI m.1 = s.1.2.1 ∧ fRun s.1.2.2 0 m.2 = (0, 0) := by
    unfold mCheck at hm
    rw [hs.sch, if_neg (by simp)] at hm
    cases hh : (mtiR m.1 && (verI m.1 == s.1.2.1)) with
    | false => rw [hh, if_pos rfl] at hm; simp at hm
    | true =>
      rw [hh, if_neg (by simp)] at hm
      rw [Bool.and_eq_true] at hh
      exact ⟨hh.1, eq_of_beq hh.2, hm⟩
  obtain ⟨h1, h2, h3⟩ := h1
  rw [fRun_iff] at h3
  obtain ⟨a, ha, hc⟩ := hs.code
  obtain ⟨c, hc1, hc2⟩ := codeF_mem hs.some e
  have hcode : okF s.1.2.2 (39, codeF s.2.2.2 e) := ⟨a, ha, by rw [hc2]; exact hc c hc1⟩
  obtain ⟨hf1, hf2⟩ := fold_FOk (fs := s.1.2.2) h3.2 s.2.2.1 (respF m.1, []) ⟨by simp, by simp⟩
  have hF := with_FOk hf1 hcode
  unfold buildF
  rw [if_pos hr]
  show mCheck s.1 (endF _ _ _) = _ ∧ reqB (s.2.2.1.foldl (stepF m) (respF m.1, [])).1 = false
  rw [hf2]
  obtain ⟨x, y, z, w, hm4, dx, dy, dz, dw, hz⟩ := req_four hr
  have hresp : respF m.1 = [x, y, UInt8.ofNat (z.toNat + 1), w] := by rw [hm4]; rfl
  have hz' : (UInt8.ofNat (z.toNat + 1)).toNat = z.toNat + 1 := by rw [UInt8.toNat_ofNat']; omega
  have dz' : dig (UInt8.ofNat (z.toNat + 1)) = true := by
    unfold dig
    rw [hz', Bool.and_eq_true, decide_eq_true_iff, decide_eq_true_iff]
    omega
  refine ⟨?_, ?_⟩
  · unfold mCheck endF
    rw [hs.sch, if_neg (by simp)]
    dsimp only
    rw [hf2, hresp]
    have e1 : mtiR [x, y, UInt8.ofNat (z.toNat + 1), w] = true := by
      show ((((4 : Nat) : Int) == 4) && (dig x && (dig y && (dig (UInt8.ofNat (z.toNat + 1)) && (dig w && true))))) = true
      rw [dx, dy, dz', dw]
      rfl
    have e2 : verI [x, y, UInt8.ofNat (z.toNat + 1), w] = s.1.2.1 := by
      rw [← h2, hm4]
      rfl
    rw [hresp] at hF
    rw [e1, e2, if_neg (by simp), fRun_iff]
    exact hF
  · show reqB (respF m.1) = false
    rw [hresp]
    unfold reqB
    have : ((((([x, y, UInt8.ofNat (z.toNat + 1), w] : List UInt8).getD 2 0).toNat : Nat) : Int) == 48 || (((([x, y, UInt8.ofNat (z.toNat + 1), w] : List UInt8).getD 2 0).toNat : Nat) : Int) == 50) = false := by
      show ((((UInt8.ofNat (z.toNat + 1)).toNat : Nat) : Int) == 48 || (((UInt8.ofNat (z.toNat + 1)).toNat : Nat) : Int) == 50) = false
      rw [hz', eqI_false (by omega), eqI_false (by omega)]
      rfl
    rw [this, Bool.and_false]

end Go.Ab
