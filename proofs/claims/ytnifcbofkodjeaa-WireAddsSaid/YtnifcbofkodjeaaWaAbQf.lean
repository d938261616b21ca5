import Derived.Test.YtnifcbofkodjeaaWaAbQe
set_option linter.unusedVariables false
namespace Go.Ab

/-! ### Schemas -/
def schRun : Int → List Spc → Bool
  | _, [] => true
  | last, x :: r => decide (specE x = 0) && decide (last < x.1) && schRun x.1 r
def schOk (s : Sc) : Bool := (s.1 == 1 || s.1 == 2) && decide (0 ≤ s.2.1 ∧ s.2.1 ≤ 9) && schRun 0 s.2.2
abbrev Spc0 : Spc := ((0 : Int), ((0 : Int), ((0 : Int), ((0 : Int), (0 : Int)))))

theorem sch_loop {k : Nat} (hk : 10 ≤ k) (a b : Int) (l : List Spc) (hl : l.length < 1000000000) : ∀ (d i n : Nat) (last : Int), l.length = i + d → d < n → (i = 0 → last = 0) → (∀ j, i = j + 1 → last = (l.getD j Spc0).1) →
    ∃ e p, loopP (fun R6 p => f63_b6 k R6 p) n (l, ((l.length : Nat) : Int), (i : Int), a, b, l) = some (e, p, ()) ∧ decide (e = 0) = schRun last (l.drop i) := by
  intro d
  induction d with
  | zero =>
    intro i n last h1 h2 h3 h4
    obtain ⟨n, rfl⟩ : ∃ m, n = m + 1 := ⟨n - 1, by omega⟩
    rw [loopP_succ]
    dsimp only [f63_b6]
    rw [cond_no (by omega), List.drop_eq_nil_of_le (by omega)]
    exact ⟨_, _, rfl, rfl⟩
  | succ d ih =>
    intro i n last h1 h2 h3 h4
    obtain ⟨n, rfl⟩ : ∃ m, n = m + 1 := ⟨n - 1, by omega⟩
    rw [loopP_succ]
    have ih := ih (i + 1) n
    generalize loopP (fun R6 p => f63_b6 k R6 p) n = L at *
    dsimp only [f63_b6]
    have h : i < l.length := by omega
    rw [cond_yes (by omega), chk_decide (by omega), chk_decide (by omega), toNat_cast, at_index h, spec_ok hk, Option.bind_some, drop_eq h, schRun]
    dsimp only
    by_cases he : specE l[i] ≠ 0
    · rw [neI_true he, cond_true, decide_eq_false he]
      exact ⟨_, _, rfl, by simp [he]⟩
    have he : specE l[i] = 0 := by omega
    have hs := specE_zero he
    rw [neI_false he, cond_false, decide_eq_true he, Bool.true_and]
    have nxt : ∀ last', last' = l[i].1 → ∃ e p, L (l, ((l.length : Nat) : Int), ((i + 1 : Nat) : Int), a, b, l) = some (e, p, ()) ∧ decide (e = 0) = schRun last' (l.drop (i + 1)) := fun last' hl' =>
      ih last' (by omega) (by omega) (fun e => by omega) (fun j hj => by
        obtain rfl : j = i := by omega
        rw [hl', at_index h])
    by_cases hi : 0 < i
    · obtain ⟨j, rfl⟩ : ∃ j, i = j + 1 := ⟨i - 1, by omega⟩
      have hlast := h4 j rfl
      rw [cond_yes (by omega), show IntKind.i64.wrap (((j + 1 : Nat) : Int) - 1) = ((j : Nat) : Int) from by rw [w64 (by omega) (by omega)]; omega, chk_decide (by omega), chk_decide (by omega), toNat_cast, ← hlast]
      by_cases hle : l[j + 1].1 ≤ last
      · rw [cond_yes hle, decide_eq_false (by omega)]
        exact ⟨_, _, rfl, by simp⟩
      · rw [cond_no hle, decide_eq_true (by omega), Bool.true_and, wsucc (by omega)]
        exact nxt _ rfl
    · have hl0 := h3 (by omega)
      rw [cond_no (by omega), decide_eq_true (by omega), Bool.true_and, wsucc (by omega)]
      exact nxt _ rfl
where
  drop_eq {α : Type} {l : List α} {i : Nat} (h : i < l.length) : l.drop i = l[i] :: l.drop (i + 1) := List.drop_eq_getElem_cons h

theorem sch_ok {k : Nat} {s : Sc} (hl : s.2.2.length < 1000000000) (hk : s.2.2.length + 10 < k) : ∃ e p, f63 k (s, ()) = some (e, p, ()) ∧ decide (e = 0) = schOk s := by
  obtain ⟨a, b, l⟩ := s
  show ∃ e p, f63_m k (f63_l6 k) _ = _ ∧ _
  have hloop := sch_loop (k := k) (by omega) a b l hl l.length 0 k 0 (by omega) (by dsimp only at hk; omega) (fun _ => rfl) (fun j h => by omega)
  rw [List.drop_zero] at hloop
  dsimp only [f63_m]
  unfold schOk
  dsimp only
  by_cases h1 : a = 1
  · rw [neI_false h1, cond_false, eqI_true h1, Bool.true_or, Bool.true_and]
    by_cases h2 : b < 0
    · rw [cond_yes h2, decide_eq_false (by omega)]
      exact ⟨_, _, rfl, rfl⟩
    rw [cond_no h2]
    by_cases h3 : b > 9
    · rw [cond_yes h3, decide_eq_false (by omega)]
      exact ⟨_, _, rfl, rfl⟩
    rw [cond_no h3, decide_eq_true (by omega), Bool.true_and]
    exact hloop
  · rw [neI_true h1, cond_true, eqI_false h1, Bool.false_or]
    by_cases h4 : a = 2
    · rw [neI_false h4, cond_false, eqI_true h4, Bool.true_and]
      by_cases h2 : b < 0
      · rw [cond_yes h2, decide_eq_false (by omega)]
        exact ⟨_, _, rfl, rfl⟩
      rw [cond_no h2]
      by_cases h3 : b > 9
      · rw [cond_yes h3, decide_eq_false (by omega)]
        exact ⟨_, _, rfl, rfl⟩
      rw [cond_no h3, decide_eq_true (by omega), Bool.true_and]
      exact hloop
    · rw [neI_true h4, cond_true, eqI_false h4]
      exact ⟨_, _, rfl, rfl⟩

theorem rsch_loop {k : Nat} (a b : Int) (l : List Spc) (hl : l.length < 1000000000) : ∀ (d i n : Nat) (last : Int), l.length = i + d → d < n →
    ∃ e p, loopP (fun R7 p => f104_b7 k R7 p) n (last, (i : Int), a, b, l) = some (e, p, ()) ∧ decide (e = 0) = schRun last (l.drop i) := by
  intro d
  induction d with
  | zero =>
    intro i n last h1 h2
    obtain ⟨n, rfl⟩ : ∃ m, n = m + 1 := ⟨n - 1, by omega⟩
    rw [loopP_succ]
    dsimp only [f104_b7]
    rw [cond_no (by omega), List.drop_eq_nil_of_le (by omega)]
    exact ⟨_, _, rfl, rfl⟩
  | succ d ih =>
    intro i n last h1 h2
    obtain ⟨n, rfl⟩ : ∃ m, n = m + 1 := ⟨n - 1, by omega⟩
    rw [loopP_succ]
    have ih := ih (i + 1) n
    generalize loopP (fun R7 p => f104_b7 k R7 p) n = L at *
    dsimp only [f104_b7]
    have h : i < l.length := by omega
    rw [cond_yes (by omega), chk_decide (by omega), chk_decide (by omega), toNat_cast, at_index h, rspec_ok, Option.bind_some, List.drop_eq_getElem_cons h, schRun]
    dsimp only
    by_cases he : specE l[i] ≠ 0
    · rw [neI_true he, cond_true, decide_eq_false he]
      exact ⟨_, _, rfl, by simp [he]⟩
    have he : specE l[i] = 0 := by omega
    rw [neI_false he, cond_false, decide_eq_true he, Bool.true_and, chk_decide (by omega), chk_decide (by omega)]
    by_cases hle : l[i].1 ≤ last
    · rw [cond_yes hle, decide_eq_false (by omega)]
      exact ⟨_, _, rfl, by simp⟩
    · rw [cond_no hle, chk_decide (by omega), chk_decide (by omega), wsucc (by omega), decide_eq_true (show last < l[i].1 by omega), Bool.true_and]
      exact ih _ (by omega) (by omega)

theorem rsch_ok {k : Nat} {s : Sc} (hl : s.2.2.length < 1000000000) (hk : s.2.2.length + 10 < k) : f59 k (s, ()) = some (schOk s, ()) := by
  obtain ⟨a, b, l⟩ := s
  have key : ∃ e p, f104 k ((a, b, l), ()) = some (e, p, ()) ∧ decide (e = 0) = schOk (a, b, l) := by
    show ∃ e p, f104_m k (f104_l7 k) _ = _ ∧ _
    have hloop := rsch_loop (k := k) a b l hl l.length 0 k 0 (by omega) (by dsimp only at hk; omega)
    rw [List.drop_zero] at hloop
    dsimp only [f104_m]
    unfold schOk
    dsimp only
    by_cases h1 : a = 1
    · rw [neI_false h1, cond_false, eqI_true h1, Bool.true_or, Bool.true_and]
      by_cases h2 : b < 0
      · rw [cond_yes h2, decide_eq_false (by omega)]
        exact ⟨_, _, rfl, rfl⟩
      rw [cond_no h2]
      by_cases h3 : b > 9
      · rw [cond_yes h3, decide_eq_false (by omega)]
        exact ⟨_, _, rfl, rfl⟩
      rw [cond_no h3, decide_eq_true (by omega), Bool.true_and]
      exact hloop
    · rw [neI_true h1, cond_true, eqI_false h1, Bool.false_or]
      by_cases h4 : a = 2
      · rw [neI_false h4, cond_false, eqI_true h4, Bool.true_and]
        by_cases h2 : b < 0
        · rw [cond_yes h2, decide_eq_false (by omega)]
          exact ⟨_, _, rfl, rfl⟩
        rw [cond_no h2]
        by_cases h3 : b > 9
        · rw [cond_yes h3, decide_eq_false (by omega)]
          exact ⟨_, _, rfl, rfl⟩
        rw [cond_no h3, decide_eq_true (by omega), Bool.true_and]
        exact hloop
      · rw [neI_true h4, cond_true, eqI_false h4]
        exact ⟨_, _, rfl, rfl⟩
  obtain ⟨e, p, h1, h2⟩ := key
  show (f104 k ((a, b, l), ())).bind (fun r1 => some ((r1.1 == (0 : Int)), ())) = _
  rw [h1, Option.bind_some, ← h2]
  congr 2

/-! ### A field's spec -/
def specF (l : List Spc) (no : Int) : Option Spc := l.find? fun x => x.1 == no
theorem sfind_ok {k : Nat} {s : Sc} {no : Int} (hl : s.2.2.length < 1000000000) (hk : s.2.2.length < k) : f40 k (s, no, ()) = some (match specF s.2.2 no with | some f => (f, true, ()) | none => (Spc0, false, ())) := by
  obtain ⟨a, b, l⟩ := s
  dsimp only at hl hk
  have key := ix_loop (B := fun R2 p => f40_b2 k R2 p) l.length (fun i : Nat => ((no, l, ((l.length : Nat) : Int), ((i : Nat) : Int), (0 : Int), (0 : Int), (0 : Int), (0 : Int), (0 : Int)) : f40_t2))
    (fun i => some (match specF (l.drop i) no with | some f => (f, true, ()) | none => (Spc0, false, ()))) (fun i L hi hL => by
    dsimp only [f40_b2]
    by_cases hlt : i < l.length
    · rw [cond_yes (by omega), chk_decide (by omega), chk_decide (by omega), toNat_cast, at_index hlt, List.drop_eq_getElem_cons hlt]
      simp only [specF, List.find?_cons]
      cases hb : (l[i].1 == no) with
      | true => rfl
      | false =>
        rw [cond_false, wsucc (by omega)]
        exact hL hlt
    · rw [cond_no (by omega), List.drop_eq_nil_of_le (by omega)]
      rfl) k 0 (Nat.zero_le _) (by omega)
  rw [List.drop_zero] at key
  exact key

theorem rsfind_ok {k : Nat} {s : Sc} {no : Int} (hl : s.2.2.length < 1000000000) (hk : s.2.2.length < k) : f60 k (s, no, ()) = some (idxI (s.2.2.findIdx? fun x => x.1 == no), ()) := by
  obtain ⟨a, b, l⟩ := s
  dsimp only at hl hk
  have key := ix_loop (B := fun R2 p => f60_b2 k R2 p) l.length (fun i : Nat => ((no, ((i : Nat) : Int), a, b, l) : f60_t2))
    (fun i => some (idxI (((l.drop i).findIdx? fun x => x.1 == no).map (· + i)), ())) (fun i L hi hL => by
    dsimp only [f60_b2]
    by_cases hlt : i < l.length
    · rw [cond_yes (by omega), chk_decide (by omega), chk_decide (by omega), toNat_cast, at_index hlt, List.drop_eq_getElem_cons hlt, List.findIdx?_cons]
      cases hb : (l[i].1 == no) with
      | true => simp [idxI]
      | false =>
        rw [cond_false, wsucc (by omega), hL hlt]
        simp only [Bool.false_eq_true, if_false]
        cases List.findIdx? (fun x : Spc => x.1 == no) (List.drop (i + 1) l) with
        | none => rfl
        | some j => simp [idxI]; omega
    · rw [cond_no (by omega), List.drop_eq_nil_of_le (by omega)]
      rfl) k 0 (Nat.zero_le _) (by omega)
  rw [List.drop_zero, show ∀ o : Option Nat, o.map (· + 0) = o from fun o => by cases o <;> rfl] at key
  exact key

theorem specF_idx (l : List Spc) (no : Int) : match l.findIdx? (fun x => x.1 == no) with
    | some j => j < l.length ∧ specF l no = some (l.getD j Spc0)
    | none => specF l no = none := by
  unfold specF
  induction l with
  | nil => rfl
  | cons x l ih =>
    rw [List.findIdx?_cons, List.find?_cons]
    cases hb : (x.1 == no) with
    | true => exact ⟨by simp, rfl⟩
    | false =>
      simp only [Bool.false_eq_true, if_false]
      cases hf : List.findIdx? (fun x : Spc => x.1 == no) l with
      | none => rw [hf] at ih; exact ih
      | some j => rw [hf] at ih; exact ⟨by simpa using ih.1, by simpa using ih.2⟩

/-! ### MTIs' versions -/
def mtiR (m : List UInt8) : Bool := (((m.length : Nat) : Int) == 4) && m.all dig
def verI (m : List UInt8) : Int := (((m.getD 0 0).toNat : Nat) : Int) - 48
theorem version_ok {k : Nat} {m : List UInt8} (hk : m.length < k) : f64 k (m, ()) = some (if mtiR m = true then (verI m, true, ()) else (0, false, ())) := by
  show (f62 k (m, ())).bind _ = _
  rw [right_ok hk, Option.bind_some]
  show cond (!mtiR m) _ _ = _
  cases h : mtiR m with
  | false => rfl
  | true =>
    unfold mtiR at h
    rw [Bool.and_eq_true] at h
    obtain ⟨h1, h2⟩ := h
    obtain ⟨a, b, c, d, rfl⟩ := four (eq_of_beq h1)
    have ha := dig_bounds (List.all_eq_true.1 h2 a (by simp))
    rw [Bool.not_true, cond_false, if_pos rfl, chk_decide (by simp)]
    show some (IntKind.i64.wrap (IntKind.u8.wrap ((((a.toNat : Nat) : Int)) - 48)), true, ()) = some ((((a.toNat : Nat) : Int)) - 48, true, ())
    rw [wu8 (by omega) (by omega), w64 (by omega) (by omega)]
theorem rmtiR_ok {k : Nat} {m : List UInt8} (hl : m.length < 1000000) (hk : m.length < k) : f34 k (m, ()) = some (mtiR m, ()) := by
  show f34_m k (m, ()) = _
  dsimp only [f34_m]
  unfold mtiR
  by_cases h : ((m.length : Nat) : Int) = 4
  · rw [eqI_true h, cond_true, rall_ok hl hk]
    rfl
  · rw [eqI_false h]
    rfl

/-! ### Messages -/
def fRun (fs : List Spc) : Int → List Vl → Int × Int
  | _, [] => (0, 0)
  | last, x :: r => if x.1 ≤ last then (11, x.1) else match specF fs x.1 with
    | none => (9, x.1)
    | some f => if valueE f x.2 ≠ 0 then (valueE f x.2, x.1) else fRun fs x.1 r
def mCheck (s : Sc) (m : Ms) : Int × Int := if schOk s = false then (1, -1) else if (mtiR m.1 && (verI m.1 == s.2.1)) = false then (7, 0) else fRun s.2.2 0 m.2

/-- Nothing is greater than is played. -/
structure Small (s : Sc) (m : Ms) (k : Nat) : Prop where
  hs : s.2.2.length < 100000
  ht : m.1.length < 100000
  hm : m.2.length < 100000
  hv : ∀ x ∈ m.2, x.2.length < 100000
  hk : 1000000 < k

theorem mcheck_loop {k : Nat} {s : Sc} {l : List Vl} (hs : s.2.2.length < 100000) (hl : l.length < 100000) (hv : ∀ x ∈ l, x.2.length < 100000) (hk : 1000000 < k) (a b : Int) : ∀ (d i n : Nat) (last : Int), l.length = i + d → d < n →
    loopP (fun R9 p => f31_b9 k R9 p) n (last, l, ((l.length : Nat) : Int), (i : Int), s.1, s.2.1, s.2.2, a, b) = some (fRun s.2.2 last (l.drop i), ()) := by
  intro d
  induction d with
  | zero =>
    intro i n last h1 h2
    obtain ⟨n, rfl⟩ : ∃ m, n = m + 1 := ⟨n - 1, by omega⟩
    rw [loopP_succ]
    dsimp only [f31_b9]
    rw [cond_no (by omega), List.drop_eq_nil_of_le (by omega)]
    rfl
  | succ d ih =>
    intro i n last h1 h2
    obtain ⟨n, rfl⟩ : ∃ m, n = m + 1 := ⟨n - 1, by omega⟩
    rw [loopP_succ]
    have ih := ih (i + 1) n
    generalize loopP (fun R9 p => f31_b9 k R9 p) n = L at *
    have h : i < l.length := by omega
    have hx := hv l[i] (List.getElem_mem h)
    dsimp only [f31_b9]
    rw [cond_yes (by omega), chk_decide (by omega), chk_decide (by omega), toNat_cast, at_index h, List.drop_eq_getElem_cons h, fRun]
    by_cases hle : l[i].1 ≤ last
    · rw [cond_yes hle, if_pos hle]
    rw [cond_no hle, if_neg hle, sfind_ok (s := s) (by omega) (by omega), Option.bind_some]
    cases hf : specF s.2.2 l[i].1 with
    | none => rfl
    | some f =>
      dsimp only
      rw [Bool.not_true, cond_false, value_ok (by omega) (by omega), Option.bind_some]
      dsimp only
      by_cases he : valueE f l[i].2 ≠ 0
      · rw [neI_true he, cond_true, if_pos he]
      · have he : valueE f l[i].2 = 0 := by omega
        rw [neI_false he, cond_false, if_neg (by simpa using he), wsucc (by omega), ih _ (by omega) (by omega)]

theorem mcheck_ok {k : Nat} {s : Sc} {m : Ms} (h : Small s m k) : f31 k (s, m, ()) = some (mCheck s m, ()) := by
  obtain ⟨h1, h2, h3, h4, h5⟩ := h
  show f31_m k (f31_l9 k) _ = _
  dsimp only [f31_m]
  obtain ⟨e, p, h6, h7⟩ := sch_ok (k := k) (s := s) (by omega) (by omega)
  rw [h6, Option.bind_some]
  unfold mCheck
  rw [← h7]
  dsimp only
  by_cases he : e ≠ 0
  · rw [neI_true he, cond_true, decide_eq_false he, if_pos rfl]
  have he : e = 0 := by omega
  rw [neI_false he, cond_false, decide_eq_true he, if_neg (by simp), version_ok (by omega), Option.bind_some]
  cases hm : mtiR m.1 with
  | false => rfl
  | true =>
    rw [if_pos rfl, Bool.true_and]
    dsimp only
    rw [Bool.not_true, cond_false]
    by_cases hv : verI m.1 = s.2.1
    · rw [neI_false hv, cond_false, eqI_true hv, if_neg (by simp)]
      exact mcheck_loop h1 h3 h4 h5 0 0 m.2.length 0 k 0 (by omega) (by omega)
    · rw [neI_true hv, cond_true, eqI_false hv, if_pos rfl]

theorem rmcheck_loop {k : Nat} {s : Sc} {l : List Vl} (hs : s.2.2.length < 100000) (hl : l.length < 100000) (hv : ∀ x ∈ l, x.2.length < 100000) (hk : 1000000 < k) (t : List UInt8) (a b : Int) : ∀ (d i n : Nat) (last : Int), l.length = i + d → d < n →
    loopP (fun R7 p => f29_b7 k R7 p) n (last, (i : Int), s.1, s.2.1, s.2.2, t, l, a, b) = some (fRun s.2.2 last (l.drop i), ()) := by
  intro d
  induction d with
  | zero =>
    intro i n last h1 h2
    obtain ⟨n, rfl⟩ : ∃ m, n = m + 1 := ⟨n - 1, by omega⟩
    rw [loopP_succ]
    dsimp only [f29_b7]
    rw [cond_no (by omega), List.drop_eq_nil_of_le (by omega)]
    rfl
  | succ d ih =>
    intro i n last h1 h2
    obtain ⟨n, rfl⟩ : ∃ m, n = m + 1 := ⟨n - 1, by omega⟩
    rw [loopP_succ]
    have ih := ih (i + 1) n
    generalize loopP (fun R7 p => f29_b7 k R7 p) n = L at *
    have h : i < l.length := by omega
    have hx := hv l[i] (List.getElem_mem h)
    dsimp only [f29_b7]
    rw [cond_yes (by omega), chk_decide (by omega), chk_decide (by omega), toNat_cast, at_index h, List.drop_eq_getElem_cons h, fRun]
    by_cases hle : l[i].1 ≤ last
    · rw [cond_yes hle, if_pos hle]
    have hfi := rsfind_ok (k := k) (s := s) (no := l[i].1) (by omega) (by omega)
    rw [cond_no hle, if_neg hle]
    have hsf := specF_idx s.2.2 l[i].1
    cases hf : s.2.2.findIdx? (fun x => x.1 == l[i].1) with
    | none =>
      rw [hf] at hsf hfi
      rw [hsf, hfi]
      rfl
    | some j =>
      rw [hf] at hsf hfi
      obtain ⟨hj, hsf⟩ := hsf
      have hfi : f60 k ((s.1, s.2.1, s.2.2), l[i].1, ()) = some (((j : Nat) : Int), ()) := hfi
      rw [hsf, hfi, Option.bind_some]
      dsimp only
      rw [cond_no (by omega), chk_decide (by omega), chk_decide (by omega), chk_decide (by omega), chk_decide (by omega), toNat_cast, rvalue_ok (by omega) (by omega), Option.bind_some]
      dsimp only
      by_cases he : valueE (s.2.2.getD j Spc0) l[i].2 ≠ 0
      · rw [neI_true he, cond_true, if_pos he]
      · have he : valueE (s.2.2.getD j Spc0) l[i].2 = 0 := by omega
        rw [neI_false he, cond_false, if_neg (by simpa using he), wsucc (by omega), ih _ (by omega) (by omega)]

theorem rmcheck_ok {k : Nat} {s : Sc} {m : Ms} (h : Small s m k) : f29 k (s, m, ()) = some (mCheck s m, ()) := by
  obtain ⟨h1, h2, h3, h4, h5⟩ := h
  show f29_m k (f29_l7 k) _ = _
  dsimp only [f29_m]
  rw [rsch_ok (by omega) (by omega), Option.bind_some]
  unfold mCheck
  dsimp only
  cases hs : schOk s with
  | false => rfl
  | true =>
    rw [Bool.not_true, cond_false, if_neg (by simp), rmtiR_ok (by omega) (by omega), Option.bind_some]
    dsimp only
    cases hm : mtiR m.1 with
    | false => rfl
    | true =>
      rw [Bool.not_true, cond_false, Bool.true_and]
      unfold mtiR at hm
      rw [Bool.and_eq_true] at hm
      obtain ⟨h6, h7⟩ := hm
      have hlen := eq_of_beq h6
      have hb := (m.1.getD 0 0).toNat_lt
      rw [chk_decide (by omega), wbyte, w64 (by omega) (by omega)]
      change cond (verI m.1 != s.2.1) _ _ = _
      by_cases hv : verI m.1 = s.2.1
      · rw [neI_false hv, cond_false, eqI_true hv, if_neg (by simp)]
        exact rmcheck_loop h1 h3 h4 h5 m.1 0 0 m.2.length 0 k 0 (by omega) (by omega)
      · rw [neI_true hv, cond_true, eqI_false hv, if_pos rfl]

end Go.Ab
