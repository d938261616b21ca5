import Derived.Test.YtnifcbofkodjeaaWaAbQd
import Derived.KernelRfl
set_option linter.unusedVariables false
namespace Go.Ab

abbrev Spc := Int × Int × Int × Int × Int
abbrev Sc := Int × Int × List Spc

/-! ### Specs -/
def specE (s : Spc) : Int :=
  if s.1 < 2 ∨ 128 < s.1 then 1 else if ¬ (1 ≤ s.2.1 ∧ s.2.1 ≤ 6) then 6 else if s.2.2.1 < 1 ∨ 3 < s.2.2.1 then 3
  else if s.2.2.2.1 < 1 ∨ s.2.2.2.2 < s.2.2.2.1 ∨ (if s.2.2.1 = 2 then 99 else 999) < s.2.2.2.2 ∨ (s.2.2.1 = 1 ∧ s.2.2.2.1 ≠ s.2.2.2.2) then 5
  else if s.2.2.1 = 1 ∧ s.2.1 = 6 then 13 else 0

theorem most2 (n : Nat) : f130 (n + 10) (2, ()) = some (99, ()) := by kernel_rfl
theorem most3 (n : Nat) : f130 (n + 10) (3, ()) = some (999, ()) := by kernel_rfl

theorem spec_ok {k : Nat} (hk : 10 ≤ k) (s : Spc) : f92 k (s, ()) = some (specE s, ()) := by
  obtain ⟨no, c, fm, mn, mx⟩ := s
  obtain ⟨k, rfl⟩ : ∃ m, k = m + 10 := ⟨k - 10, by omega⟩
  show f92_m (k + 10) _ = _
  dsimp only [f92_m]
  unfold specE
  dsimp only
  by_cases h1 : no < 2
  · rw [cond_yes h1, if_pos (.inl h1)]
  rw [cond_no h1]
  by_cases h2 : no > 128
  · rw [cond_yes h2, if_pos (.inr h2)]
  rw [cond_no h2, if_neg (by omega), known_ok, Option.bind_some]
  dsimp only
  by_cases h3' : ¬ (1 ≤ c ∧ c ≤ 6)
  · rw [decide_eq_false h3', if_pos h3']
    rfl
  have h3 : 1 ≤ c ∧ c ≤ 6 := by omega
  rw [decide_eq_true h3, Bool.not_true, cond_false, if_neg (by omega)]
  by_cases h4 : fm < 1
  · rw [cond_yes h4, if_pos (.inl h4)]
  rw [cond_no h4]
  by_cases h5 : fm > 3
  · rw [cond_yes h5, if_pos (.inr h5)]
  rw [cond_no h5, if_neg (by omega)]
  by_cases h6 : mn < 1
  · rw [cond_yes h6, if_pos (.inl h6)]
  rw [cond_no h6]
  by_cases h7 : mn > mx
  · rw [cond_yes h7, if_pos (.inr (.inl h7))]
  rw [cond_no h7]
  by_cases h8 : mx > 999
  · rw [cond_yes h8, if_pos (.inr (.inr (.inl (by split <;> omega))))]
  rw [cond_no h8]
  by_cases hf : fm = 1
  · subst hf
    simp only [show ((1 : Int) == 1) = true from rfl, show ((1 : Int) != 1) = false from rfl, cond_true, cond_false]
    by_cases h9 : mn = mx
    · subst h9
      rw [neI_false rfl, cond_false, if_neg (by simp; omega)]
      by_cases h10 : c = 6
      · rw [eqI_true h10, cond_true, if_pos ⟨trivial, h10⟩]
      · rw [eqI_false h10, cond_false, if_neg (by simp [h10])]
    · rw [neI_true h9, cond_true, if_pos (.inr (.inr (.inr ⟨trivial, h9⟩)))]
  · rw [eqI_false hf, cond_false, neI_true hf, cond_true, cond_false]
    by_cases h2' : fm = 2
    · subst h2'
      rw [most2, Option.bind_some]
      dsimp only
      by_cases h9 : mx > 99
      · rw [cond_yes h9, if_pos (.inr (.inr (.inl (by simpa using h9))))]
      · rw [cond_no h9, if_neg (by simp; omega), if_neg (by simp)]
    · have h3' : fm = 3 := by omega
      subst h3'
      rw [most3, Option.bind_some]
      dsimp only
      rw [cond_no (by omega), if_neg (by simp; omega), if_neg (by simp)]

theorem rspec_ok (k : Nat) (s : Spc) : f105 k (s, ()) = some (specE s, ()) := by
  obtain ⟨no, c, fm, mn, mx⟩ := s
  show f105_m k _ = _
  dsimp only [f105_m]
  unfold specE
  dsimp only
  by_cases h1 : no < 2
  · rw [cond_yes h1, if_pos (.inl h1)]
  rw [cond_no h1]
  by_cases h2 : no > 128
  · rw [cond_yes h2, if_pos (.inr h2)]
  rw [cond_no h2, if_neg (by omega)]
  by_cases h3 : c < 1
  · rw [cond_yes h3, if_pos (by omega)]
  rw [cond_no h3]
  by_cases h3' : c > 6
  · rw [cond_yes h3', if_pos (by omega)]
  rw [cond_no h3', if_neg (by omega)]
  by_cases h4 : fm < 1
  · rw [cond_yes h4, if_pos (.inl h4)]
  rw [cond_no h4]
  by_cases h5 : fm > 3
  · rw [cond_yes h5, if_pos (.inr h5)]
  rw [cond_no h5, if_neg (by omega)]
  by_cases hf : fm = 1
  · subst hf
    simp only [show ((1 : Int) == 2) = false from rfl, show ((1 : Int) == 1) = true from rfl, cond_true, cond_false]
    by_cases h6 : mn < 1
    · rw [cond_yes h6, if_pos (.inl h6)]
    rw [cond_no h6]
    by_cases h7 : mx < mn
    · rw [cond_yes h7, if_pos (.inr (.inl h7))]
    rw [cond_no h7]
    by_cases h8 : mx > 999
    · rw [cond_yes h8, if_pos (.inr (.inr (.inl (by simpa using h8))))]
    rw [cond_no h8]
    by_cases h9 : mn = mx
    · subst h9
      rw [neI_false rfl, cond_false, if_neg (by simp; omega)]
      by_cases h10 : c = 6
      · rw [eqI_true h10, cond_true, if_pos ⟨trivial, h10⟩]
      · rw [eqI_false h10, cond_false, if_neg (by simp [h10])]
    · rw [neI_true h9, cond_true, if_pos (.inr (.inr (.inr ⟨trivial, h9⟩)))]
  · by_cases h2' : fm = 2
    · subst h2'
      simp only [show ((2 : Int) == 2) = true from rfl, show ((2 : Int) == 1) = false from rfl, cond_true, cond_false]
      by_cases h6 : mn < 1
      · rw [cond_yes h6, if_pos (.inl h6)]
      rw [cond_no h6]
      by_cases h7 : mx < mn
      · rw [cond_yes h7, if_pos (.inr (.inl h7))]
      rw [cond_no h7]
      by_cases h8 : mx > 99
      · rw [cond_yes h8, if_pos (.inr (.inr (.inl (by simpa using h8))))]
      rw [cond_no h8, if_neg (by simp; omega), if_neg (by simp)]
    · have h3'' : fm = 3 := by omega
      subst h3''
      simp only [show ((3 : Int) == 2) = false from rfl, show ((3 : Int) == 1) = false from rfl, cond_false]
      by_cases h6 : mn < 1
      · rw [cond_yes h6, if_pos (.inl h6)]
      rw [cond_no h6]
      by_cases h7 : mx < mn
      · rw [cond_yes h7, if_pos (.inr (.inl h7))]
      rw [cond_no h7]
      by_cases h8 : mx > 999
      · rw [cond_yes h8, if_pos (.inr (.inr (.inl (by simpa using h8))))]
      rw [cond_no h8, if_neg (by simp; omega), if_neg (by simp)]

theorem specE_zero {s : Spc} (h : specE s = 0) : 2 ≤ s.1 ∧ s.1 ≤ 128 ∧ 1 ≤ s.2.1 ∧ s.2.1 ≤ 6 ∧ 1 ≤ s.2.2.1 ∧ s.2.2.1 ≤ 3 ∧ 1 ≤ s.2.2.2.1 ∧ s.2.2.2.1 ≤ s.2.2.2.2 ∧ s.2.2.2.2 ≤ 999 ∧ (s.2.2.1 = 2 → s.2.2.2.2 ≤ 99) ∧ (s.2.2.1 = 1 → s.2.2.2.1 = s.2.2.2.2 ∧ s.2.1 ≠ 6) := by
  unfold specE at h
  by_cases c1 : s.1 < 2 ∨ 128 < s.1
  · rw [if_pos c1] at h; omega
  rw [if_neg c1] at h
  by_cases c2 : ¬ (1 ≤ s.2.1 ∧ s.2.1 ≤ 6)
  · rw [if_pos c2] at h; omega
  rw [if_neg c2] at h
  by_cases c3 : s.2.2.1 < 1 ∨ 3 < s.2.2.1
  · rw [if_pos c3] at h; omega
  rw [if_neg c3] at h
  by_cases c4 : s.2.2.2.1 < 1 ∨ s.2.2.2.2 < s.2.2.2.1 ∨ (if s.2.2.1 = 2 then 99 else 999) < s.2.2.2.2 ∨ (s.2.2.1 = 1 ∧ s.2.2.2.1 ≠ s.2.2.2.2)
  · rw [if_pos c4] at h; omega
  rw [if_neg c4] at h
  by_cases c5 : s.2.2.1 = 1 ∧ s.2.1 = 6
  · rw [if_pos c5] at h; omega
  by_cases hf : s.2.2.1 = 2
  · rw [if_pos hf] at c4
    omega
  · rw [if_neg hf] at c4
    omega

/-! ### Values -/
def valueE (s : Spc) (t : List UInt8) : Int :=
  if specE s ≠ 0 then 1 else if ((t.length : Nat) : Int) < s.2.2.2.1 ∨ s.2.2.2.2 < ((t.length : Nat) : Int) then 5 else if clsAll s.2.1 t = false then 6 else if s.2.1 = 6 ∧ tlvOk t = false then 13 else 0

theorem value_ok {k : Nat} {s : Spc} {t : List UInt8} (hl : t.length < 1000000000) (hk : t.length + 10 < k) : f65 k (s, t, ()) = some (valueE s t, ()) := by
  show f65_m k _ = _
  dsimp only [f65_m]
  rw [spec_ok (by omega), Option.bind_some]
  unfold valueE
  dsimp only
  by_cases h1' : specE s ≠ 0
  · rw [neI_true h1', cond_true, if_pos h1']
  have h1 : specE s = 0 := by omega
  rw [neI_false h1, cond_false, if_neg (by simpa using h1)]
  have hs := specE_zero h1
  by_cases h2 : ((t.length : Nat) : Int) < s.2.2.2.1
  · rw [cond_yes h2, if_pos (.inl h2)]
  rw [cond_no h2]
  by_cases h3 : ((t.length : Nat) : Int) > s.2.2.2.2
  · rw [cond_yes h3, if_pos (.inr h3)]
  rw [cond_no h3, if_neg (by omega)]
  obtain ⟨r, h4, h5⟩ := first_ok (k := k) (c := s.2.1) (by omega) hl (by omega)
  rw [h4, Option.bind_some]
  dsimp only
  rw [h5]
  cases hc : clsAll s.2.1 t with
  | false => rfl
  | true =>
    rw [Bool.not_true, cond_false, if_neg (by simp)]
    by_cases h6 : s.2.1 = 6
    · rw [eqI_true h6, cond_true]
      obtain ⟨x, e, p, h7, h8⟩ := tlv_ok hl hk
      rw [h7, Option.bind_some, ← h8]
      dsimp only
      by_cases he : e = 0
      · rw [neI_false he, cond_false, if_neg (by simp [he])]
      · rw [neI_true he, cond_true, if_pos (by simp [he, h6])]
    · rw [eqI_false h6, cond_false, if_neg (by simp [h6])]

theorem rvalue_ok {k : Nat} {s : Spc} {t : List UInt8} (hl : t.length < 1000000000) (hk : t.length + 10 < k) : f61 k (s, t, ()) = some (valueE s t, ()) := by
  show f61_m k _ = _
  dsimp only [f61_m]
  rw [rspec_ok, Option.bind_some]
  unfold valueE
  dsimp only
  by_cases h1' : specE s ≠ 0
  · rw [neI_true h1', cond_true, if_pos h1']
  have h1 : specE s = 0 := by omega
  rw [neI_false h1, cond_false, if_neg (by simpa using h1)]
  have hs := specE_zero h1
  by_cases h2 : ((t.length : Nat) : Int) < s.2.2.2.1
  · rw [cond_yes h2, if_pos (.inl h2)]
  rw [cond_no h2]
  by_cases h3 : ((t.length : Nat) : Int) > s.2.2.2.2
  · rw [cond_yes h3, if_pos (.inr h3)]
  rw [cond_no h3, if_neg (by omega)]
  obtain ⟨r, h4, h5⟩ := rfirst_ok (k := k) (c := s.2.1) (by omega) hl (by omega)
  rw [h4, Option.bind_some]
  dsimp only
  rw [h5]
  cases hc : clsAll s.2.1 t with
  | false => rfl
  | true =>
    rw [Bool.not_true, cond_false, if_neg (by simp)]
    by_cases h6 : s.2.1 = 6
    · rw [eqI_true h6, cond_true]
      obtain ⟨x, e, p, h7, h8⟩ := rtlv_ok hl hk
      rw [h7, Option.bind_some, ← h8]
      dsimp only
      by_cases he : e = 0
      · rw [neI_false he, cond_false, if_neg (by simp [he])]
      · rw [neI_true he, cond_true, if_pos (by simp [he, h6])]
    · rw [eqI_false h6, cond_false, if_neg (by simp [h6])]

end Go.Ab
