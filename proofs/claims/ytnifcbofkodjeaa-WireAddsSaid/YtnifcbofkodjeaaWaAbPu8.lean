import Derived.Test.YtnifcbofkodjeaaWaAbPu7
set_option linter.unusedVariables false
namespace Go.Ab
abbrev Sd := (Int × Int × List (Int × Int × Int × Int × Int)) × (List (List UInt8 × List UInt8) × List (Int × Int × Int × List UInt8 × List (List UInt8 × List UInt8))) × List Int × List Vl
abbrev Rst := Int × Int × List (Int × Int × Int × Int × Int) × List (List UInt8 × List UInt8) × List (Int × Int × Int × List UInt8 × List (List UInt8 × List UInt8)) × List Int × List Vl × List Int

/-- groatref23.Code -/
theorem rcode_ok {k : Nat} {s : Sd} {e : Int} (hl : s.2.2.2.length < 1000000) (hk : s.2.2.2.length < k) : f57 k (s, e, ()) = some (codeF s.2.2.2 e, ()) := by
  show f57_m k (s, e, ()) = _
  dsimp only [f57_m]
  generalize s.2.2.2 = l at *
  rw [rfind_ok hl hk]
  unfold codeF firstF
  cases h1 : posF l e with
  | some j =>
    have hj := pos_lt h1
    generalize hz : idxI (some j) = z
    rw [Option.bind_some]
    dsimp only
    have hz : z = (j : Int) := hz.symm
    subst hz
    rw [cond_no (by omega), cond_no (by omega), chk_decide (by omega), chk_decide (by omega), toNat_cast]
    rfl
  | none =>
    generalize hz : idxI none = z
    rw [Option.bind_some]
    dsimp only
    have hz : z = -1 := hz.symm
    subst hz
    rw [cond_yes (by omega), rfind_ok hl hk]
    cases h2 : posF l 0 with
    | some j =>
      have hj := pos_lt h2
      generalize hz : idxI (some j) = z
      rw [Option.bind_some]
      dsimp only
      have hz : z = (j : Int) := hz.symm
      subst hz
      rw [cond_no (by omega), chk_decide (by omega), chk_decide (by omega), toNat_cast]
      rfl
    | none =>
      generalize hz : idxI none = z
      rw [Option.bind_some]
      dsimp only
      have hz : z = -1 := hz.symm
      subst hz
      rw [cond_yes (by omega)]
      rfl

/-- reject.Code: the inner loop -/
theorem code_inner (k : Nat) (R2 : (Int × Int × Rst) → Option (List UInt8 × Unit)) (want cnt : Int) (oi : Nat) (ho : oi < 1000) (l : List Vl) (r : Rst) (hl : l.length < 5864062014700) : ∀ (d i n : Nat), l.length = i + d → d < n →
    loopP (fun R5 p => f27_b5 k R2 R5 p) n (want, cnt, (oi : Int), l, (l.length : Int), (i : Int), r) = match getF (l.drop i) want with | some t => some (t, ()) | none => R2 (cnt, ((oi + 1 : Nat) : Int), r) := by
  intro d
  induction d with
  | zero =>
    intro i n hi hn
    obtain ⟨n, rfl⟩ : ∃ m, n = m + 1 := ⟨n - 1, by omega⟩
    rw [loopP_succ]
    dsimp only [f27_b5]
    rw [cond_no (by omega), List.drop_eq_nil_of_le (by omega), wsucc (by omega)]
    rfl
  | succ d ih =>
    intro i n hi hn
    obtain ⟨n, rfl⟩ : ∃ m, n = m + 1 := ⟨n - 1, by omega⟩
    rw [loopP_succ]
    have h : i < l.length := by omega
    have ih := fun x => ih (i + 1) n x
    generalize loopP (fun R5 p => f27_b5 k R2 R5 p) n = L at *
    dsimp only [f27_b5]
    rw [cond_yes (by omega), chk_decide (by omega), chk_decide (by omega), toNat_cast, at_index h, wsucc (by omega), ih (by omega) (by omega), List.drop_eq_getElem_cons h]
    unfold getF
    rw [List.find?_cons]
    cases hb : (l[i].1 == want) <;> rfl

theorem code_ok {k : Nat} {s : Sd} {e : Int} (hl : s.2.2.2.length < 5864062014700) (hk : s.2.2.2.length + 3 < k) : f27 k (s, e, ()) = some (codeF s.2.2.2 e, ()) := by
  obtain ⟨⟨s0, s1, s2⟩, ⟨s3, s4⟩, s5, l⟩ := s
  have hl : l.length < 5864062014700 := hl
  have hk : l.length + 3 < k := hk
  obtain ⟨k', rfl⟩ : ∃ m, k = m + 3 := ⟨k - 3, by omega⟩
  show loopP (fun R2 p => f27_b2 (k' + 3) (f27_l5 (k' + 3) R2) R2 p) (k' + 3) ((2 : Int), ((0 : Nat) : Int), (s0, s1, s2, s3, s4, s5, l, [e, 0])) = some (codeF l e, ())
  have step : ∀ (n i : Nat) (w : Int), i < 2 → [e, 0].getD i 0 = w → loopP (fun R2 p => f27_b2 (k' + 3) (f27_l5 (k' + 3) R2) R2 p) (n + 1) ((2 : Int), (i : Int), (s0, s1, s2, s3, s4, s5, l, [e, 0])) =
      match getF l w with | some t => some (t, ()) | none => loopP (fun R2 p => f27_b2 (k' + 3) (f27_l5 (k' + 3) R2) R2 p) n ((2 : Int), ((i + 1 : Nat) : Int), (s0, s1, s2, s3, s4, s5, l, [e, 0])) := by
    intro n i w hi hw
    rw [loopP_succ]
    generalize loopP (fun R2 p => f27_b2 (k' + 3) (f27_l5 (k' + 3) R2) R2 p) n = L
    dsimp only [f27_b2]
    rw [cond_yes (by omega), chk_decide (by omega), chk_decide (by simp; omega), toNat_cast, chk_decide (by simpa using hi), hw]
    have := code_inner (k' + 3) L w 2 i (by omega) l (s0, s1, s2, s3, s4, s5, l, [e, 0]) hl l.length 0 (k' + 3) (by omega) (by omega)
    exact this
  rw [step (k' + 2) 0 e (by omega) rfl, step (k' + 1) 1 0 (by omega) rfl, loopP_succ]
  unfold codeF
  rw [← firstF_get, ← firstF_get]
  cases getF l e with
  | some t => rfl
  | none =>
    cases getF l 0 with
    | some t => rfl
    | none => rfl

end Go.Ab
