import Derived.Test.YtnifcbofkodjeaaWaAbPu4
set_option linter.unusedVariables false
namespace Go.Ab

theorem digit_ok (k : Nat) (b : UInt8) : f111 k (((b.toNat : Nat) : Int), ()) = some (dig b, ()) := by
  show f111_m k (((b.toNat : Nat) : Int), ()) = _
  dsimp only [f111_m]
  unfold dig
  by_cases h : 48 ≤ b.toNat
  · rw [cond_yes (by omega), decide_eq_true h, Bool.true_and]
    by_cases h2 : b.toNat ≤ 57
    · rw [decide_eq_true h2, decide_eq_true (by omega)]
    · rw [decide_eq_false h2, decide_eq_false (by omega)]
  · rw [cond_no (by omega), decide_eq_false h]
    rfl

theorem rall_loop (k : Nat) (l : List UInt8) (hl : l.length < 1000000) : ∀ (d i n : Nat), l.length = i + d → d < n → loopP (fun R p => f67_b2 k R p) n (l, (i : Int)) = some ((l.drop i).all dig, ()) := by
  intro d
  induction d with
  | zero =>
    intro i n hi hn
    obtain ⟨n, rfl⟩ : ∃ m, n = m + 1 := ⟨n - 1, by omega⟩
    rw [loopP_succ]
    dsimp only [f67_b2]
    rw [cond_no (by omega), List.drop_eq_nil_of_le (by omega)]
    rfl
  | succ d ih =>
    intro i n hi hn
    obtain ⟨n, rfl⟩ : ∃ m, n = m + 1 := ⟨n - 1, by omega⟩
    rw [loopP_succ]
    have h : i < l.length := by omega
    have ih := fun x => ih (i + 1) n x
    generalize loopP (fun R p => f67_b2 k R p) n = L at *
    dsimp only [f67_b2]
    rw [cond_yes (by omega), chk_decide (by omega), chk_decide (by omega), toNat_cast, at_index h, digit_ok, Option.bind_some]
    dsimp only
    rw [wsucc (by omega), ih (by omega) (by omega), List.drop_eq_getElem_cons h, List.all_cons]
    cases dig l[i] <;> rfl

theorem rall_ok {k : Nat} {s : List UInt8} (hl : s.length < 1000000) (hk : s.length < k) : f67 k (s, ()) = some (s.all dig, ()) := by
  have := rall_loop k s hl s.length 0 k (by omega) hk
  exact this

theorem get_step (k : Nat) (l : List UInt8) (hl : l.length < 1000000) (acc : Int) (i n : Nat) (h : i < l.length) :
    loopP (fun R p => f100_b5 k R p) (n + 1) (l, acc, (i : Int)) = loopP (fun R p => f100_b5 k R p) n (l, IntKind.i64.wrap (IntKind.i64.wrap (IntKind.i64.wrap (10 * acc) + IntKind.i64.wrap ((l[i].toNat : Nat) : Int)) - 48), ((i + 1 : Nat) : Int)) := by
  rw [loopP_succ]
  generalize loopP (fun R p => f100_b5 k R p) n = L at *
  dsimp only [f100_b5]
  rw [cond_yes (by omega), chk_decide (by omega), chk_decide (by omega), toNat_cast, at_index h, wsucc (by omega)]

theorem get_end (k : Nat) (l : List UInt8) (acc : Int) (n : Nat) : loopP (fun R p => f100_b5 k R p) (n + 1) (l, acc, (l.length : Int)) = some (acc, true, ()) := by
  rw [loopP_succ]
  generalize loopP (fun R p => f100_b5 k R p) n = L at *
  dsimp only [f100_b5]
  rw [cond_no (by omega)]

theorem get_some (k : Nat) (l : List UInt8) (hl : l.length < 1000000) : ∀ (d i n : Nat) (acc : Int), l.length = i + d → d < n → ∃ v, loopP (fun R p => f100_b5 k R p) n (l, acc, (i : Int)) = some (v, true, ()) := by
  intro d
  induction d with
  | zero =>
    intro i n acc hi hn
    obtain ⟨n, rfl⟩ : ∃ m, n = m + 1 := ⟨n - 1, by omega⟩
    obtain rfl : i = l.length := by omega
    exact ⟨acc, get_end k l acc n⟩
  | succ d ih =>
    intro i n acc hi hn
    obtain ⟨n, rfl⟩ : ∃ m, n = m + 1 := ⟨n - 1, by omega⟩
    rw [get_step k l hl acc i n (by omega)]
    exact ih (i + 1) n _ (by omega) (by omega)

theorem num_some {k : Nat} {s : List UInt8} (hl : s.length < 1000000) (hk : s.length < k) : ∃ v, f100 k (s, ()) = some (v, decide (1 ≤ s.length) && decide (s.length ≤ 18) && s.all dig, ()) := by
  show ∃ v, f100_m k (f100_l5 k) (s, ()) = _
  dsimp only [f100_m]
  by_cases h1 : 1 ≤ s.length
  · rw [cond_no (by omega)]
    by_cases h2 : s.length ≤ 18
    · rw [cond_no (by omega), rall_ok hl hk, Option.bind_some]
      dsimp only
      cases h3 : s.all dig with
      | false => exact ⟨0, by simp⟩
      | true =>
        obtain ⟨v, hv⟩ := get_some k s hl s.length 0 k 0 (by omega) hk
        refine ⟨v, ?_⟩
        have hv : f100_l5 k (s, 0, 0) = _ := hv
        simp [h1, h2, hv]
    · rw [cond_yes (by omega)]
      exact ⟨0, by simp [h2]⟩
  · rw [cond_yes (by omega)]
    exact ⟨0, by simp [h1]⟩

theorem dig_bounds {b : UInt8} (h : dig b = true) : 48 ≤ b.toNat ∧ b.toNat ≤ 57 := by
  unfold dig at h
  rw [Bool.and_eq_true] at h
  exact ⟨of_decide_eq_true h.1, of_decide_eq_true h.2⟩

def num4 (a b c d : UInt8) : Int := 1000 * (a.toNat - 48 : Int) + 100 * (b.toNat - 48 : Int) + 10 * (c.toNat - 48 : Int) + (d.toNat - 48 : Int)

theorem num_four {k : Nat} {a b c d : UInt8} (hk : 4 < k) (ha : dig a = true) (hb : dig b = true) (hc : dig c = true) (hd : dig d = true) : f100 k ([a, b, c, d], ()) = some (num4 a b c d, true, ()) := by
  show f100_m k (f100_l5 k) ([a, b, c, d], ()) = _
  dsimp only [f100_m]
  rw [cond_no (by simp), cond_no (by simp), rall_ok (by simp) (by simpa using hk), Option.bind_some]
  have hall : [a, b, c, d].all dig = true := by simp [ha, hb, hc, hd]
  dsimp only
  rw [hall, Bool.not_true, cond_false]
  obtain ⟨k', rfl⟩ : ∃ m, k = m + 5 := ⟨k - 5, by omega⟩
  show loopP (fun R p => f100_b5 (k' + 5) R p) (k' + 5) ([a, b, c, d], 0, ((0 : Nat) : Int)) = _
  have h1 := dig_bounds ha
  have h2 := dig_bounds hb
  have h3 := dig_bounds hc
  have h4 := dig_bounds hd
  rw [get_step _ _ (by simp) _ 0 (k' + 4) (by simp), get_step _ _ (by simp) _ 1 (k' + 3) (by simp), get_step _ _ (by simp) _ 2 (k' + 2) (by simp), get_step _ _ (by simp) _ 3 (k' + 1) (by simp)]
  have := get_end (k' + 5) [a, b, c, d] (num4 a b c d) k'
  have e : ∀ (x : Int) (b : UInt8), 0 ≤ x → x ≤ 100000 → 48 ≤ b.toNat → b.toNat ≤ 57 → IntKind.i64.wrap (IntKind.i64.wrap (IntKind.i64.wrap (10 * x) + IntKind.i64.wrap ((b.toNat : Nat) : Int)) - 48) = 10 * x + (b.toNat - 48 : Int) := by
    intro x b h0 h1 h2 h3
    rw [w64 (n := 10 * x) (by omega) (by omega), w64 (n := ((b.toNat : Nat) : Int)) (by omega) (by omega), w64 (n := 10 * x + ((b.toNat : Nat) : Int)) (by omega) (by omega), w64 (by omega) (by omega)]
    omega
  simp only [List.getElem_cons_zero, List.getElem_cons_succ]
  rw [e 0 a (by omega) (by omega) h1.1 h1.2, e _ b (by omega) (by omega) h2.1 h2.2, e _ c (by omega) (by omega) h3.1 h3.2, e _ d (by omega) (by omega) h4.1 h4.2]
  rw [← this]
  congr 2
  unfold num4
  congr 1
  omega

/-- groatref15.Request -/
theorem rrequest_ok {k : Nat} {s : List UInt8} (hl : s.length < 1000000) (hk : s.length + 4 < k) : f53 k (s, ()) = some (reqB s, ()) := by
  show f53_m k (s, ()) = _
  dsimp only [f53_m]
  by_cases h4 : ((s.length : Nat) : Int) = 4
  · obtain ⟨a, b, c, d, rfl⟩ := four h4
    cases hall : [a, b, c, d].all dig with
    | false =>
      obtain ⟨v, hv⟩ := num_some (k := k) hl (by omega)
      rw [hv, Option.bind_some, hall]
      simp [reqB, hall]
    | true =>
      have hh := hall
      simp only [List.all_cons, List.all_nil, Bool.and_true, Bool.and_eq_true] at hh
      obtain ⟨ha, hb, hc, hd⟩ := hh
      rw [num_four (by omega) ha hb hc hd, Option.bind_some]
      dsimp only
      have h1 := dig_bounds ha
      have h2 := dig_bounds hb
      have h3 := dig_bounds hc
      have h5 := dig_bounds hd
      have e1 : IntKind.i64.wrap (Int.tdiv (num4 a b c d) 10) = (num4 a b c d) / 10 := by
        rw [Int.tdiv_eq_ediv_of_nonneg (by unfold num4; omega), w64 (by unfold num4; omega) (by unfold num4; omega)]
      have e2 : Int.tmod ((num4 a b c d) / 10) 10 = (c.toNat : Int) - 48 := by
        rw [Int.tmod_eq_emod_of_nonneg (by unfold num4; omega)]
        unfold num4
        omega
      rw [e1, e2, show (((([a, b, c, d] : List UInt8).length : Nat) : Int) == (4 : Int)) = true from by simp, cond_true, cond_true]
      have er : reqB [a, b, c, d] = (((c.toNat : Nat) : Int) == 48 || ((c.toNat : Nat) : Int) == 50) := by
        unfold reqB
        rw [hall]
        rfl
      rw [er]
      have q1 : (((c.toNat : Nat) : Int) - 48 == 0) = (((c.toNat : Nat) : Int) == 48) := by
        by_cases h : c.toNat = 48
        · simp [h]
        · rw [beq_eq_false_iff_ne.2 (by omega), beq_eq_false_iff_ne.2 (by omega)]
      have q2 : (((c.toNat : Nat) : Int) - 48 == 2) = (((c.toNat : Nat) : Int) == 50) := by
        by_cases h : c.toNat = 50
        · simp [h]
        · rw [beq_eq_false_iff_ne.2 (by omega), beq_eq_false_iff_ne.2 (by omega)]
      rw [q1, q2]
      cases (((c.toNat : Nat) : Int) == 48) <;> rfl
  · obtain ⟨v, hv⟩ := num_some (k := k) hl (by omega)
    rw [hv, Option.bind_some]
    have hb : (((s.length : Nat) : Int) == 4) = false := beq_eq_false_iff_ne.2 h4
    have hr : reqB s = false := by unfold reqB; rw [hb]; rfl
    dsimp only
    rw [hb, hr]
    cases (decide (1 ≤ s.length) && decide (s.length ≤ 18) && s.all dig) <;> rfl

end Go.Ab
