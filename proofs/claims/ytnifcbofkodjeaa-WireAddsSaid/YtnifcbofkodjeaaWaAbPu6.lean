import Derived.Test.YtnifcbofkodjeaaWaAbPu5
set_option linter.unusedVariables false
namespace Go.Ab

theorem put_step (k : Nat) (N : Int) (s : List UInt8) (i n : Nat) (h : i < 4) (hs : s.length < 1000) (h0 : 0 ≤ N) (h1 : N < 1000000) :
    loopP (fun R p => f101_b5 k R p) (n + 1) (N, 4, s, (i : Int)) = loopP (fun R p => f101_b5 k R p) n (N / 10, 4, UInt8.ofNat (48 + (N % 10).toNat) :: s, ((i + 1 : Nat) : Int)) := by
  rw [loopP_succ]
  generalize loopP (fun R p => f101_b5 k R p) n = L at *
  dsimp only [f101_b5]
  rw [cond_yes (by omega), chk_decide (by simp; omega), wsucc (by omega), Int.tdiv_eq_ediv_of_nonneg h0, Int.tmod_eq_emod_of_nonneg h0, w64 (n := N / 10) (by omega) (by omega), w64 (n := 48 + N % 10) (by omega) (by omega), wu8 (by omega) (by omega)]
  have : List.map toByte [48 + N % 10] ++ s = UInt8.ofNat (48 + (N % 10).toNat) :: s := by
    simp only [List.map_cons, List.map_nil, List.cons_append, List.nil_append, toByte]
    rw [show (48 + N % 10).toNat = 48 + (N % 10).toNat by omega]
  rw [this]

theorem put_end (k : Nat) (s : List UInt8) (n : Nat) : loopP (fun R p => f101_b5 k R p) (n + 1) (0, 4, s, ((4 : Nat) : Int)) = some (s, true, ()) := by
  rw [loopP_succ]
  generalize loopP (fun R p => f101_b5 k R p) n = L at *
  dsimp only [f101_b5]
  rw [cond_no (by omega)]
  rfl

theorem byte_of {b : UInt8} {n : Nat} (h : n = b.toNat) : UInt8.ofNat n = b := by
  subst h
  simp

theorem rput_four {k : Nat} {a b c d : UInt8} (hk : 4 < k) (ha : dig a = true) (hb : dig b = true) (hc : dig c = true) (hd : dig d = true) (hcc : c.toNat = 48 ∨ c.toNat = 50) : f101 k (num4 a b c d + 10, 4, ()) = some (respF [a, b, c, d], true, ()) := by
  show f101_m k (f101_l5 k) (num4 a b c d + 10, 4, ()) = _
  have h1 := dig_bounds ha
  have h2 := dig_bounds hb
  have h3 := dig_bounds hc
  have h4 := dig_bounds hd
  dsimp only [f101_m]
  rw [cond_no (by unfold num4; omega), cond_no (by omega), cond_no (by omega)]
  obtain ⟨k', rfl⟩ : ∃ m, k = m + 5 := ⟨k - 5, by omega⟩
  show loopP (fun R p => f101_b5 (k' + 5) R p) (k' + 5) (num4 a b c d + 10, 4, [], ((0 : Nat) : Int)) = _
  generalize hN : num4 a b c d + 10 = N
  unfold num4 at hN
  have b0 : 0 ≤ N ∧ N < 10000 := by omega
  rw [put_step _ N _ 0 (k' + 4) (by omega) (by simp) (by omega) (by omega), put_step _ (N / 10) _ 1 (k' + 3) (by omega) (by simp) (by omega) (by omega),
    put_step _ (N / 10 / 10) _ 2 (k' + 2) (by omega) (by simp) (by omega) (by omega), put_step _ (N / 10 / 10 / 10) _ 3 (k' + 1) (by omega) (by simp) (by omega) (by omega)]
  have z : N / 10 / 10 / 10 / 10 = 0 := by omega
  rw [z, put_end]
  have e1 : UInt8.ofNat (48 + (N % 10).toNat) = d := byte_of (by omega)
  have e2 : 48 + (N / 10 % 10).toNat = c.toNat + 1 := by omega
  have e3 : UInt8.ofNat (48 + (N / 10 / 10 % 10).toNat) = b := byte_of (by omega)
  have e4 : UInt8.ofNat (48 + (N / 10 / 10 / 10 % 10).toNat) = a := byte_of (by omega)
  rw [e1, e2, e3, e4]
  rfl

/-- groatref15.Response -/
theorem rresponse_ok {k : Nat} {s : List UInt8} (hl : s.length < 1000000) (hk : s.length + 4 < k) (h : reqB s = true) : f54 k (s, ()) = some (respF s, ()) := by
  show f54_m k (s, ()) = _
  dsimp only [f54_m]
  obtain ⟨a, b, c, d, rfl, ha, hb, hc, hd, hcc⟩ := req_four h
  have h1 := dig_bounds ha
  have h2 := dig_bounds hb
  have h3 := dig_bounds hc
  have h4 := dig_bounds hd
  rw [num_four (by omega) ha hb hc hd, Option.bind_some]
  dsimp only
  rw [w64 (by unfold num4; omega) (by unfold num4; omega), rput_four (by omega) ha hb hc hd hcc, Option.bind_some]

end Go.Ab
