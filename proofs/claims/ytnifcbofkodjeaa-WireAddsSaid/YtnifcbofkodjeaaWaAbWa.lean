import Derived.Test.YtnifcbofkodjeaaWaAbRa
set_option linter.unusedVariables false
namespace Go.Ab

/-! ### Bytes and numbers -/
def toI (b : UInt8) : Int := ((b.toNat : Nat) : Int)
theorem toByte_toI (b : UInt8) : toByte (toI b) = b := by
  show UInt8.ofNat (Int.toNat ((b.toNat : Nat) : Int)) = b
  rw [toNat_cast]
  exact byte_of rfl
theorem back : ∀ l : List UInt8, (l.map toI).map toByte = l
  | [] => rfl
  | b :: l => by rw [List.map_cons, List.map_cons, toByte_toI, back l]

/-! ### Hexadecimal -/
def hxd (n : Nat) : UInt8 := ([48, 49, 50, 51, 52, 53, 54, 55, 56, 57, 65, 66, 67, 68, 69, 70] : List UInt8).getD n 0
def hexF : List UInt8 → List UInt8
  | [] => []
  | b :: s => hxd (b.toNat / 16) :: hxd (b.toNat % 16) :: hexF s
theorem hexF_app : ∀ a b : List UInt8, hexF (a ++ b) = hexF a ++ hexF b
  | [], _ => rfl
  | x :: a, b => by
    show hxd _ :: hxd _ :: hexF (a ++ b) = _
    rw [hexF_app a b]
    rfl
theorem hexF_len : ∀ s : List UInt8, (hexF s).length = 2 * s.length
  | [] => rfl
  | x :: s => by
    show (hexF s).length + 1 + 1 = 2 * (s.length + 1)
    rw [hexF_len s]
    omega
theorem hi_key : ∀ b : Fin 256, Int.fdiv (((UInt8.ofNat b.val).toNat : Nat) : Int) (2 ^ (min (Int.toNat (4 : Int)) (IntKind.bits IntKind.u8))) = (((UInt8.ofNat b.val).toNat / 16 : Nat) : Int) := by decide +kernel
theorem hi_ok (b : UInt8) : Int.fdiv ((b.toNat : Nat) : Int) (2 ^ (min (Int.toNat (4 : Int)) (IntKind.bits IntKind.u8))) = ((b.toNat / 16 : Nat) : Int) :=
  byte_all (p := fun b => Int.fdiv ((b.toNat : Nat) : Int) (2 ^ (min (Int.toNat (4 : Int)) (IntKind.bits IntKind.u8))) = ((b.toNat / 16 : Nat) : Int)) hi_key b
theorem lo_key : ∀ b : Fin 256, bitsN .and .u8 (((UInt8.ofNat b.val).toNat : Nat) : Int) 15 = (((UInt8.ofNat b.val).toNat % 16 : Nat) : Int) := by decide +kernel
theorem lo_ok (b : UInt8) : bitsN .and .u8 ((b.toNat : Nat) : Int) 15 = ((b.toNat % 16 : Nat) : Int) :=
  byte_all (p := fun b => bitsN .and .u8 ((b.toNat : Nat) : Int) 15 = ((b.toNat % 16 : Nat) : Int)) lo_key b

theorem hput_ok {k : Nat} {s : List UInt8} (hl : s.length < 1000000) (hk : s.length < k) : f81 k (s, ()) = some (hexF s, ()) := by
  have key := ix_loop (B := fun R3 p => f81_b3 k R3 p) s.length (fun i : Nat => ((s, ((i : Nat) : Int), (hexF (s.take i)).map toI) : f81_t3)) (fun _ => some (hexF s, ())) (fun i L hi hL => by
    have hlen : ((hexF (s.take i)).map toI).length = 2 * i := by rw [List.length_map, hexF_len, List.length_take]; omega
    dsimp only [f81_b3]
    by_cases hlt : i < s.length
    · have hb := s[i].toNat_lt
      have hL := hL hlt
      rw [List.take_succ_eq_append_getElem hlt, hexF_app, List.map_append] at hL
      rw [cond_yes (by omega), chk_decide (by omega), chk_decide (by omega), toNat_cast i, at_index hlt, hi_ok, lo_ok, chk_decide (by omega), chk_decide (by omega), chk_decide (by omega), chk_decide (by omega), chk_decide (by omega), chk_decide (by omega),
        chk_decide (by rw [hlen, List.length_cons, List.length_singleton]; omega), chk_decide (by rw [hlen, List.length_cons, List.length_singleton]; omega), toNat_cast, toNat_cast, wsucc (by omega)]
      exact hL
    · rw [cond_no (by omega), back, List.take_of_length_le (by omega)]) k 0 (Nat.zero_le _) (by omega)
  show f81_m k (f81_l3 k) _ = _
  dsimp only [f81_m]
  rw [w64 (n := (2 : Int) * _) (by omega) (by omega), chk_decide (by omega), chk_decide (by omega), chk_decide (by omega)]
  exact key

theorem rhput_ok {k : Nat} {s : List UInt8} (hl : s.length < 1000000) (hk : s.length < k) : f117 k (s, ()) = some (hexF s, ()) := by
  have h146 : f146 k () = some (([48, 49, 50, 51, 52, 53, 54, 55, 56, 57, 65, 66, 67, 68, 69, 70] : List UInt8), ()) := rfl
  have key := ix_loop (B := fun R3 p => f117_b3 k R3 p) s.length (fun i : Nat => ((s, ((i : Nat) : Int), (hexF (s.take i)).map toI) : f117_t3)) (fun _ => some (hexF s, ())) (fun i L hi hL => by
    have hlen : ((hexF (s.take i)).map toI).length = 2 * i := by rw [List.length_map, hexF_len, List.length_take]; omega
    dsimp only [f117_b3]
    by_cases hlt : i < s.length
    · have hb := s[i].toNat_lt
      have hL := hL hlt
      rw [List.take_succ_eq_append_getElem hlt, hexF_app, List.map_append] at hL
      have e1 : Int.tdiv ((s[i].toNat : Nat) : Int) 16 = ((s[i].toNat / 16 : Nat) : Int) := by rw [Int.tdiv_eq_ediv_of_nonneg (by omega)]; omega
      have e2 : Int.tmod ((s[i].toNat : Nat) : Int) 16 = ((s[i].toNat % 16 : Nat) : Int) := by rw [Int.tmod_eq_emod_of_nonneg (by omega)]; omega
      have e3 : (([48, 49, 50, 51, 52, 53, 54, 55, 56, 57, 65, 66, 67, 68, 69, 70] : List UInt8)).length = 16 := rfl
      rw [cond_yes (by omega), h146, Option.bind_some]
      dsimp only
      rw [Option.bind_some]
      dsimp only
      rw [chk_decide (by omega), chk_decide (by omega), toNat_cast i, at_index hlt, e1, e2, wu8 (n := ((s[i].toNat / 16 : Nat) : Int)) (by omega) (by omega), e3, chk_decide (by omega), chk_decide (by omega), chk_decide (by omega), chk_decide (by omega), chk_decide (by omega), chk_decide (by omega),
        chk_decide (by rw [hlen, List.length_cons, List.length_singleton]; omega), chk_decide (by rw [hlen, List.length_cons, List.length_singleton]; omega), toNat_cast, toNat_cast, wsucc (by omega)]
      exact hL
    · rw [cond_no (by omega), back, List.take_of_length_le (by omega)]) k 0 (Nat.zero_le _) (by omega)
  exact key

/-! ### Digits of a width -/
def dgs : Nat → Nat → List UInt8
  | 0, _ => []
  | w + 1, n => dgs w (n / 10) ++ [UInt8.ofNat (48 + n % 10)]
theorem dgs_len : ∀ w n, (dgs w n).length = w
  | 0, _ => rfl
  | w + 1, n => by
    show (dgs w (n / 10) ++ [_]).length = _
    rw [List.length_append, dgs_len w]
    rfl
theorem pow_step (n w : Nat) : n / 10 < 10 ^ w ↔ n < 10 ^ (w + 1) := by
  rw [Nat.div_lt_iff_lt_mul (by omega), Nat.pow_succ]

theorem dput_loop (k : Nat) : ∀ (j n fuel : Nat) (out : List Int), j ≤ out.length → out.length ≤ 18 → j < fuel → n < 9223372036854775808 →
    loopP (fun R5 p => f121_b5 k R5 p) fuel ((n : Int), (j : Int) - 1, out) = some (if n < 10 ^ j then (dgs j n ++ (out.drop j).map toByte, true, ()) else ([], false, ())) := by
  intro j
  induction j with
  | zero =>
    intro n fuel out h1 h2 h3 h4
    obtain ⟨fuel, rfl⟩ : ∃ m, fuel = m + 1 := ⟨fuel - 1, by omega⟩
    rw [loopP_succ]
    dsimp only [f121_b5]
    rw [cond_no (by omega)]
    by_cases hn : n = 0
    · rw [cond_no (by omega), if_pos (by rw [hn]; decide)]
      rfl
    · rw [cond_yes (by omega), if_neg (by rw [Nat.pow_zero]; omega)]
  | succ j ih =>
    intro n fuel out h1 h2 h3 h4
    obtain ⟨fuel, rfl⟩ : ∃ m, fuel = m + 1 := ⟨fuel - 1, by omega⟩
    rw [loopP_succ]
    have ih := ih (n / 10) fuel (out.set j (IntKind.u8.wrap (IntKind.i64.wrap ((48 : Int) + (Int.tmod (n : Int) (10 : Int)))))) (by rw [List.length_set]; omega) (by rw [List.length_set]; omega) (by omega) (by omega)
    generalize loopP (fun R5 p => f121_b5 k R5 p) fuel = L at *
    dsimp only [f121_b5]
    have e1 : Int.tdiv (n : Int) 10 = ((n / 10 : Nat) : Int) := by rw [Int.tdiv_eq_ediv_of_nonneg (by omega)]; omega
    have e0 : ((j + 1 : Nat) : Int) - 1 = ((j : Nat) : Int) := by omega
    rw [e0, cond_yes (by omega), chk_decide (by omega), chk_decide (by omega), toNat_cast, chk_decide (by omega), e1, w64 (n := ((n / 10 : Nat) : Int)) (by omega) (by omega), w64 (n := ((j : Nat) : Int) - 1) (by omega) (by omega), ih]
    have e2 : Int.tmod (n : Int) 10 = ((n % 10 : Nat) : Int) := by rw [Int.tmod_eq_emod_of_nonneg (by omega)]; omega
    have e3 : IntKind.u8.wrap (IntKind.i64.wrap ((48 : Int) + (Int.tmod (n : Int) (10 : Int)))) = ((48 + n % 10 : Nat) : Int) := by
      rw [e2, w64 (by omega) (by omega), wu8 (by omega) (by omega)]
      omega
    rw [e3]
    by_cases hn : n / 10 < 10 ^ j
    · rw [if_pos hn, if_pos ((pow_step n j).1 hn)]
      have hj : j < (out.set j ((48 + n % 10 : Nat) : Int)).length := by rw [List.length_set]; omega
      rw [List.drop_eq_getElem_cons hj, List.getElem_set_self, List.drop_set_of_lt (by omega), List.map_cons]
      show some (dgs j (n / 10) ++ (toByte ((48 + n % 10 : Nat) : Int) :: _), true, ()) = some ((dgs j (n / 10) ++ [UInt8.ofNat (48 + n % 10)]) ++ _, true, ())
      rw [List.append_assoc]
      rfl
    · rw [if_neg hn, if_neg (fun h => hn ((pow_step n j).2 h))]

theorem dput_ok {k n w : Nat} (h1 : 1 ≤ w) (h2 : w ≤ 18) (hn : n < 9223372036854775808) (hk : 20 < k) : f121 k ((n : Int), (w : Int), ()) = some (if n < 10 ^ w then (dgs w n, true, ()) else ([], false, ())) := by
  have key := dput_loop k w n k (List.replicate w 0) (by simp) (by simpa using h2) (by omega) hn
  rw [List.drop_eq_nil_of_le (by simp), List.map_nil, List.append_nil] at key
  show f121_m k (f121_l5 k) _ = _
  dsimp only [f121_m]
  rw [cond_no (by omega), cond_no (by omega), cond_no (by omega), chk_decide (by omega), chk_decide (by omega), chk_decide (by omega), chk_decide (by omega), w64 (n := (w : Int) - 1) (by omega) (by omega), toNat_cast]
  exact key

theorem rdput_loop (k W : Nat) (hW : W ≤ 18) : ∀ (j i n fuel : Nat) (s : List UInt8), W = i + j → s.length = i → j < fuel → n < 9223372036854775808 →
    loopP (fun R5 p => f101_b5 k R5 p) fuel ((n : Int), (W : Int), s, (i : Int)) = some (if n < 10 ^ j then (dgs j n ++ s, true, ()) else ([], false, ())) := by
  intro j
  induction j with
  | zero =>
    intro i n fuel s h1 h2 h3 h4
    obtain ⟨fuel, rfl⟩ : ∃ m, fuel = m + 1 := ⟨fuel - 1, by omega⟩
    rw [loopP_succ]
    dsimp only [f101_b5]
    rw [cond_no (by omega)]
    by_cases hn : n = 0
    · rw [neI_false (by omega), cond_false, if_pos (by rw [hn]; decide)]
      rfl
    · rw [neI_true (by omega), cond_true, if_neg (by rw [Nat.pow_zero]; omega)]
  | succ j ih =>
    intro i n fuel s h1 h2 h3 h4
    obtain ⟨fuel, rfl⟩ : ∃ m, fuel = m + 1 := ⟨fuel - 1, by omega⟩
    rw [loopP_succ]
    have ih := ih (i + 1) (n / 10) fuel (List.map toByte [((48 + n % 10 : Nat) : Int)] ++ s) (by omega) (by rw [List.length_append, List.length_map, List.length_singleton]; omega) (by omega) (by omega)
    generalize loopP (fun R5 p => f101_b5 k R5 p) fuel = L at *
    dsimp only [f101_b5]
    have e1 : Int.tdiv (n : Int) 10 = ((n / 10 : Nat) : Int) := by rw [Int.tdiv_eq_ediv_of_nonneg (by omega)]; omega
    have e2 : Int.tmod (n : Int) 10 = ((n % 10 : Nat) : Int) := by rw [Int.tmod_eq_emod_of_nonneg (by omega)]; omega
    have e3 : IntKind.u8.wrap (IntKind.i64.wrap ((48 : Int) + (Int.tmod (n : Int) (10 : Int)))) = ((48 + n % 10 : Nat) : Int) := by
      rw [e2, w64 (by omega) (by omega), wu8 (by omega) (by omega)]
      omega
    rw [cond_yes (by omega), chk_decide (by rw [List.length_map, List.length_singleton]; omega), e3, e1, w64 (n := ((n / 10 : Nat) : Int)) (by omega) (by omega), wsucc (by omega), ih]
    by_cases hn : n / 10 < 10 ^ j
    · rw [if_pos hn, if_pos ((pow_step n j).1 hn)]
      show some (dgs j (n / 10) ++ (toByte ((48 + n % 10 : Nat) : Int) :: s), true, ()) = some ((dgs j (n / 10) ++ [UInt8.ofNat (48 + n % 10)]) ++ s, true, ())
      rw [List.append_assoc]
      rfl
    · rw [if_neg hn, if_neg (fun h => hn ((pow_step n j).2 h))]

theorem rdput_ok {k n w : Nat} (h1 : 1 ≤ w) (h2 : w ≤ 18) (hn : n < 9223372036854775808) (hk : 20 < k) : f101 k ((n : Int), (w : Int), ()) = some (if n < 10 ^ w then (dgs w n, true, ()) else ([], false, ())) := by
  have key := rdput_loop k w h2 w 0 n k [] (by omega) rfl (by omega) hn
  rw [List.append_nil] at key
  show f101_m k (f101_l5 k) _ = _
  dsimp only [f101_m]
  rw [cond_no (by omega), cond_no (by omega), cond_no (by omega)]
  exact key

/-! ### Prefixes -/
def stF (style : Int) (s : List UInt8) : List UInt8 := if style = 2 then (bcdF s).getD [] else s
def preF (style form : Int) (n : Nat) : List UInt8 :=
  if form = 2 then (if n < 10 ^ 2 then stF style (dgs 2 n) else []) else if form = 3 then (if n < 10 ^ 3 then stF style (dgs 3 n) else []) else []

theorem pput_ok {k n : Nat} {style form : Int} (hs : style = 1 ∨ style = 2) (hn : n < 9223372036854775808) (hk : 2000 < k) : ∃ e, f79 k (style, form, (n : Int), ()) = some (preF style form n, e, ()) := by
  have body : ∀ w : Nat, 1 ≤ w → w ≤ 18 → ∃ e, ((f121 k ((n : Int), (w : Int), ())).bind fun r3 => (cond (!r3.2.1) (some (([] : List UInt8), ((5 : Int), ()))) (cond (style == (2 : Int)) ((f66 k (r3.1, ())).bind fun r4 => (some (r4.1, ((0 : Int), ())))) (some (r3.1, ((0 : Int), ())))))) = some (if n < 10 ^ w then stF style (dgs w n) else [], e, ()) := by
    intro w h1 h2
    rw [dput_ok h1 h2 hn (by omega), Option.bind_some]
    by_cases hw : n < 10 ^ w
    · rw [if_pos hw, if_pos hw]
      dsimp only
      rw [Bool.not_true, cond_false]
      unfold stF
      by_cases h : style = 2
      · rw [eqI_true h, cond_true, if_pos h, bput_ok hk (by rw [dgs_len]; omega), Option.bind_some]
        cases bcdF (dgs w n) <;> exact ⟨_, rfl⟩
      · rw [eqI_false h, cond_false, if_neg h]
        exact ⟨_, rfl⟩
    · rw [if_neg hw, if_neg hw]
      exact ⟨_, rfl⟩
  show ∃ e, f79_m k _ = _
  dsimp only [f79_m]
  have h122 : f122 k (form, ()) = some (if form = 2 then 2 else if form = 3 then 3 else 0, ()) := by
    show f122_m k _ = _
    dsimp only [f122_m]
    by_cases h1 : form = 2
    · rw [eqI_true h1, cond_true, if_pos h1]
    · rw [eqI_false h1, cond_false, if_neg h1]
      by_cases h2 : form = 3
      · rw [eqI_true h2, cond_true, if_pos h2]
      · rw [eqI_false h2, cond_false, if_neg h2]
  have h120 : f120 k (style, form, ()) = some (decide ((if form = 2 then 2 else if form = 3 then 3 else 0 : Int) > 0), ()) := by
    show f120_m k _ = _
    dsimp only [f120_m]
    rw [h122, Option.bind_some]
    rcases hs with h | h
    · rw [eqI_true h, cond_true]
    · rw [eqI_false (by omega), cond_false, eqI_true h, cond_true]
  rw [h120, Option.bind_some, h122]
  unfold preF
  by_cases h1 : form = 2
  · rw [if_pos h1, if_pos h1]
    obtain ⟨e, he⟩ := body 2 (by omega) (by omega)
    exact ⟨e, he⟩
  · rw [if_neg h1, if_neg h1]
    by_cases h2 : form = 3
    · rw [if_pos h2, if_pos h2]
      obtain ⟨e, he⟩ := body 3 (by omega) (by omega)
      exact ⟨e, he⟩
    · rw [if_neg h2, if_neg h2]
      exact ⟨_, rfl⟩

theorem rpput_ok {k n : Nat} {style form : Int} (hs : style = 1 ∨ style = 2) (hn : n < 9223372036854775808) (hk : 2000 < k) : ∃ e, f118 k (style, form, (n : Int), ()) = some (preF style form n, e, ()) := by
  have body : ∀ w : Nat, 1 ≤ w → w ≤ 18 → ∃ e, ((f101 k ((n : Int), (w : Int), ())).bind fun r3 => (cond (!r3.2.1) (some (([] : List UInt8), ((5 : Int), ()))) (cond (style == (2 : Int)) ((f68 k (r3.1, ())).bind fun r4 => (some (r4.1, ((0 : Int), ())))) (some (r3.1, ((0 : Int), ())))))) = some (if n < 10 ^ w then stF style (dgs w n) else [], e, ()) := by
    intro w h1 h2
    rw [rdput_ok h1 h2 hn (by omega), Option.bind_some]
    by_cases hw : n < 10 ^ w
    · rw [if_pos hw, if_pos hw]
      dsimp only
      rw [Bool.not_true, cond_false]
      unfold stF
      by_cases h : style = 2
      · rw [eqI_true h, cond_true, if_pos h, rbput_ok hk (by rw [dgs_len]; omega) (by rw [dgs_len]; omega), Option.bind_some]
        cases bcdF (dgs w n) <;> exact ⟨_, rfl⟩
      · rw [eqI_false h, cond_false, if_neg h]
        exact ⟨_, rfl⟩
    · rw [if_neg hw, if_neg hw]
      exact ⟨_, rfl⟩
  have h147 : f147 k (form, ()) = some (if form = 2 then 2 else if form = 3 then 3 else 0, ()) := by
    show f147_m k _ = _
    dsimp only [f147_m]
    by_cases h1 : form = 2
    · rw [eqI_true h1, cond_true, if_pos h1, h1]
    · rw [eqI_false h1, cond_false, if_neg h1]
      by_cases h2 : form = 3
      · rw [eqI_true h2, cond_true, if_pos h2, h2]
      · rw [eqI_false h2, cond_false, if_neg h2]
  have main : ∃ e, ((f147 k (form, ())).bind fun r1 => (cond (r1.1 == (0 : Int)) (some (([] : List UInt8), ((1 : Int), ()))) ((f101 k ((n : Int), (form, ()))).bind fun r2 => (cond (!r2.2.1) (some (([] : List UInt8), ((5 : Int), ()))) (cond (style == (2 : Int)) ((f68 k (r2.1, ())).bind fun r3 => (some (r3.1, ((0 : Int), ())))) (some (r2.1, ((0 : Int), ())))))))) = some (preF style form n, e, ()) := by
    rw [h147, Option.bind_some]
    unfold preF
    by_cases h1 : form = 2
    · subst h1
      rw [if_pos rfl, if_pos rfl]
      obtain ⟨e, he⟩ := body 2 (by omega) (by omega)
      exact ⟨e, he⟩
    · rw [if_neg h1, if_neg h1]
      by_cases h2 : form = 3
      · subst h2
        rw [if_pos rfl, if_pos rfl]
        obtain ⟨e, he⟩ := body 3 (by omega) (by omega)
        exact ⟨e, he⟩
      · rw [if_neg h2, if_neg h2]
        exact ⟨_, rfl⟩
  show ∃ e, f118_m k _ = _
  dsimp only [f118_m]
  rcases hs with h | h
  · rw [neI_false h, cond_false]
    exact main
  · rw [neI_true (by omega), cond_true, neI_false h, cond_false]
    exact main

/-! ### Cells -/
def conF (style cls : Int) (t : List UInt8) : List UInt8 := if style = 2 ∧ cls = 1 then (bcdF t).getD [] else if style = 1 ∧ 5 ≤ cls then hexF t else t
def cellF (style : Int) (f : Spc) (t : List UInt8) : List UInt8 := (if f.2.2.1 = 1 then [] else preF style f.2.2.1 t.length) ++ conF style f.2.1 t

theorem pack2_le : ∀ s : List UInt8, (pack2 s).length ≤ s.length
  | [] => Nat.le_refl _
  | [_] => Nat.zero_le _
  | a :: b :: r => by
    have := pack2_le r
    simp only [pack2, List.length_cons]
    omega
theorem bcd_le (s : List UInt8) : ((bcdF s).getD []).length ≤ s.length + 1 := by
  unfold bcdF
  split
  · exact Nat.zero_le _
  · show ((pack2 (evenD s)).map toByte).length ≤ _
    rw [List.length_map]
    have := pack2_le (evenD s)
    unfold evenD at this ⊢
    split at this
    · rw [List.length_cons] at this
      rename_i h
      rw [if_pos h]
      exact this
    · rename_i h
      rw [if_neg h]
      omega
theorem preF_le (style form : Int) (n : Nat) : (preF style form n).length ≤ 4 := by
  have h : ∀ w m, w ≤ 3 → (stF style (dgs w m)).length ≤ 4 := by
    intro w m hw
    unfold stF
    split
    · have := bcd_le (dgs w m)
      rw [dgs_len] at this
      omega
    · rw [dgs_len]; omega
  unfold preF
  split
  · split
    · exact h 2 n (by omega)
    · simp
  · split
    · split
      · exact h 3 n (by omega)
      · simp
    · simp
theorem conF_le (style cls : Int) (t : List UInt8) : (conF style cls t).length ≤ 2 * t.length + 1 := by
  unfold conF
  split
  · have := bcd_le t
    omega
  · split
    · rw [hexF_len]; omega
    · omega
theorem cellF_le (style : Int) (f : Spc) (t : List UInt8) : (cellF style f t).length ≤ 2 * t.length + 5 := by
  unfold cellF
  have h1 := preF_le style f.2.2.1 t.length
  have h2 := conF_le style f.2.1 t
  rw [List.length_append]
  split
  · simp only [List.length_nil]; omega
  · omega

theorem spec_cls {f : Spc} (h : specE f = 0) : 1 ≤ f.2.1 ∧ f.2.1 ≤ 6 := by
  unfold specE at h
  by_cases h1 : f.1 < 2 ∨ 128 < f.1
  · rw [if_pos h1] at h; omega
  · rw [if_neg h1] at h
    by_cases h2 : ¬ (1 ≤ f.2.1 ∧ f.2.1 ≤ 6)
    · rw [if_pos h2] at h; omega
    · omega

theorem how_ok {k : Nat} {style cls : Int} (hs : style = 1 ∨ style = 2) (hc : 1 ≤ cls ∧ cls ≤ 6) : f80 k (style, cls, ()) = some (if style = 2 ∧ cls = 1 then 1 else if style = 1 ∧ 5 ≤ cls then 2 else 0, ()) := by
  have hc' : cls = 1 ∨ cls = 2 ∨ cls = 3 ∨ cls = 4 ∨ cls = 5 ∨ cls = 6 := by omega
  rcases hs with rfl | rfl <;> rcases hc' with rfl | rfl | rfl | rfl | rfl | rfl <;> rfl

theorem cput_ok {k : Nat} {style : Int} {f : Spc} {t : List UInt8} (hs : style = 1 ∨ style = 2) (hv : valueE f t = 0) (hl : t.length < 100000) (hk : 1000000 < k) : f41 k (style, f, t, ()) = some (cellF style f t, 0, ()) := by
  obtain ⟨no, cls, form, mn, mx⟩ := f
  show f41_m k _ = _
  dsimp only [f41_m]
  have h78 : f78 k (style, ()) = some (true, ()) := by
    rcases hs with rfl | rfl <;> rfl
  have hc := spec_cls (valueE_spec hv)
  dsimp only at hc
  have hb := bcd_le t
  have hpr := preF_le style form t.length
  obtain ⟨e, hp⟩ := pput_ok (k := k) (n := t.length) (form := form) hs (by omega) (by omega)
  rw [h78, Option.bind_some, value_ok (by omega) (by omega), hv, Option.bind_some]
  dsimp only
  rw [Bool.not_true, cond_false, neI_false rfl, cond_false]
  unfold cellF conF
  dsimp only
  by_cases hf : form = 1
  · rw [neI_false hf, cond_false, if_pos hf, how_ok hs hc, Option.bind_some]
    dsimp only
    by_cases h1 : style = 2 ∧ cls = 1
    · rw [if_pos h1, if_pos h1, eqI_true rfl, cond_true, bput_ok (by omega) (by omega), Option.bind_some]
      cases hbb : bcdF t with
      | none =>
        rw [chk_decide (by simp)]
        rfl
      | some u =>
        rw [hbb] at hb
        have hb : u.length ≤ t.length + 1 := hb
        rw [chk_decide (by dsimp only; omega)]
        rfl
    · rw [if_neg h1, if_neg h1]
      by_cases h2 : style = 1 ∧ 5 ≤ cls
      · rw [if_pos h2, if_pos h2, eqI_false (by decide), cond_false, eqI_true rfl, cond_true, hput_ok (by omega) (by omega), Option.bind_some, chk_decide (by rw [hexF_len]; omega)]
      · rw [if_neg h2, if_neg h2, eqI_false (by decide), cond_false, eqI_false (by decide), cond_false, chk_decide (by omega)]
  · rw [neI_true hf, cond_true, if_neg hf, hp, Option.bind_some, how_ok hs hc, Option.bind_some]
    dsimp only
    by_cases h1 : style = 2 ∧ cls = 1
    · rw [if_pos h1, if_pos h1, eqI_true rfl, cond_true, bput_ok (by omega) (by omega), Option.bind_some]
      cases hbb : bcdF t with
      | none =>
        rw [chk_decide (by simp only [List.length_nil]; omega)]
        rfl
      | some u =>
        rw [hbb] at hb
        have hb : u.length ≤ t.length + 1 := hb
        rw [chk_decide (by dsimp only; omega)]
        rfl
    · rw [if_neg h1, if_neg h1]
      by_cases h2 : style = 1 ∧ 5 ≤ cls
      · rw [if_pos h2, if_pos h2, eqI_false (by decide), cond_false, eqI_true rfl, cond_true, hput_ok (by omega) (by omega), Option.bind_some, chk_decide (by rw [hexF_len]; omega)]
      · rw [if_neg h2, if_neg h2, eqI_false (by decide), cond_false, eqI_false (by decide), cond_false, chk_decide (by omega)]

theorem rcon_ok {k : Nat} {style cls : Int} {t : List UInt8} (hs : style = 1 ∨ style = 2) (hl : t.length < 100000) (hk : 1000000 < k) : f119 k (style, cls, t, ()) = some (conF style cls t, ()) := by
  show f119_m k _ = _
  dsimp only [f119_m]
  unfold conF
  rcases hs with rfl | rfl
  · rw [eqI_false (by decide), cond_false, eqI_true rfl, cond_true, if_neg (by omega)]
    by_cases h : 5 ≤ cls
    · rw [cond_yes h, rhput_ok (by omega) (by omega), Option.bind_some, if_pos ⟨rfl, h⟩]
    · rw [cond_no h, if_neg (by omega)]
  · rw [eqI_true rfl, cond_true]
    by_cases h : cls = 1
    · rw [eqI_true h, cond_true, if_pos ⟨rfl, h⟩, rbput_ok (by omega) (by omega) (by omega), Option.bind_some]
      cases bcdF t <;> rfl
    · rw [eqI_false h, cond_false, eqI_false (by decide), cond_false, if_neg (by omega), if_neg (by omega)]

theorem rcput_ok {k : Nat} {style : Int} {f : Spc} {t : List UInt8} (hs : style = 1 ∨ style = 2) (hv : valueE f t = 0) (hl : t.length < 100000) (hk : 1000000 < k) : f75 k (style, f, t, ()) = some (cellF style f t, 0, ()) := by
  obtain ⟨no, cls, form, mn, mx⟩ := f
  have hpr := preF_le style form t.length
  have hcn := conF_le style cls t
  obtain ⟨e, hp⟩ := rpput_ok (k := k) (n := t.length) (form := form) hs (by omega) (by omega)
  show f75_m k _ = _
  dsimp only [f75_m]
  rw [rvalue_ok (by omega) (by omega), hv, hp, rcon_ok hs hl hk, Option.bind_some, Option.bind_some, Option.bind_some]
  dsimp only
  rw [neI_false (show (0 : Int) = 0 from rfl), cond_false, chk_decide (by omega), Option.bind_some]
  dsimp only
  rw [chk_decide (by omega)]
  unfold cellF
  dsimp only
  have main : (cond (form != (1 : Int)) (some ((preF style form t.length ++ conF style cls t), ((0 : Int), ()))) (some ((([] : List UInt8) ++ conF style cls t), ((0 : Int), ())))) = some ((if form = 1 then [] else preF style form t.length) ++ conF style cls t, (0 : Int), ()) := by
    by_cases hf : form = 1
    · rw [neI_false hf, cond_false, if_pos hf]
    · rw [neI_true hf, cond_true, if_neg hf]
  rcases hs with rfl | rfl
  · rw [neI_false (show (1 : Int) = 1 from rfl), cond_false]
    exact main
  · rw [neI_true (by decide), cond_true, neI_false (show (2 : Int) = 2 from rfl), cond_false]
    exact main

end Go.Ab
