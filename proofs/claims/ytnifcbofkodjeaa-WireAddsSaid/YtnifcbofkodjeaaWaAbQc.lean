import Derived.Test.YtnifcbofkodjeaaWaAbQb
set_option linter.unusedVariables false
namespace Go.Ab

theorem eqI_false {a b : Int} (h : a ≠ b) : (a == b) = false := beq_eq_false_iff_ne.2 h
theorem eqI_true {a b : Int} (h : a = b) : (a == b) = true := beq_iff_eq.2 h
theorem neI_true {a b : Int} (h : a ≠ b) : (a != b) = true := by simp [h]
theorem neI_false {a b : Int} (h : a = b) : (a != b) = false := by simp [h]

theorem rber_ok {k : Nat} {b : List UInt8} {i : Nat} (hl : b.length < 1000000000) (h : i ≤ b.length) : ∃ t nx e : Int, f138 k (b, (i : Int), ()) = some (t, nx, e, ()) ∧ PosOK (berP (b.drop i)) i t nx e := by
  show ∃ t nx e : Int, f138_m k (b, (i : Int), ()) = _ ∧ _
  dsimp only [f138_m]
  rw [cond_no (by omega), cond_no (by omega)]
  by_cases h0 : i < b.length
  · have hb := b[i].toNat_lt
    rw [eqI_false (by omega), cond_false, chk_decide (by omega), chk_decide (by omega), toNat_cast, at_index h0, wbyte, drop_at h0]
    simp only [berP]
    by_cases h1 : b[i].toNat < 128
    · rw [cond_yes (by omega), wsucc (by omega)]
      exact ⟨_, _, _, rfl, by simp [PosOK, h1]⟩
    · rw [cond_no (by omega)]
      by_cases h2 : b[i].toNat = 129
      · rw [neI_false (by omega), cond_false, wsub (by omega) (by omega), w64 (n := _ - 127) (by omega) (by omega)]
        by_cases h3 : i + 1 < b.length
        · rw [cond_no (by omega), eqI_true (by omega), cond_true, wsucc (by omega), chk_decide (by omega), chk_decide (by omega), toNat_cast, at_index h3, drop_at h3]
          by_cases h4 : b[i + 1].toNat < 128
          · rw [cond_yes (by omega)]
            exact ⟨_, _, _, rfl, by simp [PosOK, h2, h4]⟩
          · rw [cond_no (by omega), chk_decide (by omega), chk_decide (by omega), wbyte, w64 (by omega) (by omega)]
            exact ⟨_, _, _, rfl, by simp [PosOK, h2, h4]⟩
        · rw [cond_yes (by omega), List.drop_eq_nil_of_le (by omega)]
          exact ⟨_, _, _, rfl, by simp [PosOK, h2]⟩
      · rw [neI_true (by omega), cond_true]
        by_cases h3 : b[i].toNat = 130
        · rw [neI_false (by omega), cond_false, wsub (by omega) (by omega), w64 (n := _ - 127) (by omega) (by omega)]
          by_cases h4 : i + 2 < b.length
          · have hc := b[i + 1].toNat_lt
            have hd := b[i + 2].toNat_lt
            rw [cond_no (by omega), eqI_false (by omega), cond_false, wsucc (by omega), chk_decide (by omega), chk_decide (by omega), toNat_cast, at_index (by omega), drop_at (by omega), drop_at (i := i + 1 + 1) (by omega)]
            by_cases h5 : b[i + 1].toNat = 0
            · rw [eqI_true (by omega), cond_true]
              exact ⟨_, _, _, rfl, by simp [PosOK, h3, h5]⟩
            · rw [eqI_false (by omega), cond_false, chk_decide (by omega), chk_decide (by omega), w64 (n := (i : Int) + 2) (by omega) (by omega), chk_decide (by omega), chk_decide (by omega), wbyte, show ((i : Int) + 2).toNat = i + 2 by omega, at_index h4, wbyte,
                w64 (n := 256 * _) (by omega) (by omega), w64 (by omega) (by omega), w64 (by omega) (by omega)]
              refine ⟨_, _, _, rfl, ?_⟩
              simp [PosOK, h3, h5]
          · rw [cond_yes (by omega)]
            refine ⟨_, _, _, rfl, ?_⟩
            have : (b.drop (i + 1)).length ≤ 1 := by rw [List.length_drop]; omega
            match hm : b.drop (i + 1), this with
            | [], _ => simp [PosOK, h3]
            | [x], _ => simp [PosOK, h3]
        · rw [neI_true (by omega), cond_true]
          exact ⟨_, _, _, rfl, by simp [PosOK, h1, h2, h3]⟩
  · rw [eqI_true (by omega), cond_true, List.drop_eq_nil_of_le (by omega)]
    exact ⟨_, _, _, rfl, by simp [PosOK, berP]⟩

theorem or256 (c : Nat) {d : Nat} (hd : d < 256) : c * 256 ||| d = 256 * c + d := by
  have := Nat.shiftLeft_add_eq_or_of_lt (i := 8) (show d < 2 ^ 8 from hd) c
  rw [Nat.shiftLeft_eq] at this
  rw [show c * 256 = c * 2 ^ 8 from rfl, ← this]
  omega

theorem shl8 {c d : Nat} (hc : c < 65536) (hd : d < 256) : bitsN .or .i64 (IntKind.i64.wrap ((c : Int) * 2 ^ (min (Int.toNat (8 : Int)) (IntKind.bits IntKind.i64)))) (d : Int) = ((256 * c + d : Nat) : Int) := by
  rw [show ((c : Int) * 2 ^ (min (Int.toNat (8 : Int)) (IntKind.bits IntKind.i64))) = ((c * 256 : Nat) : Int) from by rw [show (2 : Int) ^ (min (Int.toNat (8 : Int)) (IntKind.bits IntKind.i64)) = 256 from rfl]; omega, w64 (by omega) (by omega), bits_or (by omega) (by omega), or256 c hd]

/-- ber.Size -/
theorem size_ok (k n : Nat) (h : n ≤ 65535) : f154 k ((n : Int), ()) = some (if n < 128 then 1 else if n < 256 then 2 else 3, ()) := by
  show f154_m k ((n : Int), ()) = _
  dsimp only [f154_m]
  rw [cond_no (by omega), cond_no (by omega)]
  by_cases h1 : n < 128
  · rw [cond_no (by omega), cond_no (by omega), if_pos h1]
  · by_cases h2 : n < 256
    · rw [cond_no (by omega), cond_yes (by omega), if_neg h1, if_pos h2]
    · rw [cond_yes (by omega), if_neg h1, if_neg h2]

theorem ber_ok {k : Nat} {b : List UInt8} {i : Nat} (hl : b.length < 1000000000) (h : i ≤ b.length) (hk : 10 < k) : ∃ t nx e : Int, f143 k (b, (i : Int), ()) = some (t, nx, e, ()) ∧ PosOK (berP (b.drop i)) i t nx e := by
  show ∃ t nx e : Int, f143_m k (loopP (fun R14 p => f143_b14 k R14 p) k) (b, (i : Int), ()) = _ ∧ _
  obtain ⟨k', hk'⟩ : ∃ k', k = k' + 4 := ⟨k - 4, by omega⟩
  have fin : ∀ (n : Nat) (t m q : Int) (j : Nat), j < b.length + 1 → n ≤ 65535 → t = (n : Int) → q = m → ∀ L, f143_b14 k L (b, (j : Int), t, m, m, q) = if (if n < 128 then (1 : Int) else if n < 256 then 2 else 3) = IntKind.i64.wrap (m + 1) then some (t, IntKind.i64.wrap ((j : Int) + m), 0, ()) else some (0, 0, 14, ()) := by
    intro n t m q j hj hn ht hq L
    subst ht hq
    dsimp only [f143_b14]
    rw [cond_no (by omega), size_ok k n hn, Option.bind_some]
    dsimp only
    by_cases e : (if n < 128 then (1 : Int) else if n < 256 then 2 else 3) = IntKind.i64.wrap (q + 1)
    · rw [if_pos e, neI_false e, cond_false]
    · rw [if_neg e, neI_true e, cond_true]
  have rnd : ∀ (n j : Nat) (t m q : Int) (s : Nat), t = (n : Int) → n < 256 → j + s < b.length → q = (s : Int) → q < m → ∀ L, f143_b14 k L (b, (j : Int), t, m, m, q) = L (b, (j : Int), ((256 * n + (b.getD (j + s) 0).toNat : Nat) : Int), m, m, ((s + 1 : Nat) : Int)) := by
    intro n j t m q s ht hn hj hq hm L
    subst hq ht
    have hb := (b.getD (j + s) 0).toNat_lt
    dsimp only [f143_b14]
    rw [cond_yes (by omega), wadd (by omega), chk_decide (by omega), chk_decide (by omega), toNat_cast, wbyte, shl8 (by omega) (by omega), wsucc (by omega)]
  dsimp only [f143_m]
  rw [cond_no (by omega), cond_no (by omega)]
  by_cases h0 : i < b.length
  · have hb := b[i].toNat_lt
    rw [eqI_false (by omega), cond_false, chk_decide (by omega), chk_decide (by omega), toNat_cast, at_index h0, wbyte, drop_at h0, wsucc (by omega), wsub (by omega) (by omega)]
    simp only [berP]
    by_cases h1 : b[i].toNat < 128
    · rw [cond_no (by omega), cond_no (by omega)]
      rw [hk', loopP_succ, ← hk', fin b[i].toNat _ 0 _ (i + 1) (by omega) (by omega) rfl rfl, if_pos h1, if_pos (by rw [w64 (by omega) (by omega)]; rfl), Int.add_zero, w64 (by omega) (by omega)]
      exact ⟨_, _, _, rfl, by simp [PosOK, h1]⟩
    · rw [cond_yes (by omega)]
      by_cases h2 : b[i].toNat = 128
      · rw [eqI_true (by omega), cond_true]
        exact ⟨_, _, _, rfl, by simp [PosOK, h2]⟩
      · rw [eqI_false (by omega), cond_false]
        by_cases h3 : b[i].toNat > 130
        · rw [cond_yes (by omega)]
          exact ⟨_, _, _, rfl, by simp [PosOK, h1, show ¬ b[i].toNat = 129 by omega, show ¬ b[i].toNat = 130 by omega]⟩
        · rw [cond_no (by omega), w64 (n := _ - 128) (by omega) (by omega)]
          by_cases h4 : b[i].toNat = 129
          · rw [show ((b[i].toNat : Nat) : Int) - 128 = 1 by omega]
            by_cases h5 : i + 1 < b.length
            · have hc := b[i + 1].toNat_lt
              have g0 : (b.getD (i + 1 + 0) 0).toNat = b[i + 1].toNat := congrArg UInt8.toNat (at_index h5 0)
              rw [cond_no (by omega), hk', loopP_succ, ← hk', rnd 0 (i + 1) 0 1 0 0 rfl (by omega) (by omega) rfl (by omega), loopP_succ, fin (b[i + 1].toNat) _ 1 _ (i + 1) (by omega) (by omega) (by omega) (by omega), g0, drop_at h5,
                w64 (n := 1 + 1) (by omega) (by omega)]
              by_cases h6 : b[i + 1].toNat < 128
              · rw [if_pos h6, if_neg (by omega)]
                exact ⟨_, _, _, rfl, by simp [PosOK, h4, h6]⟩
              · rw [if_neg h6, if_pos (show b[i + 1].toNat < 256 by omega), if_pos (by omega), w64 (by omega) (by omega)]
                refine ⟨_, _, _, rfl, ?_⟩
                simp [PosOK, h4, h6]
                omega
            · rw [cond_yes (by omega), List.drop_eq_nil_of_le (by omega)]
              exact ⟨_, _, _, rfl, by simp [PosOK, h4]⟩
          · have h4' : b[i].toNat = 130 := by omega
            rw [show ((b[i].toNat : Nat) : Int) - 128 = 2 by omega]
            by_cases h5 : i + 2 < b.length
            · have hc := b[i + 1].toNat_lt
              have hd := b[i + 2].toNat_lt
              have g0 : (b.getD (i + 1 + 0) 0).toNat = b[i + 1].toNat := congrArg UInt8.toNat (at_index (show i + 1 < b.length by omega) 0)
              have g1 : (b.getD (i + 1 + 1) 0).toNat = b[i + 2].toNat := congrArg UInt8.toNat (at_index h5 0)
              rw [cond_no (by omega), hk', loopP_succ, ← hk', rnd 0 (i + 1) 0 2 0 0 rfl (by omega) (by omega) rfl (by omega), g0, loopP_succ,
                rnd (256 * 0 + b[i + 1].toNat) (i + 1) _ 2 _ 1 rfl (by omega) (by omega) rfl (by omega), g1, loopP_succ, fin (256 * b[i + 1].toNat + b[i + 2].toNat) _ 2 _ (i + 1) (by omega) (by omega) (by omega) (by omega),
                drop_at (show i + 1 < b.length by omega), drop_at (i := i + 1 + 1) (by omega), w64 (n := 2 + 1) (by omega) (by omega)]
              by_cases h6 : b[i + 1].toNat = 0
              · rw [if_neg (by split <;> omega)]
                exact ⟨_, _, _, rfl, by simp [PosOK, h4', h6]⟩
              · rw [if_neg (show ¬ (256 * b[i + 1].toNat + b[i + 2].toNat < 128) by omega), if_neg (show ¬ (256 * b[i + 1].toNat + b[i + 2].toNat < 256) by omega), if_pos (by omega), w64 (by omega) (by omega)]
                refine ⟨_, _, _, rfl, ?_⟩
                simp [PosOK, h4', h6]
                omega
            · rw [cond_yes (by omega)]
              refine ⟨_, _, _, rfl, ?_⟩
              have : (b.drop (i + 1)).length ≤ 1 := by rw [List.length_drop]; omega
              match hm : b.drop (i + 1), this with
              | [], _ => simp [PosOK, h4']
              | [x], _ => simp [PosOK, h4']
  · rw [eqI_true (by omega), cond_true, List.drop_eq_nil_of_le (by omega)]
    exact ⟨_, _, _, rfl, by simp [PosOK, berP]⟩

end Go.Ab
