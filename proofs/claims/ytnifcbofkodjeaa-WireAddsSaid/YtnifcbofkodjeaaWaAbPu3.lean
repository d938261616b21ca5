import Derived.Test.YtnifcbofkodjeaaWaAbPu2
set_option linter.unusedVariables false
namespace Go.Ab

theorem get_byte (l : List UInt8) (i : Nat) (h : i < l.length) : (ByteArray.get! ⟨l.toArray⟩ i) = l[i] := by
  show (l.toArray)[i]! = l[i]
  rw [getElem!_pos l.toArray i (by simpa using h)]
  simp

theorem dec_low {l : List UInt8} {i : Nat} (h : i < l.length) (hb : l[i].toNat < 128) : decodeAt l i = (l[i].toNat, 1) := by
  unfold decodeAt Utf8.decode
  simp only [Nat.add_zero, get_byte l i h]
  rw [if_pos (by omega)]

theorem dec_high {l : List UInt8} {i : Nat} (h : i < l.length) (hb : 128 ≤ l[i].toNat) : 57 < (decodeAt l i).1 := by
  unfold decodeAt Utf8.decode
  simp only [Nat.add_zero, get_byte l i h]
  rw [if_neg (by omega)]
  split
  · split <;> simp_all [Utf8.runeError] <;> omega
  · split
    · split
      · simp_all; omega
      · simp [Utf8.runeError]
    · split
      · split
        · simp_all; omega
        · simp [Utf8.runeError]
      · simp [Utf8.runeError]

def dig (b : UInt8) : Bool := decide (48 ≤ b.toNat) && decide (b.toNat ≤ 57)

theorem all_loop (k : Nat) (l : List UInt8) : ∀ (d i n : Nat), l.length = i + d → d < n → loopP (fun R p => f108_b2 k R p) n (l, i) = some ((l.drop i).all dig, ()) := by
  intro d
  induction d with
  | zero =>
    intro i n hi hn
    obtain ⟨n, rfl⟩ : ∃ m, n = m + 1 := ⟨n - 1, by omega⟩
    rw [loopP_succ]
    dsimp only [f108_b2]
    rw [cond_no (by omega), List.drop_eq_nil_of_le (by omega)]
    rfl
  | succ d ih =>
    intro i n hi hn
    obtain ⟨n, rfl⟩ : ∃ m, n = m + 1 := ⟨n - 1, by omega⟩
    rw [loopP_succ]
    have h : i < l.length := by omega
    have ih := fun x => ih (i + 1) n x
    generalize loopP (fun R p => f108_b2 k R p) n = L at *
    dsimp only [f108_b2]
    rw [cond_yes h, List.drop_eq_getElem_cons h, List.all_cons]
    by_cases hb : l[i].toNat < 128
    · rw [dec_low h hb]
      dsimp only
      by_cases h1 : 48 ≤ l[i].toNat
      · rw [cond_no (by omega)]
        by_cases h2 : l[i].toNat ≤ 57
        · rw [cond_no (by omega), ih (by omega) (by omega)]
          simp [dig, h1, h2]
        · rw [cond_yes (by omega)]
          simp [dig, h2]
      · rw [cond_yes (by omega)]
        simp [dig, h1]
    · have hh := dec_high h (by omega)
      rw [cond_no (by omega), cond_yes (by omega)]
      have h2 : ¬ l[i].toNat ≤ 57 := by omega
      simp [dig, h2]

theorem all_ok {k : Nat} {s : List UInt8} (hk : s.length < k) : f108 k (s, ()) = some (s.all dig, ()) := by
  have := all_loop k s s.length 0 k (by omega) hk
  exact this

/-- mti.Right -/
theorem right_ok {k : Nat} {s : List UInt8} (hk : s.length < k) : f62 k (s, ()) = some ((((s.length : Nat) : Int) == 4) && s.all dig, ()) := by
  show f62_m k (s, ()) = _
  dsimp only [f62_m]
  rw [all_ok hk, Option.bind_some]
  cases (((s.length : Nat) : Int) == 4) <;> rfl

end Go.Ab
