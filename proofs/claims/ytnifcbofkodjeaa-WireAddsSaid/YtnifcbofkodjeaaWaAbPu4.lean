import Derived.Test.YtnifcbofkodjeaaWaAbPu3
set_option linter.unusedVariables false
namespace Go.Ab

def reqB (s : List UInt8) : Bool := ((((s.length : Nat) : Int) == 4) && s.all dig) && ((((s.getD 2 0).toNat : Nat) : Int) == 48 || (((s.getD 2 0).toNat : Nat) : Int) == 50)

theorem request_ok {k : Nat} {s : List UInt8} (hk : s.length < k) : f30 k (s, ()) = some (reqB s, ()) := by
  show f30_m k (s, ()) = _
  dsimp only [f30_m]
  rw [right_ok hk, Option.bind_some]
  dsimp only
  unfold reqB
  cases h : ((((s.length : Nat) : Int) == 4) && s.all dig) with
  | false => rfl
  | true =>
    have hl : ((s.length : Nat) : Int) = 4 := by
      rw [Bool.and_eq_true] at h
      simpa using h.1
    rw [cond_true, chk_decide (by omega), chk_decide (by omega)]
    cases ((((s.getD 2 0).toNat : Nat) : Int) == 48) <;> rfl

theorem four {s : List UInt8} (h : ((s.length : Nat) : Int) = 4) : ∃ a b c d, s = [a, b, c, d] := by
  have h : s.length = 4 := by omega
  match s, h with
  | [a, b, c, d], _ => exact ⟨a, b, c, d, rfl⟩

theorem req_four {s : List UInt8} (h : reqB s = true) : ∃ a b c d, s = [a, b, c, d] ∧ dig a = true ∧ dig b = true ∧ dig c = true ∧ dig d = true ∧ (c.toNat = 48 ∨ c.toNat = 50) := by
  unfold reqB at h
  rw [Bool.and_eq_true, Bool.and_eq_true] at h
  obtain ⟨a, b, c, d, rfl⟩ := four (s := s) (by simpa using h.1.1)
  have h2 := h.1.2
  simp only [List.all_cons, List.all_nil, Bool.and_true, Bool.and_eq_true] at h2
  refine ⟨a, b, c, d, rfl, h2.1, h2.2.1, h2.2.2.1, h2.2.2.2, ?_⟩
  have h3 := h.2
  rw [Bool.or_eq_true] at h3
  rcases h3 with h3 | h3
  · left
    have : ((c.toNat : Nat) : Int) = 48 := by simpa using h3
    omega
  · right
    have : ((c.toNat : Nat) : Int) = 50 := by simpa using h3
    omega

def respF (s : List UInt8) : List UInt8 := s.take 2 ++ [UInt8.ofNat ((s.getD 2 0).toNat + 1)] ++ s.drop 3

theorem wu8 {n : Int} (h : 0 ≤ n) (h' : n ≤ 255) : IntKind.u8.wrap n = n := by
  unfold IntKind.wrap
  simp only [IntKind.signed, IntKind.bits]
  first | omega | (simp; omega) | skip

theorem response_ok {k : Nat} {s : List UInt8} (hk : s.length < k) : f51 k (s, ()) = some (if reqB s = true then (respF s, true, ()) else ([], false, ())) := by
  show f51_m k (s, ()) = _
  dsimp only [f51_m]
  rw [request_ok hk, Option.bind_some]
  dsimp only
  cases h : reqB s with
  | false => rfl
  | true =>
    obtain ⟨a, b, c, d, rfl, _, _, _, _, hc⟩ := req_four h
    have hcb : IntKind.u8.wrap (((c.toNat : Nat) : Int) + 1) = ((c.toNat + 1 : Nat) : Int) := by
      rw [wu8 (by omega) (by omega)]
      omega
    simp only [Bool.not_true, cond_false, if_true]
    dsimp only [List.getD, List.getElem?_cons_succ, List.getElem?_cons_zero, Option.getD_some]
    simp [respF, toByte, hcb, chk]

end Go.Ab
