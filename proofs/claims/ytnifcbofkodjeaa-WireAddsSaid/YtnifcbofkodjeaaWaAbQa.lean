import Derived.Test.YtnifcbofkodjeaaWaAbPu10
set_option linter.unusedVariables false
namespace Go.Ab

/-! ### Loops -/
theorem loop_wf {α R : Type} (B : (α → Option R) → α → Option R) (m : α → Nat) (Q : α → Option R → Prop) (step : ∀ s L, (∀ s', m s' < m s → Q s' (L s')) → Q s (B L s)) : ∀ n s, m s < n → Q s (loopP B n s)
  | 0, s, h => absurd h (Nat.not_lt_zero _)
  | n + 1, s, h => by
    rw [loopP_succ]
    exact step s _ fun s' hs' => loop_wf B m Q step n s' (by omega)

/-- A loop over places, whose state goes by the place alone. -/
theorem ix_loop {α R : Type} {B : (α → Option R) → α → Option R} (len : Nat) (st : Nat → α) (res : Nat → Option R) (step : ∀ i L, i ≤ len → (i < len → L (st (i + 1)) = res (i + 1)) → B L (st i) = res i) : ∀ n i, i ≤ len → len - i < n → loopP B n (st i) = res i
  | 0, i, _, h => absurd h (Nat.not_lt_zero _)
  | n + 1, i, hi, h => by
    rw [loopP_succ]
    exact step i _ hi fun hlt => ix_loop len st res step n (i + 1) (by omega) (by omega)

theorem wadd {n m : Nat} (h : n + m ≤ 9223372036854775807) : IntKind.i64.wrap (((n : Nat) : Int) + ((m : Nat) : Int)) = ((n + m : Nat) : Int) := by
  rw [w64 (by omega) (by omega)]; omega
theorem wsub {n m : Nat} (h : m ≤ n) (h' : n ≤ 9223372036854775807) : IntKind.i64.wrap (((n : Nat) : Int) - ((m : Nat) : Int)) = ((n - m : Nat) : Int) := by
  rw [w64 (by omega) (by omega)]; omega
theorem wbyte (b : UInt8) : IntKind.i64.wrap ((b.toNat : Nat) : Int) = ((b.toNat : Nat) : Int) := by
  have := b.toNat_lt
  rw [w64 (by omega) (by omega)]

theorem bits_and {x y : Nat} (hx : x < 9223372036854775808) (hy : y < 9223372036854775808) : bitsN .and .i64 (x : Int) (y : Int) = ((x &&& y : Nat) : Int) := by
  have h1 : x &&& y < 9223372036854775808 := Nat.lt_of_le_of_lt Nat.and_le_left hx
  show IntKind.i64.wrap (BitVec.ofInt 64 (x : Int) &&& BitVec.ofInt 64 (y : Int)).toNat = _
  rw [BitVec.ofInt_natCast, BitVec.ofInt_natCast, BitVec.toNat_and, BitVec.toNat_ofNat, BitVec.toNat_ofNat, Nat.mod_eq_of_lt (by omega), Nat.mod_eq_of_lt (by omega), w64 (by omega) (by omega)]
theorem bits_or {x y : Nat} (hx : x < 9223372036854775808) (hy : y < 9223372036854775808) : bitsN .or .i64 (x : Int) (y : Int) = ((x ||| y : Nat) : Int) := by
  have h1 : x ||| y < 2 ^ 63 := Nat.or_lt_two_pow hx hy
  show IntKind.i64.wrap (BitVec.ofInt 64 (x : Int) ||| BitVec.ofInt 64 (y : Int)).toNat = _
  rw [BitVec.ofInt_natCast, BitVec.ofInt_natCast, BitVec.toNat_or, BitVec.toNat_ofNat, BitVec.toNat_ofNat, Nat.mod_eq_of_lt (by omega), Nat.mod_eq_of_lt (by omega), w64 (by omega) (by omega)]

/-! ### Classes -/
def isDig (b : UInt8) : Bool := decide (48 ≤ b.toNat) && decide (b.toNat ≤ 57)
def isLet (b : UInt8) : Bool := decide (65 ≤ b.toNat) && decide (b.toNat ≤ 90) || decide (97 ≤ b.toNat) && decide (b.toNat ≤ 122)
def clsIs (c : Int) (b : UInt8) : Bool :=
  if c = 1 then isDig b else if c = 2 then isLet b else if c = 3 then isDig b || isLet b else if c = 4 then decide (32 ≤ b.toNat) && decide (b.toNat ≤ 126) else true

theorem byte_all {p : UInt8 → Prop} (h : ∀ n : Fin 256, p (UInt8.ofNat n.val)) (b : UInt8) : p b := by
  have := h ⟨b.toNat, b.toNat_lt⟩
  simpa using this

theorem is_key : ∀ c : Fin 6, ∀ b : Fin 256, f136_m 0 (((c.val + 1 : Nat) : Int), (((UInt8.ofNat b.val).toNat : Nat) : Int), ()) = some (clsIs ((c.val + 1 : Nat) : Int) (UInt8.ofNat b.val), ()) := by decide +kernel
theorem cls_of {c : Int} (h : 1 ≤ c ∧ c ≤ 6) : ∃ d : Fin 6, c = ((d.val + 1 : Nat) : Int) := ⟨⟨c.toNat - 1, by omega⟩, by show c = ((c.toNat - 1 + 1 : Nat) : Int); omega⟩
theorem is_ok {k : Nat} {c : Int} (h : 1 ≤ c ∧ c ≤ 6) (b : UInt8) : f136 k (c, ((b.toNat : Nat) : Int), ()) = some (clsIs c b, ()) := by
  obtain ⟨d, rfl⟩ := cls_of h
  exact byte_all (p := fun b => f136 k (((d.val + 1 : Nat) : Int), ((b.toNat : Nat) : Int), ()) = some (clsIs ((d.val + 1 : Nat) : Int) b, ())) (fun n => is_key d n) b

theorem has_key : ∀ c : Fin 6, ∀ b : Fin 256, ((f140_m 0 (((c.val + 1 : Nat) : Int), ())).bind fun s => (f141_m 0 ((((UInt8.ofNat b.val).toNat : Nat) : Int), ())).bind fun o => some (bitsN .and .i64 s.1 o.1 == 0)) = some (!clsIs ((c.val + 1 : Nat) : Int) (UInt8.ofNat b.val)) := by decide +kernel
theorem has_ok {k : Nat} {c : Int} (h : 1 ≤ c ∧ c ≤ 6) : ∃ s : Int, f140 k (c, ()) = some (s, ()) ∧ s ≠ 0 ∧ ∀ b : UInt8, ∃ o : Int, f141 k (((b.toNat : Nat) : Int), ()) = some (o, ()) ∧ (bitsN .and .i64 s o == 0) = !clsIs c b := by
  obtain ⟨d, rfl⟩ := cls_of h
  have h0 : ∀ d : Fin 6, ∃ s : Fin 16, f140_m 0 (((d.val + 1 : Nat) : Int), ()) = some ((s.val : Int), ()) ∧ s.val ≠ 0 := by decide +kernel
  obtain ⟨s, h1, h2⟩ := h0 d
  refine ⟨s.val, h1, by omega, fun b => ?_⟩
  have h3 : ∀ b : Fin 256, ∃ o : Fin 16, f141_m 0 ((((UInt8.ofNat b.val).toNat : Nat) : Int), ()) = some ((o.val : Int), ()) := by decide +kernel
  refine byte_all (p := fun b => ∃ o : Int, f141 k (((b.toNat : Nat) : Int), ()) = some (o, ()) ∧ (bitsN .and .i64 s.val o == 0) = !clsIs ((d.val + 1 : Nat) : Int) b) (fun n => ?_) b
  obtain ⟨o, h4⟩ := h3 n
  refine ⟨o.val, h4, ?_⟩
  have h5 := has_key d n
  rw [h1, Option.bind_some, h4, Option.bind_some] at h5
  exact Option.some.inj h5
theorem known_ok {k : Nat} {c : Int} : f129 k (c, ()) = some (decide (1 ≤ c ∧ c ≤ 6), ()) := by
  show (f140 k (c, ())).bind (fun r1 => some (r1.1 != (0 : Int), ())) = _
  by_cases h : 1 ≤ c ∧ c ≤ 6
  · obtain ⟨s, h1, h2, _⟩ := has_ok (k := k) h
    rw [h1, decide_eq_true h]
    simp [h2]
  · have h1 : f140 k (c, ()) = some (0, ()) := by
      show f140_m k (c, ()) = _
      unfold f140_m
      have e : ∀ n : Int, (1 ≤ n ∧ n ≤ 6) → (c == n) = false := fun n hn => by
        rw [beq_eq_false_iff_ne]
        intro e
        subst e
        exact h hn
      dsimp only
      rw [e 1 (by omega), e 2 (by omega), e 3 (by omega), e 4 (by omega), e 5 (by omega), e 6 (by omega)]
      rfl
    rw [h1, decide_eq_false h]
    rfl

/-- The first byte that is none of a class. -/
def clsAll (c : Int) (l : List UInt8) : Bool := l.all (clsIs c)

theorem rfirst_ok {k : Nat} {c : Int} (h : 1 ≤ c ∧ c ≤ 6) {l : List UInt8} (hl : l.length < 1000000000) (hk : l.length < k) : ∃ r : Int, f106 k (c, l, ()) = some (r, ()) ∧ decide (r ≥ 0) = !clsAll c l := by
  have key := ix_loop (B := fun R2 p => f106_b2 k R2 p) l.length (fun i : Nat => ((c, l, ((i : Nat) : Int)) : f106_t2)) (fun i => some ((match (l.drop i).findIdx? (fun b => !clsIs c b) with | some j => ((i + j : Nat) : Int) | none => -1), ())) (fun i L hi hL => by
    dsimp only [f106_b2]
    by_cases hlt : i < l.length
    · rw [cond_yes (by omega), chk_decide (by omega), chk_decide (by omega), toNat_cast, at_index hlt, is_ok h, Option.bind_some, List.drop_eq_getElem_cons hlt, List.findIdx?_cons]
      cases hb : clsIs c l[i] with
      | false => simp
      | true =>
        simp only [Bool.not_true, cond_false, Bool.false_eq_true, if_false]
        rw [wsucc (by omega), hL hlt]
        cases List.findIdx? (fun b => !clsIs c b) (List.drop (i + 1) l) with
        | none => rfl
        | some j => simp; omega
    · rw [cond_no (by omega), List.drop_eq_nil_of_le (by omega)]
      rfl) k 0 (Nat.zero_le _) (by omega)
  refine ⟨_, key, ?_⟩
  rw [List.drop_zero]
  unfold clsAll
  cases hf : l.findIdx? (fun b => !clsIs c b) with
  | none =>
    rw [List.findIdx?_eq_none_iff] at hf
    have : l.all (clsIs c) = true := List.all_eq_true.2 fun b hb => by simpa using hf b hb
    rw [this]
    rfl
  | some j =>
    have hj := hf
    rw [List.findIdx?_eq_some_iff_getElem] at hj
    obtain ⟨h1, h2, _⟩ := hj
    have : l.all (clsIs c) = false := by
      cases ha : l.all (clsIs c) with
      | false => rfl
      | true =>
        have := List.all_eq_true.1 ha l[j] (List.getElem_mem h1)
        rw [this] at h2
        cases h2
    rw [this]
    simp

theorem first_ok {k : Nat} {c : Int} (h : 1 ≤ c ∧ c ≤ 6) {l : List UInt8} (hl : l.length < 1000000000) (hk : l.length < k) : ∃ r : Int, f109 k (c, l, ()) = some (r, ()) ∧ decide (r ≥ 0) = !clsAll c l := by
  obtain ⟨s, h1, _, h2⟩ := has_ok (k := k) h
  have key := ix_loop (B := fun R3 p => f109_b3 k R3 p) l.length (fun i : Nat => ((l, s, ((i : Nat) : Int)) : f109_t3)) (fun i => some ((match (l.drop i).findIdx? (fun b => !clsIs c b) with | some j => ((i + j : Nat) : Int) | none => -1), ())) (fun i L hi hL => by
    dsimp only [f109_b3]
    by_cases hlt : i < l.length
    · obtain ⟨o, h3, h4⟩ := h2 l[i]
      rw [cond_yes (by omega), chk_decide (by omega), chk_decide (by omega), toNat_cast, at_index hlt, h3, Option.bind_some, List.drop_eq_getElem_cons hlt, List.findIdx?_cons]
      dsimp only
      rw [h4]
      cases hb : clsIs c l[i] with
      | false => simp
      | true =>
        simp only [Bool.not_true, cond_false, Bool.false_eq_true, if_false]
        rw [wsucc (by omega), hL hlt]
        cases List.findIdx? (fun b => !clsIs c b) (List.drop (i + 1) l) with
        | none => rfl
        | some j => simp; omega
    · rw [cond_no (by omega), List.drop_eq_nil_of_le (by omega)]
      rfl) k 0 (Nat.zero_le _) (by omega)
  refine ⟨(match (l.drop 0).findIdx? (fun b => !clsIs c b) with | some j => ((0 + j : Nat) : Int) | none => -1), ?_, ?_⟩
  · show f109_m k (f109_l3 k) (c, l, ()) = _
    dsimp only [f109_m]
    rw [h1, Option.bind_some]
    exact key
  rw [List.drop_zero]
  unfold clsAll
  cases hf : l.findIdx? (fun b => !clsIs c b) with
  | none =>
    rw [List.findIdx?_eq_none_iff] at hf
    have : l.all (clsIs c) = true := List.all_eq_true.2 fun b hb => by simpa using hf b hb
    rw [this]
    rfl
  | some j =>
    have hj := hf
    rw [List.findIdx?_eq_some_iff_getElem] at hj
    obtain ⟨h1, h2, _⟩ := hj
    have : l.all (clsIs c) = false := by
      cases ha : l.all (clsIs c) with
      | false => rfl
      | true =>
        have := List.all_eq_true.1 ha l[j] (List.getElem_mem h1)
        rw [this] at h2
        cases h2
    rw [this]
    simp

end Go.Ab
