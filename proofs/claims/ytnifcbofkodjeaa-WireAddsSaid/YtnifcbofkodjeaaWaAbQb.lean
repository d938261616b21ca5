import Derived.Test.YtnifcbofkodjeaaWaAbQa
set_option linter.unusedVariables false
namespace Go.Ab

/-! ### Tags -/
def tagF (b : UInt8) : Int := if b = 0 then 0 else if b.toNat / 32 % 2 = 1 then 0 else if b.toNat % 32 = 31 then 2 else 1
/-- A tag: its number, how many bytes. -/
def tagP : List UInt8 → Option (Nat × Nat)
  | [] => none
  | b :: r => if tagF b = 0 then none else if tagF b = 1 then some (b.toNat, 1) else match r with
    | [] => none
    | c :: _ => if c = 0 ∨ 127 < c.toNat then none else some (256 * b.toNat + c.toNat, 2)
def berP : List UInt8 → Option (Nat × Nat)
  | [] => none
  | b :: r => if b.toNat < 128 then some (b.toNat, 1) else if b.toNat = 129 then (match r with
    | [] => none
    | c :: _ => if c.toNat < 128 then none else some (c.toNat, 2))
    else if b.toNat = 130 then (match r with
    | c :: d :: _ => if c.toNat = 0 then none else some (256 * c.toNat + d.toNat, 3)
    | _ => none) else none

theorem tagF_key : ∀ b : Fin 256, f151_m 0 ((((UInt8.ofNat b.val).toNat : Nat) : Int), ()) = some (tagF (UInt8.ofNat b.val), ()) ∧ f152_m 0 ((((UInt8.ofNat b.val).toNat : Nat) : Int), ()) = some (!(tagF (UInt8.ofNat b.val) == 0), ()) ∧
    (tagF (UInt8.ofNat b.val) ≠ 0 → (bitsN .and .i64 (((UInt8.ofNat b.val).toNat : Nat) : Int) 31 != 31) = (tagF (UInt8.ofNat b.val) == 1)) ∧ (tagF (UInt8.ofNat b.val) = 0 ∨ tagF (UInt8.ofNat b.val) = 1 ∨ tagF (UInt8.ofNat b.val) = 2) := by decide +kernel
theorem tagF_ok (k : Nat) (b : UInt8) : f151 k (((b.toNat : Nat) : Int), ()) = some (tagF b, ()) ∧ f152 k (((b.toNat : Nat) : Int), ()) = some (!(tagF b == 0), ()) ∧
    (tagF b ≠ 0 → (bitsN .and .i64 ((b.toNat : Nat) : Int) 31 != 31) = (tagF b == 1)) ∧ (tagF b = 0 ∨ tagF b = 1 ∨ tagF b = 2) :=
  byte_all (p := fun b => f151_m 0 (((b.toNat : Nat) : Int), ()) = some (tagF b, ()) ∧ f152_m 0 (((b.toNat : Nat) : Int), ()) = some (!(tagF b == 0), ()) ∧
    (tagF b ≠ 0 → (bitsN .and .i64 ((b.toNat : Nat) : Int) 31 != 31) = (tagF b == 1)) ∧ (tagF b = 0 ∨ tagF b = 1 ∨ tagF b = 2)) tagF_key b

theorem tag2_key : ∀ b : Fin 256, tagF (UInt8.ofNat b.val) = 2 → ∀ c : Fin 256,
    (bitsN .or .i64 (IntKind.i64.wrap ((((UInt8.ofNat b.val).toNat : Nat) : Int) * 2 ^ (min (Int.toNat (8 : Int)) (IntKind.bits IntKind.i64)))) (((UInt8.ofNat c.val).toNat : Nat) : Int)) = ((256 * (UInt8.ofNat b.val).toNat + (UInt8.ofNat c.val).toNat : Nat) : Int) ∧
    f153 0 (((256 * (UInt8.ofNat b.val).toNat + (UInt8.ofNat c.val).toNat : Nat) : Int), ()) = some (!(decide ((UInt8.ofNat c.val) = 0 ∨ 127 < (UInt8.ofNat c.val).toNat)), ()) := by decide +kernel
theorem tag2_ok (k : Nat) {b : UInt8} (h : tagF b = 2) (c : UInt8) :
    (bitsN .or .i64 (IntKind.i64.wrap (((b.toNat : Nat) : Int) * 2 ^ (min (Int.toNat (8 : Int)) (IntKind.bits IntKind.i64)))) ((c.toNat : Nat) : Int)) = ((256 * b.toNat + c.toNat : Nat) : Int) ∧
    f153 k (((256 * b.toNat + c.toNat : Nat) : Int), ()) = some (!(decide (c = 0 ∨ 127 < c.toNat)), ()) := by
  have h1 := byte_all (p := fun b => tagF b = 2 → ∀ c : Fin 256, (bitsN .or .i64 (IntKind.i64.wrap (((b.toNat : Nat) : Int) * 2 ^ (min (Int.toNat (8 : Int)) (IntKind.bits IntKind.i64)))) (((UInt8.ofNat c.val).toNat : Nat) : Int)) = ((256 * b.toNat + (UInt8.ofNat c.val).toNat : Nat) : Int) ∧
    f153 0 (((256 * b.toNat + (UInt8.ofNat c.val).toNat : Nat) : Int), ()) = some (!(decide ((UInt8.ofNat c.val) = 0 ∨ 127 < (UInt8.ofNat c.val).toNat)), ())) (fun n => tag2_key n) b h
  exact byte_all (p := fun c => (bitsN .or .i64 (IntKind.i64.wrap (((b.toNat : Nat) : Int) * 2 ^ (min (Int.toNat (8 : Int)) (IntKind.bits IntKind.i64)))) ((c.toNat : Nat) : Int)) = ((256 * b.toNat + c.toNat : Nat) : Int) ∧
    f153 0 (((256 * b.toNat + c.toNat : Nat) : Int), ()) = some (!(decide (c = 0 ∨ 127 < c.toNat)), ())) (fun n => h1 n) c

/-- What 'Get' of tags and of lengths says. -/
def PosOK (o : Option (Nat × Nat)) (at_ : Nat) (t nx e : Int) : Prop := match o with
  | some p => t = ((p.1 : Nat) : Int) ∧ nx = ((at_ + p.2 : Nat) : Int) ∧ e = 0
  | none => e ≠ 0

theorem drop_at {b : List UInt8} {i : Nat} (h : i < b.length) : b.drop i = b[i] :: b.drop (i + 1) := List.drop_eq_getElem_cons h

theorem rtag_ok {k : Nat} {b : List UInt8} {i : Nat} (hl : b.length < 1000000000) (h : i < b.length) : ∃ t nx e : Int, f137 k (b, (i : Int), ()) = some (t, nx, e, ()) ∧ PosOK (tagP (b.drop i)) i t nx e := by
  obtain ⟨t1, _, _, t4⟩ := tagF_ok k b[i]
  show ∃ t nx e : Int, f137_m k (b, (i : Int), ()) = _ ∧ _
  dsimp only [f137_m]
  rw [cond_no (by omega), cond_no (by omega), show (((i : Nat) : Int) == ((b.length : Nat) : Int)) = false from by rw [beq_eq_false_iff_ne]; omega, cond_false, chk_decide (by omega), chk_decide (by omega), toNat_cast, at_index h, t1, Option.bind_some, drop_at h]
  dsimp only
  simp only [tagP]
  rcases t4 with t4 | t4 | t4
  · rw [t4]
    exact ⟨_, _, _, rfl, by simp [PosOK]⟩
  · rw [t4]
    simp only [show ((1 : Int) == 0) = false from rfl, show ((1 : Int) == 1) = true from rfl, cond_true, cond_false]
    rw [chk_decide (by omega), chk_decide (by omega), wbyte, wsucc (by omega)]
    exact ⟨_, _, _, rfl, by simp [PosOK]⟩
  · rw [t4]
    simp only [show ((2 : Int) == 0) = false from rfl, show ((2 : Int) == 1) = false from rfl, cond_false]
    rw [wsub (by omega) (by omega)]
    by_cases h1 : i + 1 < b.length
    · rw [cond_no (by omega), wsucc (by omega), chk_decide (by omega), chk_decide (by omega), toNat_cast, at_index h1, drop_at h1]
      by_cases hc : b[i + 1].toNat = 0
      · have hc' : b[i + 1] = 0 := UInt8.toNat_inj.1 hc
        rw [show ((b[i + 1].toNat : Int) == 0) = true from by rw [beq_iff_eq]; omega, cond_true]
        exact ⟨_, _, _, rfl, by simp [PosOK, hc']⟩
      · have hc' : b[i + 1] ≠ 0 := fun e => hc (by rw [e]; rfl)
        rw [show ((b[i + 1].toNat : Int) == 0) = false from by rw [beq_eq_false_iff_ne]; omega, cond_false, chk_decide (by omega), chk_decide (by omega)]
        by_cases hd : 127 < b[i + 1].toNat
        · rw [cond_yes (by omega)]
          exact ⟨_, _, _, rfl, by simp [PosOK, hd]⟩
        · have := b[i].toNat_lt
          have := b[i + 1].toNat_lt
          rw [cond_no (by omega), chk_decide (by omega), chk_decide (by omega), chk_decide (by omega), chk_decide (by omega)]
          refine ⟨_, _, _, rfl, ?_⟩
          simp only [hc', hd, or_self, if_false, PosOK, show ((2 : Int) = 0) = False from by simp, show ((2 : Int) = 1) = False from by simp]
          rw [wbyte, wbyte, w64 (n := 256 * _) (by omega) (by omega), w64 (by omega) (by omega), w64 (by omega) (by omega)]
          exact ⟨by omega, by omega, trivial⟩
    · rw [cond_yes (by omega), List.drop_eq_nil_of_le (by omega)]
      exact ⟨_, _, _, rfl, by simp [PosOK]⟩

theorem tag_ok {k : Nat} {b : List UInt8} {i : Nat} (hl : b.length < 1000000000) (h : i < b.length) : ∃ t nx e : Int, f142 k (b, (i : Int), ()) = some (t, nx, e, ()) ∧ PosOK (tagP (b.drop i)) i t nx e := by
  obtain ⟨_, t1, t2, t4⟩ := tagF_ok k b[i]
  show ∃ t nx e : Int, f142_m k (b, (i : Int), ()) = _ ∧ _
  dsimp only [f142_m]
  rw [cond_no (by omega), cond_no (by omega), show (((i : Nat) : Int) == ((b.length : Nat) : Int)) = false from by rw [beq_eq_false_iff_ne]; omega, cond_false, chk_decide (by omega), chk_decide (by omega), toNat_cast, at_index h, wbyte, t1, Option.bind_some, drop_at h]
  dsimp only
  simp only [tagP]
  rcases t4 with t4 | t4 | t4
  · rw [t4]
    exact ⟨_, _, _, rfl, by simp [PosOK]⟩
  · rw [t2 (by rw [t4]; decide), t4]
    simp only [show (!(!((1 : Int) == 0))) = false from rfl, show ((1 : Int) == 1) = true from rfl, cond_true, cond_false]
    rw [wsucc (by omega)]
    exact ⟨_, _, _, rfl, by simp [PosOK]⟩
  · rw [t2 (by rw [t4]; decide), t4]
    simp only [show (!(!((2 : Int) == 0))) = false from rfl, show ((2 : Int) == 1) = false from rfl, cond_false]
    rw [wsucc (by omega)]
    by_cases h1 : i + 1 < b.length
    · rw [show (((i + 1 : Nat) : Int) == ((b.length : Nat) : Int)) = false from by rw [beq_eq_false_iff_ne]; omega, cond_false, chk_decide (by omega), chk_decide (by omega), toNat_cast, at_index h1, drop_at h1, wbyte]
      obtain ⟨e1, e2⟩ := tag2_ok k t4 b[i + 1]
      rw [e1, e2, Option.bind_some]
      dsimp only
      by_cases hc : b[i + 1] = 0 ∨ 127 < b[i + 1].toNat
      · rw [decide_eq_true hc]
        exact ⟨_, _, _, rfl, by simp [PosOK, hc]⟩
      · rw [decide_eq_false hc, w64 (by omega) (by omega)]
        refine ⟨_, _, _, rfl, ?_⟩
        simp only [hc, if_false, PosOK, show ((2 : Int) = 0) = False from by simp, show ((2 : Int) = 1) = False from by simp]
        exact ⟨trivial, by omega, trivial⟩
    · rw [show (((i + 1 : Nat) : Int) == ((b.length : Nat) : Int)) = true from by rw [beq_iff_eq]; omega, cond_true, List.drop_eq_nil_of_le (by omega)]
      exact ⟨_, _, _, rfl, by simp [PosOK]⟩

end Go.Ab
