import Derived.Test.YtnifcbofkodjeaaWaAbF2
import Derived.Test.YtnifcbofkodjeaaWaAbQh
set_option linter.unusedVariables false
namespace Go.Ab

/-! ### Packed digits -/
def pack2 : List UInt8 → List Int
  | a :: b :: r => ((16 * (a.toNat - 48) + (b.toNat - 48) : Nat) : Int) :: pack2 r
  | _ => []
/-- Digits, an even number of them. -/
def evenD (s : List UInt8) : List UInt8 := if s.length % 2 = 1 then 48 :: s else s
def bcdF (s : List UInt8) : Option (List UInt8) := if 999 < s.length ∨ s.all dig = false then none else some ((pack2 (evenD s)).map toByte)

theorem nib_key : ∀ a : Fin 10, ∀ b : Fin 10, bitsN .or .u8 (IntKind.u8.wrap ((IntKind.u8.wrap (((a.val + 48 : Nat) : Int) - (48 : Int))) * 2 ^ (min (Int.toNat (4 : Int)) (IntKind.bits IntKind.u8)))) (IntKind.u8.wrap (((b.val + 48 : Nat) : Int) - (48 : Int))) = ((16 * (a.val + 48 - 48) + (b.val + 48 - 48) : Nat) : Int) := by decide +kernel
theorem nib_ok {a b : UInt8} (ha : dig a = true) (hb : dig b = true) : bitsN .or .u8 (IntKind.u8.wrap ((IntKind.u8.wrap (((a.toNat : Nat) : Int) - (48 : Int))) * 2 ^ (min (Int.toNat (4 : Int)) (IntKind.bits IntKind.u8)))) (IntKind.u8.wrap (((b.toNat : Nat) : Int) - (48 : Int))) = ((16 * (a.toNat - 48) + (b.toNat - 48) : Nat) : Int) := by
  have h1 := dig_bounds ha
  have h2 := dig_bounds hb
  have := nib_key ⟨a.toNat - 48, by omega⟩ ⟨b.toNat - 48, by omega⟩
  dsimp only at this
  rw [show a.toNat - 48 + 48 = a.toNat by omega, show b.toNat - 48 + 48 = b.toNat by omega] at this
  exact this

theorem pack2_len : ∀ (s : List UInt8), s.length % 2 = 0 → (pack2 s).length = s.length / 2
  | [], _ => rfl
  | [_], h => by simp at h
  | a :: b :: r, h => by
    have : r.length % 2 = 0 := by simp at h; omega
    simp [pack2, pack2_len r this]
    omega

theorem put_loop {k : Nat} {s : List UInt8} (hd : ∀ x ∈ s, dig x = true) (hl : s.length < 2000) (he : s.length % 2 = 0) : ∀ (d i n : Nat) (out : List Int), s.length = i + 2 * d → out.length ≤ i → d < n →
    loopP (fun R7 p => f66_b7 k R7 p) n (s, (i : Int), out) = some ((out ++ pack2 (s.drop i)).map toByte, true, ()) := by
  intro d
  induction d with
  | zero =>
    intro i n out h1 h2 h3
    obtain ⟨n, rfl⟩ : ∃ m, n = m + 1 := ⟨n - 1, by omega⟩
    rw [loopP_succ]
    dsimp only [f66_b7]
    rw [cond_no (by omega), List.drop_eq_nil_of_le (by omega)]
    simp [pack2]
  | succ d ih =>
    intro i n out h1 h2 h3
    obtain ⟨n, rfl⟩ : ∃ m, n = m + 1 := ⟨n - 1, by omega⟩
    rw [loopP_succ]
    have ih := ih (i + 2) n
    generalize loopP (fun R7 p => f66_b7 k R7 p) n = L at *
    dsimp only [f66_b7]
    have ha : i < s.length := by omega
    have hb : i + 1 < s.length := by omega
    rw [cond_yes (by omega), chk_decide (by omega), chk_decide (by omega), wsucc (by omega), chk_decide (by omega), chk_decide (by omega), toNat_cast, toNat_cast, at_index ha, at_index hb, nib_ok (hd _ (List.getElem_mem ha)) (hd _ (List.getElem_mem hb)),
      chk_decide (by rw [List.length_singleton]; omega), chk_decide (by rw [List.length_singleton]; omega), w64 (n := (i : Int) + 2) (by omega) (by omega), show ((i : Int) + 2) = ((i + 2 : Nat) : Int) by omega, ih _ (by omega) (by simp; omega) (by omega),
      List.drop_eq_getElem_cons ha, List.drop_eq_getElem_cons hb, pack2]
    simp

theorem bput_ok {k : Nat} {s : List UInt8} (hk : 2000 < k) (hl : s.length < k) : f66 k (s, ()) = some (match bcdF s with | some t => (t, true, ()) | none => ([], false, ())) := by
  show f66_m k (f66_l7 k) _ = _
  dsimp only [f66_m]
  unfold bcdF
  by_cases h1 : 999 < s.length
  · rw [cond_yes (by omega), if_pos (.inl h1)]
  rw [cond_no (by omega), all_ok hl, Option.bind_some]
  dsimp only
  cases h2 : s.all dig with
  | false => rw [if_pos (.inr rfl)]; rfl
  | true =>
    have h2' : ∀ x ∈ s, dig x = true := List.all_eq_true.1 h2
    rw [Bool.not_true, cond_false, if_neg (by simp; omega)]
    dsimp only
    unfold evenD
    have hm : Int.tmod ((s.length : Nat) : Int) 2 = ((s.length % 2 : Nat) : Int) := by rw [Int.tmod_eq_emod_of_nonneg (by omega)]; omega
    rw [hm]
    by_cases h3 : s.length % 2 = 1
    · rw [neI_true (by omega), cond_true, if_pos h3]
      have hlen : (([48] : List UInt8) ++ s).length = s.length + 1 := by simp only [List.length_append, List.length_singleton]; omega
      rw [hlen]
      have hq : Int.tdiv ((s.length + 1 : Nat) : Int) 2 = (((s.length + 1) / 2 : Nat) : Int) := by rw [Int.tdiv_eq_ediv_of_nonneg (by omega)]; omega
      rw [hq, w64 (by omega) (by omega), chk_decide (by omega), chk_decide (by omega), chk_decide (by omega), chk_decide (by omega)]
      have := put_loop (k := k) (s := 48 :: s) (fun x hx => (List.mem_cons.1 hx).elim (fun e => by subst e; rfl) (fun e => h2' x e)) (by simp only [List.length_cons]; omega) (by simp only [List.length_cons]; omega) ((s.length + 1) / 2) 0 k [] (by simp only [List.length_cons]; omega) (by simp) (by omega)
      exact this
    · rw [neI_false (by omega), cond_false, if_neg h3]
      have hq : Int.tdiv ((s.length : Nat) : Int) 2 = ((s.length / 2 : Nat) : Int) := by rw [Int.tdiv_eq_ediv_of_nonneg (by omega)]; omega
      rw [hq, w64 (by omega) (by omega), chk_decide (by omega), chk_decide (by omega), chk_decide (by omega)]
      have := put_loop (k := k) (s := s) h2' (by omega) (by omega) (s.length / 2) 0 k [] (by omega) (by simp) (by omega)
      exact this

/-! The reference's. -/
theorem rput_pair {k : Nat} {s : List UInt8} (hd : ∀ x ∈ s, dig x = true) (hl : s.length < 2000) (L : f68_t8 → Option f68_r) (o : List Int) (x : Nat) (hx : x ≤ 144) (i : Nat) (h : i < s.length) (ho : o.length ≤ i) :
    f68_b8 k L (s, 1, (i : Int), o ++ [(x : Int)]) = L (s, 0, ((i + 1 : Nat) : Int), o ++ [((x + (s[i].toNat - 48) : Nat) : Int)]) := by
  have hb := dig_bounds (hd _ (List.getElem_mem h))
  dsimp only [f68_b8]
  have hlen : (o ++ [(x : Int)]).length = o.length + 1 := by simp
  rw [cond_yes (by omega), chk_decide (by omega), chk_decide (by omega), show ((1 : Int) == 0) = false from rfl, cond_false, hlen, show IntKind.i64.wrap (((o.length + 1 : Nat) : Int) - 1) = ((o.length : Nat) : Int) from by rw [w64 (by omega) (by omega)]; omega,
    chk_decide (by omega), chk_decide (by omega), toNat_cast, chk_decide (by omega), chk_decide (by omega), chk_decide (by omega), chk_decide (by omega), toNat_cast, at_index h, wsucc (by omega)]
  have hg : (o ++ [(x : Int)]).getD o.length 0 = (x : Int) := by simp
  rw [hg, wu8 (n := _ - 48) (by omega) (by omega), wu8 (by omega) (by omega)]
  rw [List.set_append_right _ _ (Nat.le_refl _), Nat.sub_self]
  rw [show ((x : Int) + (((s[i].toNat : Nat) : Int) - 48)) = ((x + (s[i].toNat - 48) : Nat) : Int) by omega]
  rfl

theorem rput_loop {k : Nat} {s : List UInt8} (hd : ∀ x ∈ s, dig x = true) (hl : s.length < 2000) : ∀ (d i n : Nat) (out : List Int), s.length = i + 2 * d → out.length ≤ i + 1 → 2 * d < n →
    loopP (fun R8 p => f68_b8 k R8 p) n (s, 0, (i : Int), out) = some ((out ++ pack2 (s.drop i)).map toByte, true, ()) := by
  intro d
  induction d with
  | zero =>
    intro i n out h1 h2 h3
    obtain ⟨n, rfl⟩ : ∃ m, n = m + 1 := ⟨n - 1, by omega⟩
    rw [loopP_succ]
    dsimp only [f68_b8]
    rw [cond_no (by omega), List.drop_eq_nil_of_le (by omega)]
    simp [pack2]
  | succ d ih =>
    intro i n out h1 h2 h3
    obtain ⟨n, rfl⟩ : ∃ m, n = m + 2 := ⟨n - 2, by omega⟩
    have ha : i < s.length := by omega
    have hb : i + 1 < s.length := by omega
    have hba := dig_bounds (hd _ (List.getElem_mem ha))
    rw [loopP_succ]
    generalize hL : loopP (fun R8 p => f68_b8 k R8 p) (n + 1) = L
    dsimp only [f68_b8]
    rw [cond_yes (by omega), chk_decide (by omega), chk_decide (by omega), show ((0 : Int) == 0) = true from rfl, cond_true, toNat_cast, at_index ha, wu8 (n := _ - 48) (by omega) (by omega), wu8 (by omega) (by omega),
      chk_decide (by rw [List.length_singleton]; omega), chk_decide (by rw [List.length_singleton]; omega), wsucc (by omega), show IntKind.i64.wrap ((1 : Int) - 0) = 1 from by rw [w64 (by omega) (by omega)]; rfl]
    rw [← hL, loopP_succ, show (16 * (((s[i].toNat : Nat) : Int) - 48)) = ((16 * (s[i].toNat - 48) : Nat) : Int) by omega]
    by_cases hol : out.length ≤ i + 1
    · rw [rput_pair hd hl _ out _ (by omega) (i + 1) hb hol, ih (i + 2) n _ (by omega) (by simp; omega) (by omega), List.drop_eq_getElem_cons ha, List.drop_eq_getElem_cons hb, pack2]
      simp
    · omega

theorem rbput_ok {k : Nat} {s : List UInt8} (hk : 2000 < k) (hl : s.length < k) (hl' : s.length < 1000000) : f68 k (s, ()) = some (match bcdF s with | some t => (t, true, ()) | none => ([], false, ())) := by
  show f68_m k (f68_l8 k) _ = _
  dsimp only [f68_m]
  unfold bcdF
  by_cases h1 : 999 < s.length
  · rw [cond_yes (by omega), if_pos (.inl h1)]
  rw [cond_no (by omega), rall_ok hl' hl, Option.bind_some]
  dsimp only
  cases h2 : s.all dig with
  | false => rw [if_pos (.inr rfl)]; rfl
  | true =>
    have h2' : ∀ x ∈ s, dig x = true := List.all_eq_true.1 h2
    rw [Bool.not_true, cond_false, if_neg (by simp; omega)]
    dsimp only
    unfold evenD
    have hm : Int.tmod ((s.length : Nat) : Int) 2 = ((s.length % 2 : Nat) : Int) := by rw [Int.tmod_eq_emod_of_nonneg (by omega)]; omega
    rw [hm]
    by_cases h3 : s.length % 2 = 1
    · rw [eqI_true (by omega), cond_true, if_pos h3, chk_decide (by simp), chk_decide (by simp), h3]
      have h0 : 0 < s.length := by omega
      obtain ⟨k', rfl⟩ : ∃ k', k = k' + 1 := ⟨k - 1, by omega⟩
      show loopP (fun R8 p => f68_b8 (k' + 1) R8 p) (k' + 1) (s, ((1 : Nat) : Int), ((0 : Nat) : Int), [] ++ [((0 : Nat) : Int)]) = _
      rw [loopP_succ]
      have e := rput_pair (k := k' + 1) h2' (by omega) (loopP (fun R8 p => f68_b8 (k' + 1) R8 p) k') [] 0 (by omega) 0 h0 (by simp)
      rw [show ((1 : Nat) : Int) = 1 from rfl, e, rput_loop h2' (by omega) (s.length / 2) 1 k' _ (by omega) (by simp) (by omega)]
      have hs : s = s[0] :: s.drop 1 := by
        have := List.drop_eq_getElem_cons h0
        rwa [List.drop_zero] at this
      have hp : pack2 (48 :: s) = pack2 (48 :: s[0] :: s.drop 1) := congrArg (fun z => pack2 (48 :: z)) hs
      rw [hp]
      simp [pack2]
    · rw [eqI_false (by omega), cond_false, if_neg h3, show s.length % 2 = 0 by omega]
      have := rput_loop (k := k) h2' (by omega) (s.length / 2) 0 k [] (by omega) (by simp) (by omega)
      exact this

/-! ### MTIs on the wire -/
def typeF (style : Int) (m : List UInt8) : Option (List UInt8) := if mtiR m = false then none else if style = 1 then some m else if style = 2 then bcdF m else none
theorem mtiR_four {m : List UInt8} (h : mtiR m = true) : ∃ a b c d, m = [a, b, c, d] ∧ dig a = true ∧ dig b = true ∧ dig c = true ∧ dig d = true := by
  unfold mtiR at h
  rw [Bool.and_eq_true] at h
  obtain ⟨h1, h2⟩ := h
  obtain ⟨a, b, c, d, rfl⟩ := four (eq_of_beq h1)
  have h2 := List.all_eq_true.1 h2
  exact ⟨a, b, c, d, rfl, h2 a (by simp), h2 b (by simp), h2 c (by simp), h2 d (by simp)⟩
theorem bcdF_four {m : List UInt8} (h : mtiR m = true) : ∃ t, bcdF m = some t ∧ t.length = 2 := by
  obtain ⟨a, b, c, d, rfl, ha, hb, hc, hd⟩ := mtiR_four h
  unfold bcdF
  rw [if_neg (by simp [ha, hb, hc, hd])]
  exact ⟨_, rfl, by simp [evenD, pack2]⟩

theorem type_ok {k : Nat} {style : Int} {m : List UInt8} (hk : 2000 < k) (hl : m.length < k) : f33 k (style, m, ()) = some (match typeF style m with | some t => (t, true, ()) | none => ([], false, ())) := by
  show f33_m k _ = _
  dsimp only [f33_m]
  unfold typeF
  rw [right_ok hl, Option.bind_some]
  change cond (!mtiR m) _ _ = _
  cases h : mtiR m with
  | false => rfl
  | true =>
    rw [Bool.not_true, cond_false, if_neg (by simp)]
    by_cases h1 : style = 1
    · rw [eqI_true h1, cond_true, if_pos h1]
    · rw [eqI_false h1, cond_false, if_neg h1]
      by_cases h2 : style = 2
      · obtain ⟨t, h3, _⟩ := bcdF_four h
        rw [eqI_true h2, cond_true, if_pos h2, bput_ok hk hl, Option.bind_some, h3]
      · rw [eqI_false h2, cond_false, if_neg h2]

theorem awake17 (n : Nat) : f32 (n + 300) () = some (true, ()) := by kernel_rfl

def law6 : List Ty := [(.int .i64), .str]
theorem pure6 (x : Dens law6) (h : WfAll law6 x) : ∃ k, f6 k x = some (true, ()) := by
  obtain ⟨style, m, u⟩ := (x : Int × List UInt8 × Unit)
  refine ⟨3000 + 300, ?_⟩
  show f6_m (3000 + 300) _ = _
  dsimp only [f6_m]
  rw [awake17, Option.bind_some]
  dsimp only
  rw [Bool.not_true, cond_false]
  by_cases h1 : m.length > 100
  · rw [cond_yes (by omega)]
    rfl
  rw [cond_no (by omega), type_ok (by omega) (by omega), Option.bind_some]
  have key : cond (!mtiR m) (cond (!(match typeF style m with | some t => (t, true, ()) | none => (([] : List UInt8), false, ())).2.1) (some (((match typeF style m with | some t => (t, true, ()) | none => (([] : List UInt8), false, ())).1 == ([] : List UInt8)), ())) (some (false, ())))
      (cond (match typeF style m with | some t => (t, true, ()) | none => (([] : List UInt8), false, ())).2.1 ((f35 3300 (style, m, ())).bind fun r6 => (some (((match typeF style m with | some t => (t, true, ()) | none => (([] : List UInt8), false, ())).1 == r6.1), ()))) (some (false, ()))) = (some (true, ()) : Option (Bool × Unit)) ∨ (style ≠ 1 ∧ style ≠ 2) := by
    unfold typeF
    cases hm : mtiR m with
    | false => exact .inl rfl
    | true =>
      rw [if_neg (by simp), Bool.not_true, cond_false]
      by_cases h2 : style = 1
      · subst h2
        refine .inl ?_
        show cond true ((f35 3300 (1, m, ())).bind _) _ = _
        show some (m == m, ()) = _
        simp
      · by_cases h3 : style = 2
        · subst h3
          obtain ⟨t, h4, _⟩ := bcdF_four hm
          refine .inl ?_
          have h5 : f35 3300 (2, m, ()) = some (t, ()) := by
            show (f68 3300 (m, ())).bind (fun r1 => some (r1.1, ())) = _
            rw [rbput_ok (by omega) (by omega) (by omega), h4]
            rfl
          rw [h5, if_neg (by decide), if_pos rfl, h4]
          simp
        · exact .inr ⟨h2, h3⟩
  by_cases h2 : style = 1
  · rw [neI_false h2, cond_false, rmtiR_ok (by omega) (by omega), Option.bind_some]
    rcases key with key | key
    · exact key
    · exact absurd h2 key.1
  · rw [neI_true h2, cond_true]
    by_cases h3 : style = 2
    · rw [neI_false h3, cond_false, rmtiR_ok (by omega) (by omega), Option.bind_some]
      rcases key with key | key
      · exact key
      · exact absurd h3 key.2
    · rw [neI_true h3, cond_true]
      have : typeF style m = none := by
        unfold typeF
        rw [if_neg h2, if_neg h3]
        simp
      rw [this]
      rfl

end Go.Ab
