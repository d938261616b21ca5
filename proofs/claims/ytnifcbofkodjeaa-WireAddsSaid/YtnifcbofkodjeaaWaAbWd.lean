import Derived.Test.YtnifcbofkodjeaaWaAbWc
set_option linter.unusedVariables false
namespace Go.Ab

/-! ### Leading zeros -/
theorem cond_ex {b : Bool} {A B : Option (Int × Unit)} {P : Int → Prop} (hA : ∃ n, A = some (n, ()) ∧ P n) (hB : ∃ n, B = some (n, ()) ∧ P n) : ∃ n, cond b A B = some (n, ()) ∧ P n := by
  cases b
  · exact hB
  · exact hA
theorem tab_le {l : List UInt8} (h : l.all (fun b => decide (b.toNat ≤ 8)) = true) (i : Nat) : (l.getD i 0).toNat ≤ 8 := by
  rw [List.getD_eq_getElem?_getD]
  cases hi : l[i]? with
  | none => decide
  | some b => exact of_decide_eq_true (List.all_eq_true.1 h b (List.mem_of_getElem? hi))
theorem leaf {l : List UInt8} (h : l.all (fun b => decide (b.toNat ≤ 8)) = true) (y c : Int) (hc : 0 ≤ c ∧ c ≤ 56) :
    ∃ n : Int, chk (decide ((0 : Int) ≤ IntKind.u8.wrap y)) (chk (decide (IntKind.u8.wrap y < (256 : Int))) (some (IntKind.i64.wrap (c + IntKind.i64.wrap (((UInt8.toNat (List.getD l (Int.toNat (IntKind.u8.wrap y)) 0) : Nat) : Int))), ()))) = some (n, ()) ∧ 0 ≤ n ∧ n ≤ 64 := by
  have hw : 0 ≤ IntKind.u8.wrap y ∧ IntKind.u8.wrap y < 256 := by
    unfold IntKind.wrap
    simp only [IntKind.signed, IntKind.bits]
    first | omega | (simp; omega)
  have ht := tab_le h (Int.toNat (IntKind.u8.wrap y))
  rw [chk_decide hw.1, chk_decide hw.2, w64 (n := ((UInt8.toNat (List.getD l (Int.toNat (IntKind.u8.wrap y)) 0) : Nat) : Int)) (by omega) (by omega), w64 (by omega) (by omega)]
  exact ⟨_, rfl, by omega, by omega⟩
theorem len64_ok (k : Nat) (x : Int) : ∃ n : Int, f125 k (x, ()) = some (n, ()) ∧ 0 ≤ n ∧ n ≤ 64 := by
  show ∃ n : Int, f125_m k (x, ()) = some (n, ()) ∧ _
  dsimp only [f125_m]
  refine cond_ex (cond_ex (cond_ex ?_ ?_) (cond_ex ?_ ?_)) (cond_ex (cond_ex ?_ ?_) (cond_ex ?_ ?_)) <;> exact leaf (by decide +kernel) _ _ (by omega)
theorem next64 {k h l : Nat} (hl : l < 18446744073709551616) : ∃ r : Int, f43 k (((h : Int), (l : Int)), 64, ()) = some (r, ()) ∧ (r == 0) = decide (l = 0) := by
  show ∃ r : Int, f43_m k _ = some (r, ()) ∧ _
  dsimp only [f43_m]
  have e0 : IntKind.i64.wrap ((64 : Int) - 64) = 0 := by rw [w64 (by omega) (by omega)]; rfl
  have e1 : IntKind.u64.wrap ((l : Int) * 2 ^ (min (Int.toNat (0 : Int)) (IntKind.bits IntKind.u64))) = (l : Int) := by
    rw [show ((2 : Int) ^ (min (Int.toNat (0 : Int)) (IntKind.bits IntKind.u64))) = 1 from rfl, Int.mul_one, wu64 (by omega) (by omega)]
  rw [if_neg (show ¬ ((64 : Int) < 0) by decide), cond_no (by decide), e0, if_neg (show ¬ ((64 : Int) < 0) by decide), chk_decide (by decide), e1]
  by_cases h0 : l = 0
  · rw [neI_false (by omega), cond_false]
    exact ⟨0, rfl, by rw [decide_eq_true h0]; rfl⟩
  · obtain ⟨n, hn, n0, n1⟩ := len64_ok k (l : Int)
    have h83 : f83 k ((l : Int), ()) = some (64 - n, ()) := by
      show (f125 k ((l : Int), ())).bind (fun r1 => some (IntKind.i64.wrap ((64 : Int) - r1.1), ())) = _
      rw [hn, Option.bind_some]
      dsimp only
      rw [w64 (by omega) (by omega)]
    rw [neI_true (by omega), cond_true, h83, Option.bind_some]
    dsimp only
    rw [w64 (n := (64 : Int) + (64 - n)) (by omega) (by omega), w64 (by omega) (by omega)]
    exact ⟨_, rfl, by rw [decide_eq_false h0, eqI_false (by omega)]⟩

/-! ### One more field -/
theorem hasI_iff (l : List Vl) (n : Int) : hasI (l.map (·.1)) n = true ↔ ∃ x ∈ l, x.1 = n := by
  unfold hasI
  rw [List.any_eq_true]
  constructor
  · rintro ⟨y, hy, e⟩
    obtain ⟨x, hx, rfl⟩ := List.mem_map.1 hy
    exact ⟨x, hx, (eq_of_beq e).symm⟩
  · rintro ⟨x, hx, e⟩
    exact ⟨x.1, List.mem_map.2 ⟨x, hx, rfl⟩, by rw [e]; simp⟩
theorem hasI_ins (l : List Vl) (no : Int) (t : List UInt8) (n : Int) : hasI ((insF l no t).map (·.1)) n = ((n == no) || hasI (l.map (·.1)) n) := by
  rw [Bool.eq_iff_iff, Bool.or_eq_true, hasI_iff, hasI_iff, beq_iff_eq]
  constructor
  · rintro ⟨x, hx, e⟩
    rcases (insF_mem no t l x).1 hx with h | h
    · exact .inl (by rw [← e, h])
    · exact .inr ⟨x, h, e⟩
  · rintro (h | ⟨x, hx, e⟩)
    · exact ⟨(no, t), (insF_mem no t l _).2 (.inl rfl), h.symm⟩
    · exact ⟨x, (insF_mem no t l x).2 (.inr hx), e⟩
theorem lo_zero (l : List Vl) : (setF l).2 = 0 ↔ ∀ n : Int, 65 ≤ n → n ≤ 128 → hasI (l.map (·.1)) n = false := by
  constructor
  · intro h n h1 h2
    have := setF_lo l (j := (128 - n).toNat) (by omega)
    rw [h, Nat.zero_testBit, show (128 : Int) - ((128 - n).toNat : Nat) = n by omega] at this
    exact this.symm
  · intro h
    apply Nat.eq_of_testBit_eq
    intro j
    rw [Nat.zero_testBit]
    by_cases hj : j < 64
    · rw [setF_lo l hj]
      exact h _ (by omega) (by omega)
    · exact Nat.testBit_lt_two_pow (Nat.lt_of_lt_of_le (setF_lt l).2 (Nat.pow_le_pow_right (n := 2) (i := 64) (j := j) (by omega) (by omega)))

theorem cellsF_ins (s : Sc) (l : List Vl) (no : Int) (t : List UInt8) : (cellsF s (insF l no t)).length = (cellsF s l).length + (fieldB s (no, t)).length := by
  have key : ∀ a b : List Vl, (cellsF s (a ++ (no, t) :: b)).length = (cellsF s (a ++ b)).length + (fieldB s (no, t)).length := by
    intro a b
    rw [cellsF_app, cellsF_app]
    show (cellsF s a ++ (fieldB s (no, t) ++ cellsF s b)).length = _
    simp only [List.length_append]
    omega
  unfold insF
  split
  · rename_i j _
    have := key (l.take j) (l.drop j)
    rw [List.take_append_drop] at this
    exact this
  · have := key l []
    rw [List.append_nil] at this
    exact this
theorem bmF_len (style : Int) (h l : Nat) : (bmF style h l).length = (if style = 1 then 2 else 1) * (if l = 0 then 8 else 16) := by
  have hb : (bmB h l).length = if l = 0 then 8 else 16 := by
    unfold bmB
    split
    · rfl
    · rfl
  unfold bmF
  split
  · rw [hexF_len, hb]
  · rw [hb, Nat.one_mul]
theorem encF_le {s : Sc} {m : Ms} (hg : Good s m) (h : ∀ x ∈ m.2, x.2.length < 100000) : (encF s m).length ≤ 36 + m.2.length * 200010 := by
  have h1 := headF_le hg
  have h2 := cellsF_le s m.2 h
  unfold encF
  rw [List.length_append]
  omega

theorem adds_len (s : Sc) (t : List UInt8) (l : List Vl) (no : Int) (text : List UInt8) :
    (encF s (t, insF l no text)).length = (encF s (t, l)).length + (fieldB s (no, text)).length + ((if s.1 = 1 then 2 else 1) * (if (setF (insF l no text)).2 = 0 then 8 else 16) - (if s.1 = 1 then 2 else 1) * (if (setF l).2 = 0 then 8 else 16)) ∨ ¬ ((if (setF l).2 = 0 then 8 else 16) ≤ (if (setF (insF l no text)).2 = 0 then 8 else 16)) := by
  by_cases hle : (if (setF l).2 = 0 then 8 else 16) ≤ (if (setF (insF l no text)).2 = 0 then 8 else 16)
  · left
    unfold encF headF bmapB typB
    simp only [List.length_append, cellsF_ins, bmF_len]
    generalize (if (setF l).2 = 0 then 8 else 16) = a at *
    generalize (if (setF (insF l no text)).2 = 0 then 8 else 16) = b at *
    split <;> omega
  · exact .inr hle

def law9 : List Ty := [(.pair (.int .i64) (.pair (.int .i64) (.sl (.pair (.int .i64) (.pair (.int .i64) (.pair (.int .i64) (.pair (.int .i64) (.int .i64)))))))), (.pair .str (.sl (.pair (.int .i64) .str))), (.pair (.int .i64) .str)]
theorem pure9 (x : Dens law9) (h : WfAll law9 x) : ∃ k, f9 k x = some (true, ()) := by
  obtain ⟨s, m, v, u⟩ := (x : Sc × Ms × Vl × Unit)
  obtain ⟨no, text⟩ := v
  refine ⟨2000000 + 300, ?_⟩
  generalize hN : 2000000 = N
  show f9_m (N + 300) (s, m, (no, text), ()) = _
  dsimp only [f9_m]
  rw [awake17, Option.bind_some]
  dsimp only
  rw [Bool.not_true, cond_false]
  by_cases h1 : ((s.2.2.length : Nat) : Int) > 200
  · rw [cond_yes h1, Option.bind_some]
  rw [cond_no h1]
  obtain ⟨c, hc, hc'⟩ := mgreat_ok2 (k := N + 300) (m := m) (by omega)
  rw [hc, Option.bind_some]
  dsimp only
  cases c with
  | true => rw [cond_true, Option.bind_some]
  | false =>
    obtain ⟨g5, g6, g7⟩ := hc' rfl
    rw [cond_false]
    by_cases h2 : ((text.length : Nat) : Int) > 1000
    · rw [cond_yes h2, Option.bind_some]
    rw [cond_no h2]
    have hlo : (woF m.2 no).length ≤ m.2.length := List.length_filter_le _ _
    have hil := ins_len (woF m.2 no) no text
    have ht1 : ∀ x ∈ woF m.2 no, x.2.length ≤ 1200 := fun x hx => g7 x (List.mem_filter.1 hx).1
    have ht2 : ∀ x ∈ insF (woF m.2 no) no text, x.2.length ≤ 1200 := ins_texts (B := 1200) g7 (by omega)
    have s1 : Small s (m.1, woF m.2 no) (N + 300) := ⟨by omega, by dsimp only; omega, by dsimp only; omega, fun x hx => by have := ht1 x hx; omega, by omega⟩
    have s2 : Small s (m.1, insF (woF m.2 no) no text) (N + 300) := ⟨by omega, by dsimp only; omega, by dsimp only; omega, fun x hx => by have := ht2 x hx; omega, by omega⟩
    rw [wo_ok (by omega) (by omega), Option.bind_some]
    dsimp only
    rw [enc_ok s1, Option.bind_some, with_ok (by omega) (by omega), Option.bind_some]
    dsimp only
    rw [enc_ok s2, Option.bind_some]
    by_cases e1 : mCheck s (m.1, woF m.2 no) = (0, 0)
    · rw [if_pos e1]
      dsimp only
      rw [show (!(((0 : Int) == 0) && (((0 : Int) == 0) && true))) = false from rfl, cond_false]
      by_cases e2 : mCheck s (m.1, insF (woF m.2 no) no text) = (0, 0)
      · rw [if_pos e2]
        dsimp only
        rw [show (!(((0 : Int) == 0) && (((0 : Int) == 0) && true))) = false from rfl, cond_false]
        have G1 := good_of e1
        have G2 := good_of e2
        have L1 := encF_le G1 (fun x hx => by have := ht1 x hx; omega)
        have L2 := encF_le G2 (fun x hx => by have := ht2 x hx; omega)
        dsimp only at L1 L2
        have hok : okF s.2.2 (no, text) := G2.fok.2 _ ((insF_mem no text _ _).2 (.inl rfl))
        have hno := okF_pos hok
        dsimp only at hno
        obtain ⟨f, hf, hv⟩ := hok
        dsimp only at hf hv
        have hfb : fieldB s (no, text) = cellF s.1 f text := by
          unfold fieldB
          rw [hf]
          rfl
        have hcl := cellF_le s.1 f text
        rw [sfind_ok (by omega) (by omega), hf, Option.bind_some]
        dsimp only
        rw [cput_ok G1.style hv (by omega) (by omega), Option.bind_some]
        dsimp only
        have al := adds_len s m.1 (woF m.2 no) no text
        rw [hfb] at al
        have z0 := lo_zero (woF m.2 no)
        have z1 := lo_zero (insF (woF m.2 no) no text)
        by_cases h64 : no > 64
        · have h64' : (64 : Int) < no := h64
          rw [cond_yes h64, Option.bind_some]
          dsimp only
          rw [set_ok (by dsimp only; omega) (by dsimp only; omega), Option.bind_some]
          dsimp only
          obtain ⟨r, hr, hr0⟩ := next64 (k := N + 300) (h := (setF (woF m.2 no)).1) (l := (setF (woF m.2 no)).2) (setF_lt _).2
          rw [hr, Option.bind_some]
          dsimp only
          have n1 : (setF (insF (woF m.2 no) no text)).2 ≠ 0 := fun e => by
            have := z1.1 e no (by omega) (by omega)
            rw [hasI_ins] at this
            simp at this
          rw [if_neg n1] at al
          rw [hr0]
          by_cases n0 : (setF (woF m.2 no)).2 = 0
          · rw [decide_eq_true n0, cond_true]
            rw [if_pos n0] at al
            have al := al.resolve_right (by omega)
            rcases G1.style with hs | hs
            · rw [eqI_true hs, cond_true, show ((0 : Int) == 0) = true from rfl, cond_true, w64 (n := ((List.length _ : Nat) : Int) + ((List.length _ : Nat) : Int)) (by omega) (by omega), w64 (by omega) (by omega)]
              rw [if_pos hs] at al
              rw [eqI_true (by omega)]
            · rw [eqI_false (by omega), cond_false, show ((0 : Int) == 0) = true from rfl, cond_true, w64 (n := ((List.length _ : Nat) : Int) + ((List.length _ : Nat) : Int)) (by omega) (by omega), w64 (by omega) (by omega)]
              rw [if_neg (by omega)] at al
              rw [eqI_true (by omega)]
          · rw [decide_eq_false n0, cond_false, show ((0 : Int) == 0) = true from rfl, cond_true, w64 (n := ((List.length _ : Nat) : Int) + ((List.length _ : Nat) : Int)) (by omega) (by omega), w64 (by omega) (by omega)]
            rw [if_neg n0] at al
            have al := al.resolve_right (by omega)
            rw [Nat.sub_self] at al
            rw [eqI_true (by omega)]
        · have h64' : ¬ ((64 : Int) < no) := h64
          rw [cond_no h64, show ((0 : Int) == 0) = true from rfl, cond_true, w64 (n := ((List.length _ : Nat) : Int) + ((List.length _ : Nat) : Int)) (by omega) (by omega), w64 (by omega) (by omega)]
          have same : (setF (insF (woF m.2 no) no text)).2 = 0 ↔ (setF (woF m.2 no)).2 = 0 := by
            rw [z0, z1]
            constructor
            · intro hh n a b
              have := hh n a b
              rw [hasI_ins, Bool.or_eq_false_iff] at this
              exact this.2
            · intro hh n a b
              rw [hasI_ins, hh n a b, Bool.or_false]
              exact eqI_false (by omega)
          by_cases n0 : (setF (woF m.2 no)).2 = 0
          · rw [if_pos n0, if_pos (same.2 n0)] at al
            have al := al.resolve_right (by omega)
            rw [Nat.sub_self] at al
            rw [eqI_true (by omega)]
          · rw [if_neg n0, if_neg (fun e => n0 (same.1 e))] at al
            have al := al.resolve_right (by omega)
            rw [Nat.sub_self] at al
            rw [eqI_true (by omega)]
      · rw [if_neg e2]
        dsimp only
        have : ((mCheck s (m.1, insF (woF m.2 no) no text)).1 == 0 && ((mCheck s (m.1, insF (woF m.2 no) no text)).2 == 0 && true)) = false := by
          rw [eqI_false (fun e => e2 (mc_zero e))]
          rfl
        rw [this, Bool.not_false, cond_true]
    · rw [if_neg e1]
      dsimp only
      have : ((mCheck s (m.1, woF m.2 no)).1 == 0 && ((mCheck s (m.1, woF m.2 no)).2 == 0 && true)) = false := by
        rw [eqI_false (fun e => e1 (mc_zero e))]
        rfl
      rw [this, Bool.not_false, cond_true]

end Go.Ab
