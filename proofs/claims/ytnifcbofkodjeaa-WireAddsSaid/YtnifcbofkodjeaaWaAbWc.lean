import Derived.Test.YtnifcbofkodjeaaWaAbWb
set_option linter.unusedVariables false
namespace Go.Ab

/-! ### A message that may be -/
structure Good (s : Sc) (m : Ms) : Prop where
  style : s.1 = 1 ∨ s.1 = 2
  mti : mtiR m.1 = true
  fok : FOk s.2.2 m.2
theorem good_of {s : Sc} {m : Ms} (hm : mCheck s m = (0, 0)) : Good s m := by
  unfold mCheck at hm
  cases h1 : schOk s with
  | false => rw [h1, if_pos rfl] at hm; simp at hm
  | true =>
    rw [h1, if_neg (by simp)] at hm
    cases hh : (mtiR m.1 && (verI m.1 == s.2.1)) with
    | false => rw [hh, if_pos rfl] at hm; simp at hm
    | true =>
      rw [hh, if_neg (by simp), fRun_iff] at hm
      rw [Bool.and_eq_true] at hh
      refine ⟨?_, hh.1, hm⟩
      unfold schOk at h1
      rw [Bool.and_eq_true, Bool.and_eq_true, Bool.or_eq_true] at h1
      rcases h1.1.1 with h | h
      · exact .inl (eq_of_beq h)
      · exact .inr (eq_of_beq h)
theorem fRun_fst (fs : List Spc) : ∀ (l : List Vl) (last : Int), (fRun fs last l).1 = 0 → fRun fs last l = (0, 0)
  | [], _, _ => rfl
  | x :: r, last, h => by
    unfold fRun at h ⊢
    by_cases h1 : x.1 ≤ last
    · rw [if_pos h1] at h; simp at h
    · rw [if_neg h1] at h ⊢
      cases h2 : specF fs x.1 with
      | none => rw [h2] at h; simp at h
      | some f =>
        rw [h2] at h
        dsimp only at h ⊢
        by_cases h3 : valueE f x.2 ≠ 0
        · rw [if_pos h3] at h; exact absurd h h3
        · rw [if_neg h3] at h ⊢
          exact fRun_fst fs r x.1 h
theorem mc_zero {s : Sc} {m : Ms} (h : (mCheck s m).1 = 0) : mCheck s m = (0, 0) := by
  unfold mCheck at h ⊢
  by_cases h1 : schOk s = false
  · rw [if_pos h1] at h; simp at h
  · rw [if_neg h1] at h ⊢
    by_cases h2 : (mtiR m.1 && (verI m.1 == s.2.1)) = false
    · rw [if_pos h2] at h; simp at h
    · rw [if_neg h2] at h ⊢
      exact fRun_fst _ _ _ h

/-! ### What it is on the wire -/
def fieldB (s : Sc) (x : Vl) : List UInt8 := cellF s.1 ((specF s.2.2 x.1).getD Spc0) x.2
def cellsF (s : Sc) : List Vl → List UInt8
  | [] => []
  | x :: l => fieldB s x ++ cellsF s l
theorem cellsF_app (s : Sc) : ∀ a b : List Vl, cellsF s (a ++ b) = cellsF s a ++ cellsF s b
  | [], _ => rfl
  | x :: a, b => by
    show fieldB s x ++ cellsF s (a ++ b) = (fieldB s x ++ cellsF s a) ++ cellsF s b
    rw [cellsF_app s a b, List.append_assoc]
theorem cellsF_le (s : Sc) : ∀ l : List Vl, (∀ x ∈ l, x.2.length < 100000) → (cellsF s l).length ≤ l.length * 200010
  | [], _ => Nat.zero_le _
  | x :: l, h => by
    have h1 := cellsF_le s l (fun y hy => h y (List.mem_cons_of_mem _ hy))
    have h2 := cellF_le s.1 ((specF s.2.2 x.1).getD Spc0) x.2
    have h3 := h x List.mem_cons_self
    show (fieldB s x ++ cellsF s l).length ≤ _
    rw [List.length_append, List.length_cons]
    have : (fieldB s x).length ≤ 2 * x.2.length + 5 := h2
    omega
def typB (s : Sc) (m : Ms) : List UInt8 := (typeF s.1 m.1).getD []
def bmapB (s : Sc) (m : Ms) : List UInt8 := bmF s.1 (setF m.2).1 (setF m.2).2
def headF (s : Sc) (m : Ms) : List UInt8 := typB s m ++ bmapB s m
def encF (s : Sc) (m : Ms) : List UInt8 := headF s m ++ cellsF s m.2

theorem typB_le {s : Sc} {m : Ms} (hg : Good s m) : (typB s m).length ≤ 4 := by
  obtain ⟨a, b, c, d, h, _⟩ := mtiR_four hg.mti
  obtain ⟨t, ht, ht2⟩ := bcdF_four hg.mti
  unfold typB typeF
  rw [if_neg (by rw [hg.mti]; simp)]
  rcases hg.style with hs | hs
  · rw [if_pos hs, h]
    exact Nat.le_refl _
  · rw [if_neg (by omega), if_pos hs, ht]
    show t.length ≤ 4
    omega
theorem bmF_le (style : Int) (h l : Nat) : (bmF style h l).length ≤ 32 := by
  have hb : (bmB h l).length ≤ 16 := by
    unfold bmB
    split
    · exact (by decide : 8 ≤ 16)
    · exact Nat.le_refl 16
  unfold bmF
  split
  · rw [hexF_len]; omega
  · omega
theorem headF_le {s : Sc} {m : Ms} (hg : Good s m) : (headF s m).length ≤ 36 := by
  have h1 := typB_le hg
  have h2 := bmF_le s.1 (setF m.2).1 (setF m.2).2
  unfold headF
  rw [List.length_append]
  have : (bmapB s m).length ≤ 32 := h2
  omega

theorem bytesB_toI (l : List UInt8) : bytesB (l.map toI) = true := by
  unfold bytesB
  rw [List.all_eq_true]
  intro n hn
  obtain ⟨b, _, rfl⟩ := List.mem_map.1 hn
  have := b.toNat_lt
  unfold toI
  rw [Bool.and_eq_true, decide_eq_true_iff, decide_eq_true_iff]
  omega

theorem no_one {s : Sc} {m : Ms} (hg : Good s m) : hasI (m.2.map (·.1)) 1 = false := by
  cases h : hasI (m.2.map (·.1)) 1 with
  | false => rfl
  | true =>
    unfold hasI at h
    obtain ⟨n, hn, e⟩ := List.any_eq_true.1 h
    obtain ⟨x, hx, rfl⟩ := List.mem_map.1 hn
    have := okF_pos (hg.fok.2 x hx)
    have e := eq_of_beq e
    omega
theorem bit63 {s : Sc} {m : Ms} (hg : Good s m) : (setF m.2).1.testBit 63 = false := by
  rw [setF_hi m.2 (by omega)]
  exact no_one hg

theorem enc_loop {k : Nat} {s : Sc} {m : Ms} (h : Small s m k) (hg : Good s m) : f36_l11 k (m.2, ((m.2.length : Nat) : Int), 0, s.1, s.2.1, s.2.2, 0, 0, (headF s m).map toI) = some (encF s m, (0, 0), ()) := by
  obtain ⟨h1, h2, h3, h4, h5⟩ := h
  have hh := headF_le hg
  have key := ix_loop (B := fun R11 p => f36_b11 k R11 p) m.2.length (fun i : Nat => ((m.2, ((m.2.length : Nat) : Int), ((i : Nat) : Int), s.1, s.2.1, s.2.2, 0, 0, (headF s m ++ cellsF s (m.2.take i)).map toI) : f36_t11)) (fun _ => some (encF s m, (0, 0), ())) (fun i L hi hL => by
    have hc := cellsF_le s (m.2.take i) (fun x hx => h4 x (List.mem_of_mem_take hx))
    rw [List.length_take, Nat.min_eq_left hi] at hc
    have hout : ((headF s m ++ cellsF s (m.2.take i)).map toI).length ≤ 36 + i * 200010 := by rw [List.length_map, List.length_append]; omega
    dsimp only [f36_b11]
    by_cases hlt : i < m.2.length
    · have hL := hL hlt
      have hx := List.getElem_mem hlt
      obtain ⟨f, hf, hv⟩ := hg.fok.2 _ hx
      have ht := h4 _ hx
      have hle := cellF_le s.1 f m.2[i].2
      rw [List.take_succ_eq_append_getElem hlt, cellsF_app, ← List.append_assoc, List.map_append] at hL
      have hfb : cellsF s [m.2[i]] = cellF s.1 f m.2[i].2 := by
        show cellF s.1 ((specF s.2.2 m.2[i].1).getD Spc0) m.2[i].2 ++ [] = _
        rw [hf, List.append_nil]
        rfl
      rw [hfb] at hL
      rw [cond_yes (by omega), chk_decide (by omega), chk_decide (by omega), toNat_cast, at_index hlt, sfind_ok (by dsimp only; omega) (by dsimp only; omega), Option.bind_some]
      dsimp only
      rw [hf]
      dsimp only
      rw [cput_ok hg.style hv ht (by omega), Option.bind_some]
      dsimp only
      rw [chk_decide (by omega), wsucc (by omega)]
      exact hL
    · rw [cond_no (by omega), List.take_of_length_le (by omega)]
      show chk (bytesB ((encF s m).map toI)) (some (((encF s m).map toI).map toByte, (0, 0), ())) = _
      rw [bytesB_toI, back]
      rfl) k 0 (Nat.zero_le _) (by omega)
  rw [List.take_zero] at key
  have e0 : headF s m ++ cellsF s [] = headF s m := List.append_nil _
  rw [e0] at key
  exact key

theorem enc_ok {k : Nat} {s : Sc} {m : Ms} (h : Small s m k) : f36 k (s, m, ()) = some (if mCheck s m = (0, 0) then (encF s m, (0, 0), ()) else ([], mCheck s m, ())) := by
  obtain ⟨h1, h2, h3, h4, h5⟩ := h
  show f36_m k (f36_l11 k) _ = _
  dsimp only [f36_m]
  rw [mcheck_ok ⟨h1, h2, h3, h4, h5⟩, Option.bind_some]
  dsimp only
  by_cases hm : mCheck s m = (0, 0)
  · have hg := good_of hm
    obtain ⟨b1, b2⟩ := setF_lt m.2
    have ht := typB_le hg
    have hty : f33 k (s.1, m.1, ()) = some (typB s m, true, ()) := by
      rw [type_ok (by omega) (by omega)]
      obtain ⟨t, ht, ht2⟩ := bcdF_four hg.mti
      unfold typB typeF
      rw [if_neg (by rw [hg.mti]; simp)]
      rcases hg.style with hs | hs
      · rw [if_pos hs]
        rfl
      · rw [if_neg (by omega), if_pos hs, ht]
        rfl
    rw [if_pos hm, neI_false (by rw [hm]), cond_false, hty, Option.bind_some, set_ok (by omega) (by omega), Option.bind_some]
    dsimp only
    rw [bmput_ok hg.style b1 b2 (bit63 hg) (by omega), Option.bind_some]
    dsimp only
    have hb := bmF_le s.1 (setF m.2).1 (setF m.2).2
    rw [chk_decide (by omega), chk_decide (by rw [List.nil_append, List.length_map]; omega), List.nil_append]
    have := enc_loop (k := k) ⟨h1, h2, h3, h4, h5⟩ hg
    unfold headF at this
    rw [List.map_append] at this
    exact this
  · rw [if_neg hm, neI_true (fun e => hm (mc_zero e)), cond_true]

/-! The reference's. -/
theorem rnums_ok {k : Nat} {m : Ms} (hl : m.2.length < 1000000) (hk : m.2.length < k) : f74 k (m, ()) = some (m.2.map (·.1), ()) := by
  have key := ix_loop (B := fun R3 p => f74_b3 k R3 p) m.2.length (fun i : Nat => ((((i : Nat) : Int), m.1, m.2, (m.2.take i).map (·.1)) : f74_t3)) (fun _ => some (m.2.map (·.1), ())) (fun i L hi hL => by
    dsimp only [f74_b3]
    by_cases hlt : i < m.2.length
    · have hL := hL hlt
      rw [List.take_succ_eq_append_getElem hlt, List.map_append] at hL
      have hlen : ((m.2.take i).map (·.1)).length = i := by rw [List.length_map, List.length_take]; omega
      rw [cond_yes (by omega), chk_decide (by omega), chk_decide (by omega), toNat_cast, at_index hlt, chk_decide (by rw [hlen, List.length_singleton]; omega), chk_decide (by rw [hlen, List.length_singleton]; omega), wsucc (by omega)]
      exact hL
    · rw [cond_no (by omega), List.take_of_length_le (by omega)]) k 0 (Nat.zero_le _) (by omega)
  exact key

theorem renc_loop {k : Nat} {s : Sc} {m : Ms} (h : Small s m k) (hg : Good s m) : f37_l4 k (headF s m, 0, s.1, s.2.1, s.2.2, m) = some (encF s m, ()) := by
  obtain ⟨h1, h2, h3, h4, h5⟩ := h
  have hh := headF_le hg
  have key := ix_loop (B := fun R4 p => f37_b4 k R4 p) m.2.length (fun i : Nat => ((headF s m ++ cellsF s (m.2.take i), ((i : Nat) : Int), s.1, s.2.1, s.2.2, m.1, m.2) : f37_t4)) (fun _ => some (encF s m, ())) (fun i L hi hL => by
    have hc := cellsF_le s (m.2.take i) (fun x hx => h4 x (List.mem_of_mem_take hx))
    rw [List.length_take, Nat.min_eq_left hi] at hc
    have hout : (headF s m ++ cellsF s (m.2.take i)).length ≤ 36 + i * 200010 := by rw [List.length_append]; omega
    dsimp only [f37_b4]
    by_cases hlt : i < m.2.length
    · have hL := hL hlt
      have hx := List.getElem_mem hlt
      obtain ⟨f, hf, hv⟩ := hg.fok.2 _ hx
      have ht := h4 _ hx
      have hle := cellF_le s.1 f m.2[i].2
      rw [List.take_succ_eq_append_getElem hlt, cellsF_app, ← List.append_assoc] at hL
      have hfb : cellsF s [m.2[i]] = cellF s.1 f m.2[i].2 := by
        show cellF s.1 ((specF s.2.2 m.2[i].1).getD Spc0) m.2[i].2 ++ [] = _
        rw [hf, List.append_nil]
        rfl
      rw [hfb] at hL
      rw [cond_yes (by omega), chk_decide (by omega), chk_decide (by omega), toNat_cast, at_index hlt, rsfind_ok (by dsimp only; omega) (by dsimp only; omega), Option.bind_some]
      dsimp only
      have hix := specF_idx s.2.2 m.2[i].1
      cases hj : s.2.2.findIdx? (fun x => x.1 == m.2[i].1) with
      | none => rw [hj] at hix; rw [hix] at hf; cases hf
      | some j =>
        rw [hj] at hix
        obtain ⟨hj1, hj2⟩ := hix
        rw [hj2] at hf
        injection hf with hf
        rw [show idxI (some j) = ((j : Nat) : Int) from rfl, chk_decide (by omega), chk_decide (by omega), chk_decide (by omega), chk_decide (by omega), toNat_cast, hf, rcput_ok hg.style hv ht (by omega), Option.bind_some]
        dsimp only
        rw [chk_decide (by omega), wsucc (by omega)]
        exact hL
    · rw [cond_no (by omega), List.take_of_length_le (by omega)]
      rfl) k 0 (Nat.zero_le _) (by omega)
  rw [List.take_zero] at key
  have e0 : headF s m ++ cellsF s [] = headF s m := List.append_nil _
  rw [e0] at key
  exact key

theorem renc_ok {k : Nat} {s : Sc} {m : Ms} (h : Small s m k) (hg : Good s m) : f37 k (s, m, ()) = some (encF s m, ()) := by
  obtain ⟨h1, h2, h3, h4, h5⟩ := h
  have ht := typB_le hg
  have hb := bmF_le s.1 (setF m.2).1 (setF m.2).2
  have hty : f35 k (s.1, m.1, ()) = some (typB s m, ()) := by
    obtain ⟨t, ht, ht2⟩ := bcdF_four hg.mti
    unfold typB typeF
    rw [if_neg (by rw [hg.mti]; simp)]
    rcases hg.style with hs | hs
    · rw [if_pos hs, hs]
      rfl
    · rw [if_neg (by omega), if_pos hs, hs, ht]
      show (f68 k (m.1, ())).bind (fun r1 => some (r1.1, ())) = _
      rw [rbput_ok (by omega) (by omega) (by omega), ht]
      rfl
  have hbm : f73 k (s.1, m.2.map (·.1), ()) = some (bmapB s m, true, ()) := by
    rw [rbm_ok hg.style (by rw [List.length_map]; omega) (by omega) (no_one hg)]
    unfold bmapB bmF
    rw [bm_eq]
  have hb' : (bmapB s m).length ≤ 32 := hb
  show f37_m k (f37_l4 k) _ = _
  dsimp only [f37_m]
  rw [rnums_ok (by omega) (by omega), Option.bind_some]
  dsimp only
  rw [hbm, Option.bind_some, hty, Option.bind_some]
  dsimp only
  rw [chk_decide (by omega)]
  exact renc_loop ⟨h1, h2, h3, h4, h5⟩ hg

def law7 : List Ty := [(.pair (.int .i64) (.pair (.int .i64) (.sl (.pair (.int .i64) (.pair (.int .i64) (.pair (.int .i64) (.pair (.int .i64) (.int .i64)))))))), (.pair .str (.sl (.pair (.int .i64) .str)))]
theorem pure7 (x : Dens law7) (h : WfAll law7 x) : ∃ k, f7 k x = some (true, ()) := by
  obtain ⟨s, m, u⟩ := (x : Sc × Ms × Unit)
  refine ⟨2000000 + 300, ?_⟩
  generalize hN : 2000000 = N
  show f7_m (N + 300) (s, m, ()) = _
  dsimp only [f7_m]
  rw [awake17, Option.bind_some]
  dsimp only
  rw [Bool.not_true, cond_false]
  by_cases h1 : ((s.2.2.length : Nat) : Int) > 200
  · rw [cond_yes h1, Option.bind_some]
  rw [cond_no h1]
  obtain ⟨c, hc, hc'⟩ := mgreat_ok2 (k := N + 300) (m := m) (by omega)
  rw [hc, Option.bind_some]
  dsimp only
  cases c with
  | true => rw [cond_true, Option.bind_some]
  | false =>
    obtain ⟨g5, g6, g7⟩ := hc' rfl
    have hsm : Small s m (N + 300) := ⟨by omega, by omega, by omega, fun x hx => by have := g7 x hx; omega, by omega⟩
    rw [cond_false, mcopy_ok g6, Option.bind_some]
    dsimp only
    rw [enc_ok hsm, Option.bind_some, rmcheck_ok hsm, Option.bind_some]
    by_cases hm : mCheck s m = (0, 0)
    · rw [if_pos hm, hm]
      dsimp only
      simp only [show ((((0 : Int) == 0) && (((0 : Int) == 0) && true))) = true from rfl, Bool.not_true, cond_false]
      rw [renc_ok hsm (good_of hm), Option.bind_some]
      simp
    · rw [if_neg hm]
      dsimp only
      have e1 : ((mCheck s m).1 == (mCheck s m).1 && ((mCheck s m).2 == (mCheck s m).2 && true)) = true := by simp
      have e2 : ((mCheck s m).1 == 0 && ((mCheck s m).2 == 0 && true)) = false := by
        rw [eqI_false (fun e => hm (mc_zero e))]
        rfl
      rw [e1, e2, Bool.not_true, cond_false, Bool.not_false, cond_true, cond_true]
      rfl

end Go.Ab
