import Derived.Test.YtnifcbofkodjeaaWaAbQc
set_option linter.unusedVariables false
namespace Go.Ab

theorem tagP_sz {l : List UInt8} {p : Nat × Nat} (h : tagP l = some p) : 1 ≤ p.2 ∧ p.2 ≤ l.length := by
  cases l with
  | nil => cases h
  | cons b r =>
    simp only [tagP] at h
    split at h
    · cases h
    · split at h
      · injection h with h; subst h; simp
      · split at h
        · cases h
        · split at h
          · cases h
          · injection h with h; subst h; simp
theorem berP_sz {l : List UInt8} {p : Nat × Nat} (h : berP l = some p) : 1 ≤ p.2 ∧ p.2 ≤ l.length ∧ p.1 ≤ 65535 := by
  cases l with
  | nil => cases h
  | cons b r =>
    have := b.toNat_lt
    simp only [berP] at h
    split at h
    · injection h with h; subst h; simp; omega
    · split at h
      · split at h
        · cases h
        · rename_i c r'
          have := c.toNat_lt
          split at h
          · cases h
          · injection h with h; subst h; simp; omega
      · split at h
        · split at h
          · rename_i c d r'
            have := c.toNat_lt
            have := d.toNat_lt
            split at h
            · cases h
            · injection h with h; subst h; simp; omega
          · cases h
        · cases h

/-- Is a list of tags and values well formed? -/
def tlvGo : Nat → List Int → List UInt8 → Bool
  | 0, _, l => l.isEmpty
  | f + 1, seen, l => match l with
    | [] => true
    | l => match tagP l with
      | none => false
      | some t => match berP (l.drop t.2) with
        | none => false
        | some n => if (l.drop (t.2 + n.2)).length < n.1 then false else if hasI seen ((t.1 : Nat) : Int) then false else tlvGo f (seen ++ [((t.1 : Nat) : Int)]) (l.drop (t.2 + n.2 + n.1))
def tlvOk (l : List UInt8) : Bool := tlvGo l.length [] l

theorem tlvGo_step {f : Nat} {seen : List Int} {b : List UInt8} {i : Nat} (h : i < b.length) : tlvGo (f + 1) seen (b.drop i) = match tagP (b.drop i) with
    | none => false
    | some t => match berP (b.drop (i + t.2)) with
      | none => false
      | some n => if b.length - (i + t.2 + n.2) < n.1 then false else if hasI seen ((t.1 : Nat) : Int) then false else tlvGo f (seen ++ [((t.1 : Nat) : Int)]) (b.drop (i + t.2 + n.2 + n.1)) := by
  rw [tlvGo]
  · simp only [List.drop_drop, List.length_drop, ← Nat.add_assoc]
  · intro he
    have := congrArg List.length he
    rw [List.length_drop] at this
    simp at this
    omega

theorem rhas_ok {k : Nat} {l : List Vl} {t : Int} (hl : l.length < 1000000000) (hk : l.length < k) : f139 k (l, ((l.length : Nat) : Int), t, ()) = some (hasI (l.map (·.1)) t, ()) := by
  have key := ix_loop (B := fun R2 p => f139_b2 k R2 p) l.length (fun i : Nat => ((l, ((l.length : Nat) : Int), t, ((i : Nat) : Int)) : f139_t2)) (fun i => some (hasI ((l.drop i).map (·.1)) t, ())) (fun i L hi hL => by
    dsimp only [f139_b2]
    by_cases hlt : i < l.length
    · rw [cond_yes (by omega), chk_decide (by omega), chk_decide (by omega), toNat_cast, at_index hlt, List.drop_eq_getElem_cons hlt, List.map_cons]
      unfold hasI
      rw [List.any_cons]
      by_cases h : l[i].1 = t
      · rw [eqI_true h, eqI_true h.symm, cond_true, Bool.true_or]
      · rw [eqI_false h, eqI_false (fun e => h e.symm), cond_false, Bool.false_or, wsucc (by omega)]
        exact hL hlt
    · rw [cond_no (by omega), List.drop_eq_nil_of_le (by omega)]
      rfl) k 0 (Nat.zero_le _) (by omega)
  rw [List.drop_zero] at key
  exact key

theorem rtlv_loop {k : Nat} {b : List UInt8} (hl : b.length < 1000000000) (hk : b.length + 10 < k) : ∀ (f i n : Nat) (out : List Vl), b.length - i ≤ f → i ≤ b.length → out.length ≤ i → f < n →
    ∃ x e p, loopP (fun R3 p => f107_b3 k R3 p) n (b, (i : Int), out) = some (x, e, p, ()) ∧ (decide (e = 0) = tlvGo f (out.map (·.1)) (b.drop i)) := by
  intro f
  induction f with
  | zero =>
    intro i n out h1 h2 h3 h4
    obtain ⟨n, rfl⟩ : ∃ m, n = m + 1 := ⟨n - 1, by omega⟩
    rw [loopP_succ]
    dsimp only [f107_b3]
    rw [cond_no (by omega), List.drop_eq_nil_of_le (by omega)]
    exact ⟨_, _, _, rfl, rfl⟩
  | succ f ih =>
    intro i n out h1 h2 h3 h4
    obtain ⟨n, rfl⟩ : ∃ m, n = m + 1 := ⟨n - 1, by omega⟩
    rw [loopP_succ]
    have ih := fun x y => ih x n y
    generalize loopP (fun R3 p => f107_b3 k R3 p) n = L at *
    dsimp only [f107_b3]
    by_cases h : i < b.length
    · rw [cond_yes (by omega), tlvGo_step h]
      obtain ⟨t, nx, e, h5, h6⟩ := rtag_ok (k := k) hl h
      rw [h5, Option.bind_some]
      dsimp only
      cases ht : tagP (b.drop i) with
      | none =>
        rw [ht] at h6
        have h6 : e ≠ 0 := h6
        rw [neI_true h6, cond_true]
        exact ⟨_, _, _, rfl, by simp [h6]⟩
      | some q =>
        rw [ht] at h6
        obtain ⟨rfl, rfl, rfl⟩ := h6
        obtain ⟨hq1, hq2⟩ := tagP_sz ht
        rw [List.length_drop] at hq2
        rw [neI_false rfl, cond_false]
        obtain ⟨u, nx, e, h7, h8⟩ := rber_ok (k := k) hl (show i + q.2 ≤ b.length by omega)
        rw [h7, Option.bind_some]
        dsimp only
        cases hu : berP (b.drop (i + q.2)) with
        | none =>
          rw [hu] at h8
          have h8 : e ≠ 0 := h8
          rw [neI_true h8, cond_true]
          exact ⟨_, _, _, rfl, by simp [h8]⟩
        | some r =>
          rw [hu] at h8
          obtain ⟨rfl, rfl, rfl⟩ := h8
          obtain ⟨hr1, hr2, hr3⟩ := berP_sz hu
          rw [List.length_drop] at hr2
          rw [neI_false rfl, cond_false, wsub (by omega) (by omega)]
          dsimp only
          by_cases h9 : b.length - (i + q.2 + r.2) < r.1
          · rw [cond_yes (by omega), if_pos h9]
            exact ⟨_, _, _, rfl, rfl⟩
          · rw [cond_no (by omega), if_neg h9, rhas_ok (by omega) (by omega), Option.bind_some]
            dsimp only
            cases hh : hasI (out.map (·.1)) ((q.1 : Nat) : Int) with
            | true =>
              rw [cond_true, if_pos rfl]
              exact ⟨_, _, _, rfl, rfl⟩
            | false =>
              rw [cond_false, if_neg (by simp), wadd (by omega), chk_decide (by omega), chk_decide (by omega), chk_decide (by omega), chk_decide (by rw [List.length_singleton]; omega), chk_decide (by rw [List.length_singleton]; omega)]
              obtain ⟨x, e, p, h10, h11⟩ := ih (i + q.2 + r.2 + r.1) (out ++ [(((q.1 : Nat) : Int), List.drop (Int.toNat ((i + q.2 + r.2 : Nat) : Int)) (List.take (Int.toNat ((i + q.2 + r.2 + r.1 : Nat) : Int)) b))]) (by omega) (by omega) (by simp; omega) (by omega)
              refine ⟨x, e, p, h10, ?_⟩
              rw [h11]
              simp
    · rw [cond_no (by omega), List.drop_eq_nil_of_le (by omega)]
      exact ⟨_, _, _, rfl, rfl⟩

theorem rtlv_ok {k : Nat} {b : List UInt8} (hl : b.length < 1000000000) (hk : b.length + 10 < k) : ∃ x e p, f107 k (b, ()) = some (x, e, p, ()) ∧ (decide (e = 0) = tlvOk b) := by
  exact rtlv_loop hl hk b.length 0 k [] (by omega) (by omega) (by simp) (by omega)

theorem tlv_loop {k : Nat} {b : List UInt8} (hl : b.length < 1000000000) (hk : b.length + 10 < k) : ∀ (f i n : Nat) (out : List Vl) (seen : List Int), b.length - i ≤ f → i ≤ b.length → out.length ≤ i → f < n →
    ∃ x e p, loopP (fun R4 p => f110_b4 k R4 p) n (b, (i : Int), out, seen) = some (x, e, p, ()) ∧ (decide (e = 0) = tlvGo f seen (b.drop i)) := by
  intro f
  induction f with
  | zero =>
    intro i n out seen h1 h2 h3 h4
    obtain ⟨n, rfl⟩ : ∃ m, n = m + 1 := ⟨n - 1, by omega⟩
    rw [loopP_succ]
    dsimp only [f110_b4]
    rw [cond_no (by omega), List.drop_eq_nil_of_le (by omega)]
    exact ⟨_, _, _, rfl, rfl⟩
  | succ f ih =>
    intro i n out seen h1 h2 h3 h4
    obtain ⟨n, rfl⟩ : ∃ m, n = m + 1 := ⟨n - 1, by omega⟩
    rw [loopP_succ]
    have ih := fun x y z => ih x n y z
    generalize loopP (fun R4 p => f110_b4 k R4 p) n = L at *
    dsimp only [f110_b4]
    by_cases h : i < b.length
    · rw [cond_yes (by omega), tlvGo_step h]
      obtain ⟨t, nx, e, h5, h6⟩ := tag_ok (k := k) hl h
      rw [h5, Option.bind_some]
      dsimp only
      cases ht : tagP (b.drop i) with
      | none =>
        rw [ht] at h6
        have h6 : e ≠ 0 := h6
        rw [neI_true h6, cond_true]
        exact ⟨_, _, _, rfl, by simp [h6]⟩
      | some q =>
        rw [ht] at h6
        obtain ⟨rfl, rfl, rfl⟩ := h6
        obtain ⟨hq1, hq2⟩ := tagP_sz ht
        rw [List.length_drop] at hq2
        rw [neI_false rfl, cond_false]
        obtain ⟨u, nx, e, h7, h8⟩ := ber_ok (k := k) hl (show i + q.2 ≤ b.length by omega) (by omega)
        rw [h7, Option.bind_some]
        dsimp only
        cases hu : berP (b.drop (i + q.2)) with
        | none =>
          rw [hu] at h8
          have h8 : e ≠ 0 := h8
          rw [neI_true h8, cond_true]
          exact ⟨_, _, _, rfl, by simp [h8]⟩
        | some r =>
          rw [hu] at h8
          obtain ⟨rfl, rfl, rfl⟩ := h8
          obtain ⟨hr1, hr2, hr3⟩ := berP_sz hu
          rw [List.length_drop] at hr2
          rw [neI_false rfl, cond_false, wsub (by omega) (by omega)]
          dsimp only
          by_cases h9 : b.length - (i + q.2 + r.2) < r.1
          · rw [cond_yes (by omega), if_pos h9]
            exact ⟨_, _, _, rfl, rfl⟩
          · rw [cond_no (by omega), if_neg h9]
            cases hh : hasI seen ((q.1 : Nat) : Int) with
            | true =>
              rw [cond_true, if_pos rfl]
              exact ⟨_, _, _, rfl, rfl⟩
            | false =>
              rw [cond_false, if_neg (by simp), wadd (by omega), chk_decide (by omega), chk_decide (by omega), chk_decide (by omega), chk_decide (by rw [List.length_singleton]; omega), chk_decide (by rw [List.length_singleton]; omega)]
              have hp : putI seen ((q.1 : Nat) : Int) = seen ++ [((q.1 : Nat) : Int)] := by unfold putI; rw [hh]; rfl
              rw [hp]
              obtain ⟨x, e, p, h10, h11⟩ := ih (i + q.2 + r.2 + r.1) (out ++ [(((q.1 : Nat) : Int), List.drop (Int.toNat ((i + q.2 + r.2 : Nat) : Int)) (List.take (Int.toNat ((i + q.2 + r.2 + r.1 : Nat) : Int)) b))]) (seen ++ [((q.1 : Nat) : Int)]) (by omega) (by omega) (by simp; omega) (by omega)
              exact ⟨x, e, p, h10, h11⟩
    · rw [cond_no (by omega), List.drop_eq_nil_of_le (by omega)]
      exact ⟨_, _, _, rfl, rfl⟩

theorem tlv_ok {k : Nat} {b : List UInt8} (hl : b.length < 1000000000) (hk : b.length + 10 < k) : ∃ x e p, f110 k (b, ()) = some (x, e, p, ()) ∧ (decide (e = 0) = tlvOk b) :=
  tlv_loop hl hk b.length 0 k [] [] (by omega) (by omega) (by simp) (by omega)

end Go.Ab
