import Derived.Test.YtnifcbofkodjeaaReAbQh
import Derived.Test.YtnifcbofkodjeaaReAbT
set_option linter.unusedVariables false
namespace Go.Ab

theorem pigeon : ∀ {a b : List Int}, a.Nodup → (∀ x ∈ a, x ∈ b) → a.length ≤ b.length
  | [], _, _, _ => Nat.zero_le _
  | x :: a, b, hn, h => by
    have hx := h x List.mem_cons_self
    obtain ⟨h1, h2⟩ := List.nodup_cons.1 hn
    have := pigeon (b := b.erase x) h2 (fun y hy => (List.mem_erase_of_ne (fun e => h1 (by rw [← e]; exact hy))).2 (h y (List.mem_cons_of_mem _ hy)))
    rw [List.length_erase_of_mem hx] at this
    have := List.length_pos_of_mem hx
    rw [List.length_cons]
    omega

/-- What is built holds fields of what was asked, in order. -/
def Inv (m o : Ms) : Prop := o.2.Pairwise (fun a b => a.1 < b.1) ∧ ∀ x ∈ o.2, x ∈ m.2
theorem inv_len {m o : Ms} (h : Inv m o) : o.2.length ≤ m.2.length := by
  have h1 : (o.2.map (·.1)).Nodup := by
    rw [List.nodup_iff_pairwise_ne, List.pairwise_map]
    exact h.1.imp (fun hab => by omega)
  have := pigeon (b := m.2.map (·.1)) h1 (fun x hx => by
    obtain ⟨v, hv, rfl⟩ := List.mem_map.1 hx
    exact List.mem_map.2 ⟨v, h.2 v hv, rfl⟩)
  simpa using this
theorem step_inv {m o : Ms} (h : Inv m o) (no : Int) : Inv m (stepF m o no) := by
  unfold stepF
  cases hg : getF m.2 no with
  | none => exact h
  | some t =>
    refine ⟨insF_sorted (h.1.sublist List.filter_sublist) (fun x hx => by simpa using (List.mem_filter.1 hx).2), fun x hx => ?_⟩
    rcases (insF_mem no t _ x).1 hx with e | e
    · rw [e]; exact getF_mem hg
    · exact h.2 x (List.mem_filter.1 e).1

theorem build_loop2 (k : Nat) (s0 s1 : Int) (s2 : List (Int × Int × Int × Int × Int)) (s3 : List (List UInt8 × List UInt8)) (s4 : List (Int × Int × Int × List UInt8 × List (List UInt8 × List UInt8))) (echo : List Int) (codes : List Vl) (m : Ms) (f1 f2 : Int) (jk : List UInt8)
    (h1 : echo.length < 17592186044416) (h2 : codes.length < 5864062014700) (h3 : m.2.length < 5864062014690) (hk : echo.length + codes.length + m.2.length + 10 < k) : ∀ (d i n : Nat) (o : Ms), echo.length = i + d → d < n → Inv m o →
    loopP (fun R p => f20_b6 k R p) n (echo, (echo.length : Int), (i : Int), s0, s1, s2, s3, s4, echo, codes, m.1, m.2, f1, f2, jk, o) = some (endF codes f1 ((echo.drop i).foldl (stepF m) o), true, ()) := by
  intro d
  induction d with
  | zero =>
    intro i n o hi hn ho
    have ho := inv_len ho
    obtain ⟨n, rfl⟩ : ∃ m, n = m + 1 := ⟨n - 1, by omega⟩
    rw [loopP_succ]
    dsimp only [f20_b6]
    rw [cond_no (by omega), List.drop_eq_nil_of_le (by omega), code_ok (by dsimp only; omega) (by dsimp only; omega), Option.bind_some]
    dsimp only
    rw [with_ok (by omega) (by omega), Option.bind_some]
    rfl
  | succ d ih =>
    intro i n o hi hn ho
    obtain ⟨n, rfl⟩ : ∃ m, n = m + 1 := ⟨n - 1, by omega⟩
    rw [loopP_succ]
    have h : i < echo.length := by omega
    have ih := fun x => ih (i + 1) n x
    generalize loopP (fun R p => f20_b6 k R p) n = L at *
    have hol := inv_len ho
    dsimp only [f20_b6]
    rw [cond_yes (by omega), chk_decide (by omega), chk_decide (by omega), toNat_cast, at_index h, wsucc (by omega), show (m.1, m.2) = m from rfl, get_ok (by omega) (by omega), Option.bind_some, List.drop_eq_getElem_cons h, List.foldl_cons]
    have ih := ih (stepF m o echo[i]) (by omega) (by omega) (step_inv ho _)
    rw [← ih]
    unfold stepF
    cases hg : getF m.2 echo[i] with
    | none => rfl
    | some t =>
      dsimp only [found]
      rw [cond_true, with_ok (by omega) (by omega), Option.bind_some]

theorem build_ok2 {k : Nat} {s : Sd} {m : Ms} {f : Int × Int} (h1 : s.2.2.1.length < 17592186044416) (h2 : s.2.2.2.length < 5864062014700) (h3 : m.2.length < 5864062014690) (hk : s.2.2.1.length + s.2.2.2.length + m.2.length + m.1.length + 10 < k) : f20 k (s, m, f, ()) = some (buildF s m f.1) := by
  obtain ⟨⟨s0, s1, s2⟩, ⟨s3, s4⟩, echo, codes⟩ := s
  obtain ⟨m1, m2⟩ := m
  obtain ⟨f1, f2⟩ := f
  dsimp only at h1 h2 h3 hk
  show f20_m k (f20_l6 k) _ = _
  dsimp only [f20_m]
  rw [response_ok (by omega), Option.bind_some]
  unfold buildF
  dsimp only
  cases hr : reqB m1 with
  | false => rfl
  | true =>
    have := build_loop2 k s0 s1 s2 s3 s4 echo codes (m1, m2) f1 f2 [] h1 h2 h3 (by dsimp only; omega) echo.length 0 k (respF m1, []) (by omega) (by omega) ⟨List.Pairwise.nil, fun x hx => by cases hx⟩
    exact this

/-! ### What is found in what was built -/
theorem getF_app (a b : List Vl) (n : Int) : getF (a ++ b) n = match getF a n with | some t => some t | none => getF b n := by
  unfold getF
  rw [List.find?_append]
  cases a.find? (fun v => v.1 == n) <;> rfl
theorem getF_wo (l : List Vl) (no n : Int) : getF (woF l no) n = if n = no then none else getF l n := by
  induction l with
  | nil => split <;> rfl
  | cons v l ih =>
    unfold woF at ih ⊢
    rw [List.filter_cons]
    unfold getF at ih ⊢
    by_cases h1 : v.1 = no
    · rw [if_neg (by simp [h1]), ih]
      split
      · rfl
      · rename_i h2
        rw [List.find?_cons, show (v.1 == n) = false from by rw [h1]; simpa using fun e => h2 e.symm]
    · rw [if_pos (by simpa using h1), List.find?_cons, List.find?_cons]
      by_cases h2 : v.1 = n
      · rw [show (v.1 == n) = true by simpa using h2, if_neg (fun e => h1 (h2.trans e))]
      · rw [show (v.1 == n) = false by simpa using h2]
        exact ih
theorem getF_ins (l : List Vl) (no : Int) (t : List UInt8) (n : Int) : getF (insF (woF l no) no t) n = if n = no then some t else getF l n := by
  have one : ∀ (r : List Vl), getF ((no, t) :: r) n = if n = no then some t else getF r n := by
    intro r
    unfold getF
    rw [List.find?_cons]
    by_cases h : n = no
    · rw [if_pos h, show ((no, t).1 == n) = true by simp [h]]
      rfl
    · rw [if_neg h, show ((no, t).1 == n) = false by simpa using fun e => h e.symm]
  have hw := getF_wo l no n
  unfold insF
  generalize woF l no = z at *
  have key : ∀ a b : List Vl, getF (a ++ b) n = getF z n → getF (a ++ (no, t) :: b) n = if n = no then some t else getF l n := by
    intro a b h
    rw [getF_app] at h ⊢
    rw [one]
    rw [hw] at h
    by_cases e : n = no
    · rw [if_pos e] at h ⊢
      cases ha : getF a n with
      | none => simp [e]
      | some u => rw [ha] at h; cases h
    · rw [if_neg e] at h ⊢
      rw [if_neg e]
      exact h
  split
  · exact key _ _ (by rw [List.take_append_drop])
  · exact key z [] (by rw [List.append_nil])

theorem step_get {m o : Ms} (h : ∀ n, getF o.2 n = none ∨ getF o.2 n = getF m.2 n) (no n : Int) : getF (stepF m o no).2 n = if n = no then getF m.2 n else getF o.2 n := by
  unfold stepF
  cases hg : getF m.2 no with
  | none =>
    by_cases e : n = no
    · rw [if_pos e, e, hg]
      rcases h no with h | h
      · exact h
      · rw [h, hg]
    · rw [if_neg e]
  | some t =>
    show getF (insF (woF o.2 no) no t) n = _
    rw [getF_ins]
    by_cases e : n = no
    · rw [if_pos e, if_pos e, e, hg]
    · rw [if_neg e, if_neg e]
theorem fold_get {m : Ms} : ∀ (l : List Int) (o : Ms), (∀ n, getF o.2 n = none ∨ getF o.2 n = getF m.2 n) → ∀ n, getF (l.foldl (stepF m) o).2 n = if hasI l n = true then getF m.2 n else getF o.2 n
  | [], o, h, n => by
    rw [if_neg (by simp [hasI])]
    rfl
  | y :: l, o, h, n => by
    rw [List.foldl_cons, fold_get l _ (fun n' => by
      rw [step_get h]
      split
      · exact .inr rfl
      · exact h n'), step_get h]
    have hc : hasI (y :: l) n = ((n == y) || hasI l n) := by unfold hasI; rw [List.any_cons]
    rw [hc]
    by_cases h1 : hasI l n = true
    · rw [if_pos h1, if_pos (by rw [h1, Bool.or_true])]
    · rw [if_neg h1]
      by_cases h2 : n = y
      · rw [if_pos h2, if_pos (by simp [h2])]
      · rw [if_neg h2, if_neg (by simp [h2, h1])]

theorem build_get {s : Sd} {m : Ms} (hr : reqB m.1 = true) (e n : Int) : getF (buildF s m e).1.2 n = if n = 39 then some (codeF s.2.2.2 e) else if hasI s.2.2.1 n = true then getF m.2 n else none := by
  unfold buildF
  rw [if_pos hr]
  show getF (insF (woF _ 39) 39 _) n = _
  rw [getF_ins, fold_get _ _ (fun n' => .inl rfl)]
  rfl

theorem echo_loop4 (k : Nat) (s : Sd) (m B : Ms) (f1 f2 : Int) (h1 : s.2.2.1.length < 100000) (h2 : s.2.2.2.length < 100000) (h3 : m.2.length < 100000) (h4 : B.2.length < 1000000) (hk : 2000000 < k)
    (hB : ∀ n, getF B.2 n = if n = 39 then some (codeF s.2.2.2 f1) else if hasI s.2.2.1 n = true then getF m.2 n else none) : ∀ (d i n : Nat), 129 = i + d → d < n →
    loopP (fun R5 p => f4_b5 k R5 p) n ((i : Int), s.1.1, s.1.2.1, s.1.2.2, s.2.1.1, s.2.1.2, s.2.2.1, s.2.2.2, m.1, m.2, f1, f2, B) = some (true, ()) := by
  intro d
  induction d with
  | zero =>
    intro i n hi hn
    obtain ⟨n, rfl⟩ : ∃ m, n = m + 1 := ⟨n - 1, by omega⟩
    rw [loopP_succ]
    dsimp only [f4_b5]
    rw [cond_no (by omega)]
  | succ d ih =>
    intro i n hi hn
    obtain ⟨n, rfl⟩ : ∃ m, n = m + 1 := ⟨n - 1, by omega⟩
    rw [loopP_succ]
    have ih := ih (i + 1) n (by omega) (by omega)
    generalize loopP (fun R5 p => f4_b5 k R5 p) n = L at *
    dsimp only [f4_b5]
    rw [cond_yes (by omega), get_ok (by omega) (by omega), Option.bind_some, show (m.1, m.2) = m from rfl, get_ok (by omega) (by omega), Option.bind_some, wsucc (by omega), hB]
    by_cases h39 : (i : Int) = 39
    · rw [eqI_true h39, cond_true, code_ok (by dsimp only; omega) (by dsimp only; omega), Option.bind_some, if_pos h39]
      dsimp only [found]
      rw [show (!((true : Bool) == true)) = false from rfl, cond_false, cond_true, show (codeF s.2.2.2 f1 == codeF s.2.2.2 f1) = true by simp, Bool.not_true, cond_false]
      exact ih
    · rw [eqI_false h39, cond_false, if_neg h39, in_ok (by omega) (by omega), Option.bind_some]
      cases hg : getF m.2 (i : Int) with
      | none =>
        rw [show (if hasI s.2.2.1 (i : Int) = true then none else none : Option (List UInt8)) = none by split <;> rfl]
        dsimp only [found]
        rw [cond_false, show (!((false : Bool) == false)) = false from rfl, cond_false, cond_false]
        exact ih
      | some t =>
        dsimp only [found]
        rw [cond_true]
        cases hh : hasI s.2.2.1 (i : Int) with
        | true =>
          rw [if_pos rfl]
          dsimp only [found]
          rw [show (!((true : Bool) == true)) = false from rfl, cond_false, cond_true, show (t == t) = true by simp, Bool.not_true, cond_false]
          exact ih
        | false =>
          rw [if_neg (by decide)]
          dsimp only [found]
          rw [show (!((false : Bool) == false)) = false from rfl, cond_false, cond_false]
          exact ih

def law4 : List Ty := law3
theorem pure4 (x : Dens law4) (h : WfAll law4 x) (hz : SzAll law4 x) : ∃ k, f4 k x = some (true, ()) := by
  obtain ⟨s, m, f, u⟩ := (x : Sd × Ms × (Int × Int) × Unit)
  have z1 : s.2.2.1.length * 8 ≤ 140737488351232 := hz.1.2.2.1
  have z2 : s.2.2.2.length * 24 ≤ 140737488351232 := hz.1.2.2.2
  have z3 : m.2.length * 24 ≤ 140737488351232 := hz.2.1.2
  refine ⟨s.2.2.1.length + s.2.2.2.length + m.2.length + m.1.length + 2000000 + 300, ?_⟩
  generalize hN : s.2.2.1.length + s.2.2.2.length + m.2.length + m.1.length + 2000000 = N
  show f4_m (N + 300) (f4_l5 (N + 300)) (s, m, f, ()) = _
  dsimp only [f4_m]
  rw [build_ok2 (by omega) (by omega) (by omega) (by omega), Option.bind_some, awake23, Option.bind_some]
  dsimp only
  rw [Bool.not_true, cond_false]
  obtain ⟨b, hb, hb'⟩ := great_ok2 (k := N + 300) (s := s) (by omega)
  rw [hb, Option.bind_some]
  dsimp only
  cases b with
  | true => rw [cond_true, Option.bind_some]
  | false =>
    obtain ⟨g1, g2, g3, g4⟩ := hb' rfl
    rw [cond_false]
    obtain ⟨c, hc, hc'⟩ := mgreat_ok2 (k := N + 300) (m := m) (by omega)
    rw [hc, Option.bind_some]
    dsimp only
    cases c with
    | true => rw [cond_true, Option.bind_some]
    | false =>
      obtain ⟨g5, g6, g7⟩ := hc' rfl
      rw [cond_false]
      obtain ⟨d, hd, hd'⟩ := rside_ok (k := N + 300) (s := s) (by omega) (by omega) (by omega) (fun x hx => by have := g4 x hx; omega) (by omega)
      rw [hd, Option.bind_some]
      dsimp only
      cases d with
      | false => rw [Bool.not_false, cond_true, Option.bind_some]
      | true =>
        rw [Bool.not_true, cond_false]
        cases hr : reqB m.1 with
        | false =>
          have hbf : buildF s m f.1 = (([], []), false, ()) := by unfold buildF; rw [hr]; rfl
          rw [hbf]
          dsimp only
          rw [Bool.not_false, cond_true, Option.bind_some]
        | true =>
          have hok : (buildF s m f.1).2.1 = true := by unfold buildF; rw [if_pos hr]
          have hlen := build_len s m f.1
          rw [hok, Bool.not_true, cond_false]
          have := echo_loop4 (N + 300) s m (buildF s m f.1).1 f.1 f.2 (by omega) (by omega) (by omega) (by omega) (by omega) (fun n => build_get hr f.1 n) 127 2 (N + 300) (by omega) (by omega)
          exact this

end Go.Ab
