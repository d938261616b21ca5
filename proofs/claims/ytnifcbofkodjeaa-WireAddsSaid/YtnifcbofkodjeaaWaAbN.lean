/- A region whose order is open: any order that its edges allow comes to what the text's order comes to. -/
import Derived.Test.YtnifcbofkodjeaaWaAbM
set_option linter.unusedVariables false
set_option linter.unusedSimpArgs false
namespace Go.Ab
open Go.RowKit

variable {P : Program} {T : Nat → Option TI} {G : Env} {ops : Array Oper} {nt : Nat}

theorem trace_get : ∀ {l : List Oper} {f : Nat → Option Lv} {rs : List (Rec × St)}, Trace P ops nt l f rs → ∀ {i : Nat} {o : Oper}, l[i]? = some o →
    ∃ p st1, rs[i]? = some p ∧ look st1 = after f (rs.take i) ∧ RecOK o p ∧ Does P ops nt o p.1.rd st1 p.2
  | [], _, _, _, i, o, h => by cases h
  | o' :: l, f, _, ⟨p, q, st1, hrs, h1, h2, h3, h4⟩, i, o, h => by
    subst hrs
    cases i with
    | zero =>
      simp at h
      subst h
      exact ⟨p, st1, rfl, h1, h2, h3⟩
    | succ i =>
      obtain ⟨p', st2, h5, h6, h7⟩ := trace_get h4 (i := i) (by simpa using h)
      exact ⟨p', st2, by simpa using h5, h6, h7⟩

theorem trace_len : ∀ {l : List Oper} {f : Nat → Option Lv} {rs : List (Rec × St)}, Trace P ops nt l f rs → rs.length = l.length
  | [], _, _, h => by
    have h : _ = [] := h
    subst h
    rfl
  | o' :: l, f, _, ⟨p, q, st1, hrs, _, _, _, h4⟩ => by
    subst hrs
    rw [List.length_cons, List.length_cons, trace_len h4]

/-- The state when some are done. -/
def mixed (D : Nat → Bool) : Nat → List (Rec × St) → (Nat → Option Lv) → (Nat → Option Lv)
  | _, [], f => f
  | j, p :: r, f => mixed D (j + 1) r (cond (D j) (over p.2 f) f)

theorem over_none {eff : St} {f : Nat → Option Lv} {l : Nat} (h : look eff l = none) : over eff f l = f l := by
  unfold over
  rw [h]
theorem over_some {eff : St} {f : Nat → Option Lv} {l : Nat} {v : Lv} (h : look eff l = some v) : over eff f l = some v := by
  unfold over
  rw [h]
theorem over_congr {eff : St} {f g : Nat → Option Lv} {l : Nat} (h : f l = g l) : over eff f l = over eff g l := by
  unfold over
  rw [h]

theorem mixed_congr (D : Nat → Bool) {l : Nat} : ∀ (rs : List (Rec × St)) (j : Nat) {f g : Nat → Option Lv}, f l = g l → mixed D j rs f l = mixed D j rs g l
  | [], _, _, _, h => h
  | p :: r, j, f, g, h => by
    refine mixed_congr D r (j + 1) ?_
    cases D j with
    | true => exact over_congr h
    | false => exact h

theorem mixed_none (D : Nat → Bool) {l : Nat} : ∀ (rs : List (Rec × St)) (j : Nat) {f : Nat → Option Lv}, (∀ i p, rs[i]? = some p → D (j + i) = true → look p.2 l = none) → mixed D j rs f l = f l
  | [], _, _, _ => rfl
  | p :: r, j, f, h => by
    show mixed D (j + 1) r _ l = _
    rw [mixed_none D r (j + 1) (fun i q hq hD => h (i + 1) q (by simpa using hq) (by rw [show j + (i + 1) = j + 1 + i by omega]; exact hD))]
    cases hD : D j with
    | true => exact over_none (h 0 p rfl hD)
    | false => rfl

theorem mixed_upto (D : Nat → Bool) {l : Nat} : ∀ (n : Nat) (rs : List (Rec × St)) (j : Nat) {f g : Nat → Option Lv}, f l = g l → (∀ i p, i < n → rs[i]? = some p → D (j + i) = false → look p.2 l = none) → (∀ i p, n ≤ i → rs[i]? = some p → D (j + i) = true → look p.2 l = none) →
    mixed D j rs f l = after g (rs.take n) l
  | 0, rs, j, f, g, h, _, h2 => by
    rw [mixed_none D rs j (fun i p hp hD => h2 i p (Nat.zero_le _) hp hD), h]
    rfl
  | n + 1, [], j, f, g, h, _, _ => h
  | n + 1, p :: r, j, f, g, h, h1, h2 => by
    show mixed D (j + 1) r _ l = after (over p.2 g) (r.take n) l
    refine mixed_upto D n r (j + 1) ?_ (fun i q hi hq hD => h1 (i + 1) q (by omega) (by simpa using hq) (by rw [show j + (i + 1) = j + 1 + i by omega]; exact hD))
      (fun i q hi hq hD => h2 (i + 1) q (by omega) (by simpa using hq) (by rw [show j + (i + 1) = j + 1 + i by omega]; exact hD))
    cases hD : D j with
    | true => exact over_congr h
    | false =>
      have := h1 0 p (Nat.zero_lt_succ _) rfl hD
      rw [over_none this]
      exact h

theorem mixed_more (D : Nat → Bool) {l : Nat} (m : Nat) (hm : D m = false) {p : Rec × St} : ∀ (rs : List (Rec × St)) (j : Nat) {f : Nat → Option Lv} {i : Nat}, m = j + i → rs[i]? = some p →
    (∀ i' q, i < i' → rs[i']? = some q → D (j + i') = true → look q.2 l = none ∨ look p.2 l = none) → mixed (fun x => D x || x == m) j rs f l = over p.2 (mixed D j rs f) l
  | [], _, _, _, _, h, _ => by cases h
  | q :: r, j, f, i, hj, hp, h => by
    show mixed _ (j + 1) r _ l = over p.2 (mixed D (j + 1) r (cond (D j) (over q.2 f) f)) l
    cases i with
    | zero =>
      have hj : m = j := hj
      subst hj
      have hq : q = p := by simpa using hp
      subst hq
      have same : ∀ (r : List (Rec × St)) (b : Nat) (g : Nat → Option Lv), m < b → mixed (fun x => D x || x == m) b r g = mixed D b r g := by
        intro r
        induction r with
        | nil => intro b g _; rfl
        | cons x r ih =>
          intro b g hb
          show mixed _ (b + 1) r _ = mixed D (b + 1) r _
          rw [ih (b + 1) _ (by omega)]
          have : (b == m) = false := by simpa using (by omega : b ≠ m)
          simp only [this, Bool.or_false]
      rw [same r (m + 1) _ (Nat.lt_succ_self m)]
      simp only [hm, Bool.false_or, beq_self_eq_true, cond_true, cond_false]
      cases hl : look q.2 l with
      | none =>
        rw [over_none hl]
        exact mixed_congr D r (m + 1) (over_none hl)
      | some v =>
        rw [over_some hl, mixed_none D r (m + 1) (fun i' z hz hD => by
          rcases h (i' + 1) z (Nat.zero_lt_succ _) (by simpa using hz) (by rw [show m + (i' + 1) = m + 1 + i' by omega]; exact hD) with h1 | h1
          · exact h1
          · rw [hl] at h1; cases h1)]
        exact over_some hl
    | succ i =>
      have hne : (j == m) = false := by simpa using (by omega : j ≠ m)
      have : (D j || j == m) = D j := by rw [hne, Bool.or_false]
      simp only [this]
      exact mixed_more D m hm r (j + 1) (i := i) (by omega) (by simpa using hp) (fun i' z hi hz hD => h (i' + 1) z (by omega) (by simpa using hz) (by rw [show j + (i' + 1) = j + 1 + i' by omega]; exact hD))

theorem mixed_some (D : Nat → Bool) {l : Nat} {v : Lv} : ∀ (rs : List (Rec × St)) (j : Nat) {f : Nat → Option Lv}, mixed D j rs f l = some v → f l = some v ∨ ∃ i p, rs[i]? = some p ∧ D (j + i) = true ∧ look p.2 l = some v
  | [], _, _, h => .inl h
  | p :: r, j, f, h => by
    rcases mixed_some D r (j + 1) h with h1 | ⟨i, q, h1, h2, h3⟩
    · cases hD : D j with
      | true =>
        rw [hD] at h1
        cases hl : look p.2 l with
        | none =>
          rw [cond_true, over_none hl] at h1
          exact .inl h1
        | some u =>
          rw [cond_true, over_some hl] at h1
          exact .inr ⟨0, p, rfl, hD, by rw [hl]; exact h1⟩
      | false =>
        rw [hD] at h1
        exact .inl h1
    · exact .inr ⟨i + 1, q, by simpa using h1, by rw [show j + (i + 1) = j + 1 + i by omega]; exact h2, h3⟩

theorem mixed_all (D : Nat → Bool) : ∀ (rs : List (Rec × St)) (j : Nat) {f : Nat → Option Lv}, (∀ i, i < rs.length → D (j + i) = true) → mixed D j rs f = after f rs
  | [], _, _, _ => rfl
  | p :: r, j, f, h => by
    show mixed D (j + 1) r (cond (D j) (over p.2 f) f) = after (over p.2 f) r
    rw [show D j = true from h 0 (Nat.zero_lt_succ _)]
    exact mixed_all D r (j + 1) (fun i hi => by rw [show j + 1 + i = j + (i + 1) by omega]; exact h (i + 1) (by simpa using hi))

theorem mixed_nil (D : Nat → Bool) : ∀ (rs : List (Rec × St)) (j : Nat) {f : Nat → Option Lv}, (∀ i, i < rs.length → D (j + i) = false) → mixed D j rs f = f
  | [], _, _, _ => rfl
  | p :: r, j, f, h => by
    show mixed D (j + 1) r (cond (D j) (over p.2 f) f) = f
    rw [show D j = false from h 0 (Nat.zero_lt_succ _)]
    exact mixed_nil D r (j + 1) (fun i hi => by rw [show j + 1 + i = j + (i + 1) by omega]; exact h (i + 1) (by simpa using hi))

/-! ### What the checks say -/
theorem meets_false {a b : List Nat} (h : meets a b = false) : ∀ x, x ∈ a → x ∉ b := by
  intro x ha hb
  have : meets a b = true := List.any_eq_true.2 ⟨x, ha, List.any_eq_true.2 ⟨x, hb, Nat.beq_refl x⟩⟩
  rw [h] at this
  cases this

theorem has_mem {l : List Nat} {n : Nat} : has l n = true → n ∈ l := by
  intro h
  obtain ⟨x, hx, he⟩ := List.any_eq_true.1 h
  have := nbeq he
  subst this
  exact hx
theorem mem_has {l : List Nat} {n : Nat} (h : n ∈ l) : has l n = true := List.any_eq_true.2 ⟨n, h, Nat.beq_refl n⟩

theorem rowOk_get {as : List (List Nat)} {a : Rec} {i : Nat} : ∀ {l : List Rec} {j : Nat}, rowOk as a i l j = true → ∀ {m : Nat} {b : Rec}, l[m]? = some b → pairOk as a i b (j + m) = true
  | [], _, _, m, b, h => by cases h
  | c :: l, j, h, m, b, hb => by
    obtain ⟨h1, h2⟩ := band h
    cases m with
    | zero =>
      simp at hb
      subst hb
      exact h1
    | succ m =>
      rw [show j + (m + 1) = j + 1 + m by omega]
      exact rowOk_get h2 (by simpa using hb)

theorem recsOk_get {as : List (List Nat)} : ∀ {l : List Rec} {j : Nat}, recsOk as l j = true → ∀ {m n : Nat} {a b : Rec}, m < n → l[m]? = some a → l[n]? = some b → pairOk as a (j + m) b (j + n) = true
  | [], _, _, m, n, a, b, _, h, _ => by cases h
  | c :: l, j, h, m, n, a, b, hmn, ha, hb => by
    obtain ⟨h1, h2⟩ := band h
    cases n with
    | zero => omega
    | succ n =>
      cases m with
      | zero =>
        simp at ha
        subst ha
        rw [show j + (n + 1) = j + 1 + n by omega]
        exact rowOk_get h1 (by simpa using hb)
      | succ m =>
        rw [show j + (n + 1) = j + 1 + n by omega, show j + (m + 1) = j + 1 + m by omega]
        exact recsOk_get h2 (by omega) (by simpa using ha) (by simpa using hb)

theorem madeOk_get {st : St} : ∀ {l : List Rec}, madeOk st l = true → ∀ {m n : Nat} {a : Rec}, l[m]? = some a → a.made = some n → fresh st n = true
  | [], _, m, n, a, h, _ => by cases h
  | c :: l, h, m, n, a, ha, hn => by
    obtain ⟨h1, h2⟩ := band h
    cases m with
    | zero =>
      simp at ha
      subst ha
      rw [hn] at h1
      exact h1
    | succ m => exact madeOk_get h2 (by simpa using ha) hn

theorem edgesOk_get : ∀ {l : List Oper} {j : Nat}, edgesOk l j = true → ∀ {m : Nat} {o : Oper}, l[m]? = some o → ∀ e ∈ o.after.toList, Region.binds .any e = true → e.on < j + m
  | [], _, _, m, o, h, _, _, _ => by cases h
  | c :: l, j, h, m, o, ho, e, he, hb => by
    obtain ⟨h1, h2⟩ := band h
    cases m with
    | zero =>
      simp at ho
      subst ho
      have := List.all_eq_true.1 h1 e he
      rw [hb] at this
      exact blt_lt this
    | succ m =>
      rw [show j + (m + 1) = j + 1 + m by omega]
      exact edgesOk_get h2 (by simpa using ho) e he hb

/-- The ancestors: those of an edge's end, and the end. -/
theorem ancs_pre : ∀ (l : List Oper) (as : List (List Nat)), ∃ q, ancs l as = as ++ q
  | [], as => ⟨[], (List.append_nil _).symm⟩
  | o :: l, as => by
    obtain ⟨q, h⟩ := ancs_pre l (as ++ [ancOf as o])
    exact ⟨_, by show ancs l _ = _; rw [h, List.append_assoc]⟩

theorem ancs_get : ∀ {l : List Oper} {as : List (List Nat)} {m : Nat} {o : Oper}, l[m]? = some o → ∀ x, x ∈ (ancs l as).getD (as.length + m) [] → ∃ e ∈ o.after.toList, Region.binds .any e = true ∧ (x = e.on ∨ x ∈ (ancs l as).getD e.on [])
  | [], _, m, o, h, _, _ => by cases h
  | c :: l, as, m, o, ho, x, hx => by
    cases m with
    | zero =>
      simp at ho
      subst ho
      obtain ⟨q, hq⟩ := ancs_pre l (as ++ [ancOf as c])
      have hx : x ∈ (ancs l (as ++ [ancOf as c])).getD (as.length + 0) [] := hx
      rw [hq, Nat.add_zero, List.getD_eq_getElem?_getD, List.append_assoc, List.getElem?_append_right (Nat.le_refl _), Nat.sub_self] at hx
      have hx : x ∈ ancOf as c := hx
      obtain ⟨e, he, hxe⟩ := List.mem_flatMap.1 hx
      cases hb : Region.binds .any e with
      | false => rw [hb] at hxe; cases hxe
      | true =>
        rw [hb] at hxe
        refine ⟨e, he, hb, ?_⟩
        cases hxe with
        | head => exact .inl rfl
        | tail _ hxe =>
          refine .inr ?_
          show x ∈ (ancs l (as ++ [ancOf as c])).getD e.on []
          rw [hq, List.getD_eq_getElem?_getD]
          rw [List.getD_eq_getElem?_getD] at hxe
          rcases Nat.lt_or_ge e.on as.length with hlt | hge
          · rw [List.append_assoc, List.getElem?_append_left hlt]
            exact hxe
          · rw [List.getElem?_eq_none hge] at hxe
            cases hxe
    | succ m =>
      have := ancs_get (l := l) (as := as ++ [ancOf as c]) (m := m) (o := o) (by simpa using ho) x (by
        rw [List.length_append, List.length_singleton, show as.length + 1 + m = as.length + (m + 1) by omega]
        exact hx)
      exact this

/-! ### Any order -/
theorem mem_ready {listed : Array Bool} {i : Nat} (h : i ∈ Region.ready .any ops listed) : ∃ o, ops[i]? = some o ∧ listed.getD i true = false ∧ ∀ e ∈ o.after.toList, Region.binds .any e = true → listed.getD e.on false = true := by
  unfold Region.ready at h
  obtain ⟨hr, hc⟩ := List.mem_filter.1 h
  obtain ⟨h1, h2⟩ := band hc
  have hlt : i < ops.size := List.mem_range.1 hr
  refine ⟨ops[i], Array.getElem?_eq_getElem hlt, by simpa using h1, fun e he hb => ?_⟩
  rw [Array.getElem?_eq_getElem hlt] at h2
  simp only [Option.map_some, Option.getD_some] at h2
  have := Array.all_eq_true'.1 h2 e (Array.mem_toList_iff.1 he)
  rw [hb] at this
  simpa using this

theorem ready_of {listed : Array Bool} {i : Nat} {o : Oper} (ho : ops[i]? = some o) (h1 : listed.getD i true = false) (h2 : ∀ e ∈ o.after.toList, Region.binds .any e = true → listed.getD e.on false = true) : i ∈ Region.ready .any ops listed := by
  have hlt : i < ops.size := (Array.getElem?_eq_some_iff.1 ho).1
  unfold Region.ready
  refine List.mem_filter.2 ⟨List.mem_range.2 hlt, ?_⟩
  rw [ho, h1]
  simp only [Option.map_some, Option.getD_some, Bool.not_false, Bool.true_and]
  refine Array.all_eq_true'.2 fun e he => ?_
  cases hb : Region.binds .any e with
  | false => rfl
  | true => simpa using h2 e (Array.mem_toList_iff.2 he) hb

theorem any_sound {f : Nat → Option Lv} {rs : List (Rec × St)} {st : St} (hf : look st = f) (ht : Trace P ops nt ops.toList f rs) (hok : recsOk (ancs ops.toList []) (rs.map (·.1)) 0 = true) (hmk : madeOk st (rs.map (·.1)) = true) (hed : edgesOk ops.toList 0 = true)
    {S0 : Nat → Prop} {w0 : World} {Q : Exit → Act → World → Prop} (hQ : ∀ μ a w, Sim S0 w0 nt μ (after f rs) a w → Q .normal a w) : ∀ (fuel : Nat) (listed : Array Bool) (μ : Nat → Value) (a : Act) (w : World), listed.size = ops.size → listed.toList.count false ≤ fuel →
      (∀ j, listed.getD j false = true → ∀ x ∈ (ancs ops.toList []).getD j [], listed.getD x false = true) → Sim S0 w0 nt μ (mixed (fun j => listed.getD j false) 0 rs f) a w → wpAny P .any ops Q fuel listed a w := by
  have hlen := trace_len ht
  have hlen : rs.length = ops.size := by rw [hlen, Array.length_toList]
  -- all that is needed at the end
  have done : ∀ (listed : Array Bool), listed.size = ops.size → (∀ j, j < ops.size → listed.getD j false = true) → ∀ μ a w, Sim S0 w0 nt μ (mixed (fun j => listed.getD j false) 0 rs f) a w → Q .normal a w := by
    intro listed hsz hall μ a w hsim
    rw [mixed_all _ rs 0 (fun i hi => by rw [Nat.zero_add]; exact hall i (by omega))] at hsim
    exact hQ μ a w hsim
  have noready : ∀ (listed : Array Bool), listed.size = ops.size → Region.ready .any ops listed = [] → ∀ j, j < ops.size → listed.getD j false = true := by
    intro listed hsz hr j
    induction j using Nat.strongRecOn with
    | ind j ih =>
      intro hj
      cases hb : listed.getD j false with
      | true => rfl
      | false =>
        exfalso
        have hlt : j < listed.size := by omega
        have hbt : listed.getD j true = false := by
          simp only [Array.getD, hlt, dite_true] at hb ⊢
          exact hb
        have : j ∈ Region.ready .any ops listed := ready_of (Array.getElem?_eq_getElem hj) hbt (fun e he hbe => by
          have h1 := edgesOk_get hed (m := j) (o := ops[j]) (by rw [Array.getElem?_toList, Array.getElem?_eq_getElem hj]) e he hbe
          rw [Nat.zero_add] at h1
          exact ih e.on h1 (by omega))
        rw [hr] at this
        cases this
  intro fuel
  induction fuel with
  | zero =>
    intro listed μ a w hsz hcnt hcl hsim
    have hall : ∀ j, j < ops.size → listed.getD j false = true := by
      intro j hj
      have hlt : j < listed.size := by omega
      have h0 : false ∉ listed.toList := List.count_eq_zero.1 (Nat.le_zero.1 hcnt)
      rw [Array.getD_eq_getD_getElem?, Array.getElem?_eq_getElem hlt]
      cases hb : listed[j] with
      | true => rfl
      | false => exact absurd (hb ▸ Array.mem_toList_iff.2 (Array.getElem_mem hlt)) h0
    refine ⟨?_, done listed hsz hall μ a w hsim⟩
    cases hr : Region.ready .any ops listed with
    | nil => rfl
    | cons i q =>
      exfalso
      obtain ⟨o, ho, h1, _⟩ := mem_ready (ops := ops) (listed := listed) (i := i) (by rw [hr]; exact List.mem_cons_self)
      have hlt : i < ops.size := (Array.getElem?_eq_some_iff.1 ho).1
      have h2 := hall i hlt
      have hlt' : i < listed.size := by omega
      simp only [Array.getD, hlt', dite_true] at h1 h2
      rw [h1] at h2
      cases h2
  | succ fuel ih =>
    intro listed μ a w hsz hcnt hcl hsim
    refine ⟨fun hr => done listed hsz (noready listed hsz hr) μ a w hsim, fun i hi => ?_⟩
    obtain ⟨o, ho, h1, h2⟩ := mem_ready hi
    have hlt : i < ops.size := (Array.getElem?_eq_some_iff.1 ho).1
    have hlt' : i < listed.size := by omega
    have hDi : listed.getD i false = false := by
      simp only [Array.getD, hlt', dite_true] at h1 ⊢
      exact h1
    obtain ⟨p, st1, hp, hst1, hrec, hdo⟩ := trace_get ht (i := i) (o := o) (by rw [Array.getElem?_toList]; exact ho)
    -- the ancestors are done
    have hanc : ∀ x ∈ (ancs ops.toList []).getD i [], listed.getD x false = true := by
      intro x hx
      obtain ⟨e, he, hb, hxe⟩ := ancs_get (l := ops.toList) (as := []) (m := i) (o := o) (by rw [Array.getElem?_toList]; exact ho) x (by simpa using hx)
      have h3 := h2 e he hb
      rcases hxe with rfl | hxe
      · exact h3
      · exact hcl e.on h3 x hxe
    have early : ∀ {j : Nat} {q : Rec × St}, j < i → rs[j]? = some q → listed.getD j false = false → conflict q.1 p.1 = false ∧ (∀ n, p.1.made = some n → n ∉ q.1.nm ∧ 2 * n + 1 ∉ q.1.wr) := by
      intro j q hj hq hD
      have hpo := recsOk_get hok (m := j) (n := i) (a := q.1) (b := p.1) hj (by rw [List.getElem?_map, hq]; rfl) (by rw [List.getElem?_map, hp]; rfl)
      rw [Nat.zero_add, Nat.zero_add] at hpo
      obtain ⟨h5, h6⟩ := band hpo
      obtain ⟨h5, h7⟩ := band h5
      refine ⟨?_, fun n hn => ?_⟩
      · cases hcf : conflict q.1 p.1 with
        | false => rfl
        | true =>
          rw [hcf] at h5
          have := hanc j (has_mem h5)
          rw [hD] at this
          cases this
      · rw [hn] at h6
        obtain ⟨h8, h9⟩ := band h6
        refine ⟨fun hm => ?_, fun hm => ?_⟩
        · rw [mem_has hm] at h8; cases h8
        · rw [mem_has hm] at h9; cases h9
    have earlyM : ∀ {j : Nat} {q : Rec × St}, j < i → rs[j]? = some q → ∀ n, p.1.made = some n → n ∉ q.1.nm ∧ 2 * n + 1 ∉ q.1.wr := by
      intro j q hj hq n hn
      have hpo := recsOk_get hok (m := j) (n := i) (a := q.1) (b := p.1) hj (by rw [List.getElem?_map, hq]; rfl) (by rw [List.getElem?_map, hp]; rfl)
      obtain ⟨h5, h6⟩ := band hpo
      rw [hn] at h6
      obtain ⟨h8, h9⟩ := band h6
      refine ⟨fun hm => ?_, fun hm => ?_⟩
      · rw [mem_has hm] at h8; cases h8
      · rw [mem_has hm] at h9; cases h9
    have late : ∀ {j : Nat} {q : Rec × St}, i < j → rs[j]? = some q → listed.getD j false = true → conflict p.1 q.1 = false ∧ (∀ n, p.1.made = some n → n ∉ q.1.nm) := by
      intro j q hj hq hD
      have hpo := recsOk_get hok (m := i) (n := j) (a := p.1) (b := q.1) hj (by rw [List.getElem?_map, hp]; rfl) (by rw [List.getElem?_map, hq]; rfl)
      rw [Nat.zero_add, Nat.zero_add] at hpo
      obtain ⟨h5, h6⟩ := band hpo
      obtain ⟨h5, h7⟩ := band h5
      have no : has ((ancs ops.toList []).getD j []) i = false := by
        cases hh : has ((ancs ops.toList []).getD j []) i with
        | false => rfl
        | true =>
          have := hcl j hD i (has_mem hh)
          rw [hDi] at this
          cases this
      refine ⟨?_, fun n hn hm => ?_⟩
      · cases hcf : conflict p.1 q.1 with
        | false => rfl
        | true =>
          rw [hcf, no] at h5
          cases h5
      · rw [hn, no] at h7
        simp [mem_has hm] at h7
    have cf : ∀ {x y : Rec}, conflict x y = false → (∀ l, l ∈ x.wr → l ∉ y.rd) ∧ (∀ l, l ∈ x.rd → l ∉ y.wr) ∧ (∀ l, l ∈ x.wr → l ∉ y.wr) := by
      intro x y h
      unfold conflict at h
      rw [Bool.or_eq_false_iff, Bool.or_eq_false_iff] at h
      exact ⟨meets_false h.1.1, meets_false h.1.2, meets_false h.2⟩
    have lookN : ∀ {q : Rec × St} {o' : Oper} {l : Nat}, RecOK o' q → l ∉ q.1.wr → look q.2 l = none := by
      intro q o' l hq hl
      cases hv : look q.2 l with
      | none => rfl
      | some v => exact absurd (by rw [hq.1]; exact List.mem_map.2 ⟨_, look_mem hv, rfl⟩) hl
    have recAt : ∀ {j : Nat} {q : Rec × St}, rs[j]? = some q → ∃ o', RecOK o' q := by
      intro j q hq
      have hjl : j < rs.length := by
        rcases Nat.lt_or_ge j rs.length with h | h
        · exact h
        · rw [List.getElem?_eq_none h] at hq; cases hq
      have hjo : j < ops.size := by omega
      obtain ⟨q', _, h5, _, h6, _⟩ := trace_get ht (i := j) (o := ops[j]) (by rw [Array.getElem?_toList, Array.getElem?_eq_getElem hjo])
      rw [hq] at h5
      injection h5 with h5
      subst h5
      exact ⟨_, h6⟩
    -- what it reads is as in the text
    have hread : ∀ l, l ∈ p.1.rd → mixed (fun j => listed.getD j false) 0 rs f l = look st1 l := by
      intro l hl
      rw [hst1]
      refine mixed_upto _ i rs 0 rfl (fun j q hj hq hD => ?_) (fun j q hj hq hD => ?_)
      · rw [Nat.zero_add] at hD
        obtain ⟨o', hq'⟩ := recAt hq
        exact lookN hq' (fun hm => (cf (early hj hq hD).1).1 l hm hl)
      · rw [Nat.zero_add] at hD
        obtain ⟨o', hq'⟩ := recAt hq
        have hij : i ≠ j := fun e => by
          subst e
          rw [hDi] at hD
          cases hD
        exact lookN hq' ((cf (late (by omega) hq hD).1).2.1 l hl)
    have hfresh : ∀ n, o.dst = some n → fresh st1 n = true → 2 * n + 1 ∈ p.2.map (·.1) → FreshFS (mixed (fun j => listed.getD j false) 0 rs f) n := by
      intro n hn _ hm
      have hmade := hrec.2.2 n hn hm
      have hwr : 2 * n + 1 ∈ p.1.wr := by rw [hrec.1]; exact hm
      have hst := fresh_look (madeOk_get hmk (m := i) (a := p.1) (by rw [List.getElem?_map, hp]; rfl) hmade)
      rw [hf] at hst
      refine ⟨?_, fun l v hv => ?_⟩
      · cases hv : mixed (fun j => listed.getD j false) 0 rs f (2 * n + 1) with
        | none => rfl
        | some v =>
          exfalso
          rcases mixed_some _ rs 0 hv with h5 | ⟨j, q, hq, hD, hl⟩
          · rw [hst.1] at h5; cases h5
          · rw [Nat.zero_add] at hD
            obtain ⟨o', hq'⟩ := recAt hq
            have hmem : 2 * n + 1 ∈ q.1.wr := by rw [hq'.1]; exact List.mem_map.2 ⟨_, look_mem hl, rfl⟩
            rcases Nat.lt_trichotomy j i with hj | hj | hj
            · exact (earlyM hj hq n hmade).2 hmem
            · subst hj; rw [hDi] at hD; cases hD
            · exact (cf (late hj hq hD).1).2.2 _ hwr hmem
      · rcases mixed_some _ rs 0 hv with h5 | ⟨j, q, hq, hD, hl⟩
        · exact hst.2 l v h5
        · rw [Nat.zero_add] at hD
          obtain ⟨o', hq'⟩ := recAt hq
          intro hmem
          have hnm : n ∈ q.1.nm := by rw [hq'.2.1]; exact List.mem_flatMap.2 ⟨_, look_mem hl, hmem⟩
          rcases Nat.lt_trichotomy j i with hj | hj | hj
          · exact (earlyM hj hq n hmade).1 hnm
          · subst hj; rw [hDi] at hD; cases hD
          · exact (late hj hq hD).2 n hmade hnm
    have hset : ∀ j, (listed.setIfInBounds i true).getD j false = (listed.getD j false || j == i) := by
      intro j
      by_cases e : j = i
      · subst e
        rw [hDi]
        simp [Array.getD, hlt']
      · have hbe : (j == i) = false := by simpa using e
        rw [hbe, Bool.or_false]
        rw [Array.getD_eq_getD_getElem?, Array.getD_eq_getD_getElem?, Array.getElem?_setIfInBounds_ne (fun e' => e e'.symm)]
    unfold wpOp
    rw [ho]
    refine hdo S0 w0 μ _ a w hread hfresh hsim _ Q fun μ' a' w' h5 => ?_
    refine ih (listed.setIfInBounds i true) μ' a' w' (by rw [Array.size_setIfInBounds]; exact hsz) ?_ (fun j hj x hx => ?_) ?_
    · have hb : listed.toList[i]? = some false := by
        rw [Array.getElem?_toList, Array.getElem?_eq_getElem hlt']
        have hD2 := hDi
        rw [Array.getD_eq_getD_getElem?, Array.getElem?_eq_getElem hlt'] at hD2
        exact congrArg some hD2
      have cnt : ∀ (l : List Bool) (i : Nat), l[i]? = some false → (l.set i true).count false + 1 = l.count false := by
        intro l
        induction l with
        | nil => intro i h; cases h
        | cons b l ihl =>
          intro i h
          cases i with
          | zero =>
            simp at h
            subst h
            simp
          | succ i =>
            have := ihl i (by simpa using h)
            rw [List.set_cons_succ, List.count_cons, List.count_cons]
            omega
      have := cnt _ _ hb
      rw [Array.toList_setIfInBounds]
      omega
    · rw [hset] at hj ⊢
      rcases (Bool.or_eq_true _ _).mp hj with hj | hj
      · rw [hcl j hj x hx]
        rfl
      · have hj : j = i := by simpa using hj
        subst hj
        rw [hanc x hx]
        rfl
    · have : (fun j => (listed.setIfInBounds i true).getD j false) = fun j => listed.getD j false || j == i := funext hset
      rw [this]
      have heq : mixed (fun j => listed.getD j false || j == i) 0 rs f = over p.2 (mixed (fun j => listed.getD j false) 0 rs f) := by
        funext l
        refine mixed_more (fun j => listed.getD j false) i hDi rs 0 (i := i) (by omega) hp (fun j q hj hq hD => ?_)
        rw [Nat.zero_add] at hD
        obtain ⟨o', hq'⟩ := recAt hq
        by_cases hl : l ∈ p.1.wr
        · exact .inl (lookN hq' ((cf (late hj hq hD).1).2.2 l hl))
        · exact .inr (lookN hrec hl)
      rw [heq]
      exact h5

theorem draw_sound (hTS : TypesOK P T) (hG : EnvOK P G) (hmo : P.follows .mixedOrders = true) {R : Type} {k id : Nat} {r : R} {Q : Exit → Act → World → Prop} {st : St} {K : St → Option R} (h : drawK T G k nt ops st K = some r)
    {S0 : Nat → Prop} {w0 : World} {μ : Nat → Value} {a : Act} {w : World} (hsim : Sim S0 w0 nt μ (look st) a w) (hK : ∀ st' μ' a' w', K st' = some r → Sim S0 w0 nt μ' (look st') a' w' → Q .normal a' w') :
    (Code.region id ops true).wp P Q a w := by
  obtain ⟨h1, h⟩ := chk_some h
  obtain ⟨rs, st', h2, h3, h4⟩ := opsD_trace hTS hG ops.toList st [] _ h
  rw [List.nil_append] at h3
  obtain ⟨h5, h6⟩ := chk_some h3
  obtain ⟨h5, h7⟩ := band h5
  have hdrew : Sim S0 w0 nt μ (look st) a { w with drawn := w.drawn + 1 } := hsim.grow ⟨rfl, rfl, rfl, Nat.le_refl _, fun _ _ => rfl⟩
  refine wp_region_any hmo (any_sound rfl h2 h5 h7 h1 (S0 := S0) (w0 := w0) (fun μ' a' w' hs => hK st' μ' a' w' h6 (by rw [h4]; exact hs)) ops.size (Array.replicate ops.size false) μ a _ (by simp) (by
    simp) (fun j hj => ?_) ?_)
  · rw [Array.getD_eq_getD_getElem?, Array.getElem?_replicate] at hj
    split at hj <;> cases hj
  · rw [mixed_nil _ rs 0 (fun i hi => ?_)]
    · exact hdrew
    · rw [Array.getD_eq_getD_getElem?, Array.getElem?_replicate]
      split <;> rfl

end Go.Ab
