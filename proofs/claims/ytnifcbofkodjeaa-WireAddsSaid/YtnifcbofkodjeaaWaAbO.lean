/- Code, loops, functions. -/
import Derived.Test.YtnifcbofkodjeaaWaAbN
import Derived.LoopN
set_option linter.unusedVariables false
set_option linter.unusedSimpArgs false
namespace Go.Ab
open Go.RowKit

variable {P : Program} {T : Nat → Option TI} {G : Env} {nt : Nat}

/-! ### Names given anew -/
def Ren (m : List (Nat × Nat)) (μ μ' : Nat → Value) : Prop := ∀ o x, newName m o = some x → μ' x = μ o

theorem newName_mem {m : List (Nat × Nat)} {o x : Nat} (h : newName m o = some x) : (o, x) ∈ m := by
  induction m with
  | nil => cases h
  | cons p m ih =>
    obtain ⟨a, b⟩ := p
    unfold newName at h
    cases hb : Nat.beq a o with
    | true =>
      rw [hb] at h
      injection h with h
      rw [nbeq hb, h]
      exact List.mem_cons_self
    | false =>
      rw [hb] at h
      exact List.mem_cons_of_mem _ (ih h)

theorem nodup_mem1 {m : List (Nat × Nat)} (h : nodupB (m.map (·.1)) = true) {o x y : Nat} (hx : (o, x) ∈ m) (hy : (o, y) ∈ m) : x = y := by
  induction m with
  | nil => cases hx
  | cons p m ih =>
    obtain ⟨h1, h2⟩ := band h
    have no : ∀ z, (p.1, z) ∈ m → False := fun z hz => by
      have : has (m.map (·.1)) p.1 = true := mem_has (List.mem_map.2 ⟨_, hz, rfl⟩)
      rw [this] at h1
      cases h1
    rcases List.mem_cons.1 hx with e1 | e1
    · rcases List.mem_cons.1 hy with e2 | e2
      · rw [← e1] at e2
        injection e2 with _ e2
        exact e2.symm
      · subst e1
        exact (no y e2).elim
    · rcases List.mem_cons.1 hy with e2 | e2
      · subst e2
        exact (no x e1).elim
      · exact ih h2 e1 e2

theorem nodup_mem2 {m : List (Nat × Nat)} (h : nodupB (m.map (·.2)) = true) {o o' x : Nat} (hx : (o, x) ∈ m) (hy : (o', x) ∈ m) : o = o' := by
  induction m with
  | nil => cases hx
  | cons p m ih =>
    obtain ⟨h1, h2⟩ := band h
    have no : ∀ z, (z, p.2) ∈ m → False := fun z hz => by
      have : has (m.map (·.2)) p.2 = true := mem_has (List.mem_map.2 ⟨_, hz, rfl⟩)
      rw [this] at h1
      cases h1
    rcases List.mem_cons.1 hx with e1 | e1
    · rcases List.mem_cons.1 hy with e2 | e2
      · rw [← e1] at e2
        injection e2 with e2 _
        exact e2.symm
      · subst e1
        exact (no o' e2).elim
    · rcases List.mem_cons.1 hy with e2 | e2
      · subst e2
        exact (no o e1).elim
      · exact ih h2 e1 e2

theorem renC_rel {m : List (Nat × Nat)} {μ μ' : Nat → Value} (hr : Ren m μ μ') {S S' : Nat → Prop} {w : World} (hs : ∀ k, S' k → S k) {c c' : Cell} {v : Value} (h : renC m c = some c') (hc : CellRel μ S w c v) : CellRel μ' S' w c' v := by
  cases c with
  | ptr id off =>
    obtain ⟨n, h1, h⟩ := bind_some h
    injection h with h
    subst h
    obtain ⟨g, h2, h3⟩ := hc
    exact ⟨g, (hr _ _ h1).trans h2, h3⟩
  | own id =>
    obtain ⟨n, h1, h⟩ := bind_some h
    injection h with h
    subst h
    exact ⟨hc.1.trans (hr _ _ h1).symm, hc.2⟩
  | eptr id i off s =>
    obtain ⟨n, h1, h⟩ := bind_some h
    injection h with h
    subst h
    obtain ⟨g, n', c, h2, h3⟩ := hc
    exact ⟨g, n', c, (hr _ _ h1).trans h2, h3⟩
  | clo f t id off =>
    obtain ⟨n, h1, h⟩ := bind_some h
    injection h with h
    subst h
    obtain ⟨g, h2, h3⟩ := hc
    exact ⟨g, (hr _ _ h1).trans h2, h3⟩
  | asl id off k =>
    obtain ⟨n, h1, h⟩ := bind_some h
    injection h with h
    subst h
    obtain ⟨g, h2, h3⟩ := hc
    exact ⟨g, (hr _ _ h1).trans h2, h3⟩
  | mp id =>
    obtain ⟨n, h1, h⟩ := bind_some h
    injection h with h
    subst h
    exact ⟨hc.1.trans (hr _ _ h1).symm, hc.2⟩
  | osl id lo s =>
    obtain ⟨n, h1, h⟩ := bind_some h
    injection h with h
    subst h
    rcases hc with ⟨g, n', c, o, h2, h3, h4⟩ | ⟨h2, h3⟩
    · exact .inl ⟨g, n', c, o, (hr _ _ h1).trans h2, h3, h4⟩
    · exact .inr ⟨(hr _ _ h1).trans h2, h3⟩
  | v t x =>
    injection h with h
    subst h
    exact Rd.move (Agree.refl _ _) (fun k _ hk => hs k hk) hc
  | nil =>
    injection h with h
    subst h
    exact hc
  | ref t x =>
    injection h with h
    subst h
    obtain ⟨ad, es, h1, h2, h3, h4⟩ := hc
    exact ⟨ad, es, h1, Rd.move (Agree.refl _ _) (fun k _ hk => hs k hk) h2, h3, fun hk => h4 (hs _ hk)⟩

theorem renCs_rel {m : List (Nat × Nat)} {μ μ' : Nat → Value} (hr : Ren m μ μ') {S S' : Nat → Prop} {w : World} (hs : ∀ k, S' k → S k) : ∀ {cs cs' : List Cell} {vs : List Value}, renCs m cs = some cs' → AllRel μ S w cs vs → AllRel μ' S' w cs' vs
  | [], _, _, h, hc => by
    injection h with h
    subst h
    exact hc
  | c :: cs, _, _, h, ⟨v, r, hv, h1, h2⟩ => by
    obtain ⟨x, h3, h⟩ := bind_some h
    obtain ⟨l, h4, h⟩ := bind_some h
    injection h with h
    subst h
    exact ⟨v, r, hv, renC_rel hr hs h3 h1, renCs_rel hr hs h4 h2⟩

theorem renFl_rel {m : List (Nat × Nat)} {μ μ' : Nat → Value} (hr : Ren m μ μ') {S S' : Nat → Prop} {w : World} (hs : ∀ k, S' k → S k) {x x' : Fl} {v : Value} (h : renFl m x = some x') (hc : FlRel μ S w x v) : FlRel μ' S' w x' v := by
  cases x with
  | c y =>
    obtain ⟨z, h1, h⟩ := bind_some h
    injection h with h
    subst h
    exact renC_rel hr hs h1 hc
  | agg cs =>
    obtain ⟨z, h1, h⟩ := bind_some h
    injection h with h
    subst h
    obtain ⟨vs, h2, h3⟩ := hc
    exact ⟨vs, h2, renCs_rel hr hs h1 h3⟩

theorem keepS_look {m : List (Nat × Nat)} {st : St} : ∀ {L : List Nat} {a : St}, keepS m st L = some a → ∀ {l : Nat} {v : Lv}, look a l = some v → ∃ s u, l = 2 * s ∧ look st (2 * s) = some u ∧ renLv m u = some v
  | [], _, h, l, v, hl => by
    injection h with h
    subst h
    cases hl
  | s :: L, _, h, l, v, hl => by
    obtain ⟨u, h1, h⟩ := bind_some h
    obtain ⟨u', h2, h⟩ := bind_some h
    obtain ⟨a, h3, h⟩ := bind_some h
    injection h with h
    subst h
    rw [look_cons] at hl
    by_cases e : l = 2 * s
    · rw [if_pos e] at hl
      injection hl with hl
      subst hl
      exact ⟨s, u, e, h1, h2⟩
    · rw [if_neg e] at hl
      exact keepS_look h3 hl

theorem keepO_look {m : List (Nat × Nat)} {st : St} : ∀ {L : List (Nat × Nat)} {a : St}, keepO m st L = some a → ∀ {l : Nat} {v : Lv}, look a l = some v → ∃ o x u, (o, x) ∈ L ∧ l = 2 * x + 1 ∧ look st (2 * o + 1) = some u ∧ renLv m u = some v
  | [], _, h, l, v, hl => by
    injection h with h
    subst h
    cases hl
  | p :: L, a, h, l, v, hl => by
    have next : keepO m st L = some a → ∃ o x u, (o, x) ∈ p :: L ∧ l = 2 * x + 1 ∧ look st (2 * o + 1) = some u ∧ renLv m u = some v := fun h => by
      obtain ⟨o, x, u, h1, h2⟩ := keepO_look h hl
      exact ⟨o, x, u, List.mem_cons_of_mem _ h1, h2⟩
    unfold keepO at h
    split at h
    · exact next h
    · rename_i u hu _
      obtain ⟨u', h2, h⟩ := bind_some h
      obtain ⟨a', h3, h⟩ := bind_some h
      injection h with h
      subst h
      rw [look_cons] at hl
      by_cases e : l = 2 * p.2 + 1
      · rw [if_pos e] at hl
        injection hl with hl
        subst hl
        exact ⟨p.1, p.2, _, List.mem_cons_self, e, by assumption, h2⟩
      · rw [if_neg e] at hl
        obtain ⟨o, x, u, h4, h5⟩ := keepO_look h3 hl
        exact ⟨o, x, u, List.mem_cons_of_mem _ h4, h5⟩
    · exact next h

theorem renLv_obj {m : List (Nat × Nat)} {u v : Lv} (h : renLv m u = some v) : v.isObj = u.isObj := by
  cases u with
  | tv x =>
    cases x with
    | f y =>
      obtain ⟨z, _, h⟩ := bind_some h
      injection h with h
      subst h
      rfl
    | tup _ => cases h
  | box cs =>
    obtain ⟨z, _, h⟩ := bind_some h
    injection h with h
    subst h
    rfl
  | row e t xs =>
    injection h with h
    subst h
    rfl
  | iter l pos =>
    injection h with h
    subst h
    rfl
  | set t xs =>
    injection h with h
    subst h
    rfl
  | bld T q =>
    obtain ⟨z, _, h⟩ := bind_some h
    injection h with h
    subst h
    rfl
  | undef => cases h
  | gone => cases h

def backName (m : List (Nat × Nat)) (x : Nat) : Nat := match m with
  | [] => 0
  | (o, y) :: r => if y = x then o else backName r x

theorem backName_of {m : List (Nat × Nat)} (h : nodupB (m.map (·.2)) = true) {o x : Nat} (hm : (o, x) ∈ m) : backName m x = o := by
  induction m with
  | nil => cases hm
  | cons p m ih =>
    obtain ⟨a, b⟩ := p
    have h' := h
    obtain ⟨h1, h2⟩ := band h
    unfold backName
    by_cases e : b = x
    · rw [if_pos e]
      subst e
      exact nodup_mem2 h' List.mem_cons_self hm
    · rw [if_neg e]
      rcases List.mem_cons.1 hm with e1 | e1
      · injection e1 with _ e1
        exact absurd e1.symm e
      · exact ih h2 e1

theorem restrict_sound {L : List Nat} {st st0 : St} (h : restrict L st = some st0) {S0 : Nat → Prop} {w0 : World} {μ : Nat → Value} {a : Act} {w : World} (hsim : Sim S0 w0 nt μ (look st) a w) : ∃ μ', Sim S0 w0 nt μ' (look st0) a w := by
  unfold restrict at h
  obtain ⟨h1, h⟩ := chk_some h
  obtain ⟨hn1, hn2⟩ := band h1
  obtain ⟨sa, h2, h⟩ := bind_some h
  obtain ⟨sb, h3, h⟩ := bind_some h
  injection h with h
  subst h
  generalize gatherO st (gatherS st L []) (gatherS st L []) = m at *
  refine ⟨fun x => μ (backName m x), ?_⟩
  have hren : Ren m μ (fun x => μ (backName m x)) := fun o x hx => by
    show μ (backName m x) = μ o
    rw [backName_of hn2 (newName_mem hx)]
  have hslot : ∀ {s : Nat} {v : Lv}, look (sa ++ sb) (2 * s) = some v → ∃ u, look st (2 * s) = some u ∧ renLv m u = some v := by
    intro s v hv
    rw [look_append] at hv
    cases hl : look sa (2 * s) with
    | some u =>
      rw [hl] at hv
      injection hv with hv
      subst hv
      obtain ⟨s', u', e, h4, h5⟩ := keepS_look h2 hl
      obtain rfl : s' = s := by omega
      exact ⟨u', h4, h5⟩
    | none =>
      rw [hl] at hv
      obtain ⟨o, x, u, _, e, _⟩ := keepO_look h3 hv
      omega
  have hobj : ∀ {x : Nat} {v : Lv}, look (sa ++ sb) (2 * x + 1) = some v → ∃ o u, (o, x) ∈ m ∧ look st (2 * o + 1) = some u ∧ renLv m u = some v := by
    intro x v hv
    rw [look_append] at hv
    cases hl : look sa (2 * x + 1) with
    | some u =>
      obtain ⟨s', u', e, _⟩ := keepS_look h2 hl
      omega
    | none =>
      rw [hl] at hv
      obtain ⟨o, x', u, h4, e, h5, h6⟩ := keepO_look h3 hv
      obtain rfl : x' = x := by omega
      exact ⟨o, u, h4, h5, h6⟩
  have hlive : ∀ k, live S0 (fun x => μ (backName m x)) (look (sa ++ sb)) k → live S0 μ (look st) k := by
    rintro k (hk | ⟨x, v, hv, ho, hb⟩)
    · exact .inl hk
    · obtain ⟨o, u, h4, h5, h6⟩ := hobj hv
      have hb : blk (μ (backName m x)) = some k := hb
      rw [backName_of hn2 h4] at hb
      exact .inr ⟨o, u, h5, by rw [← renLv_obj h6]; exact ho, hb⟩
  refine ⟨hsim.low, hsim.below, hsim.size, hsim.defers, fun s x hs => ?_, fun s hs => ?_, fun x v hv => ?_, fun i j x y k hi hj hx hy hne hk => ?_⟩
  · obtain ⟨u, h4, h5⟩ := hslot hs
    cases u with
    | tv y =>
      cases y with
      | f z =>
        obtain ⟨z', h6, h5⟩ := bind_some h5
        injection h5 with h5
        injection h5 with h5
        subst h5
        obtain ⟨v, h7, h8⟩ := hsim.slot s _ h4
        exact ⟨v, h7, renFl_rel hren hlive h6 h8⟩
      | tup _ => cases h5
    | box cs =>
      obtain ⟨z', h6, h5⟩ := bind_some h5
      cases h5
    | row e t xs => cases h5
    | iter l pos => cases h5
    | set t xs => cases h5
    | bld T q =>
      obtain ⟨z', h6, h5⟩ := bind_some h5
      cases h5
    | undef => cases h5
    | gone => cases h5
  · obtain ⟨u, h4, h5⟩ := hslot hs
    cases u with
    | tv y =>
      cases y with
      | f z =>
        obtain ⟨z', h6, h5⟩ := bind_some h5
        cases h5
      | tup _ => cases h5
    | box cs =>
      obtain ⟨z', h6, h5⟩ := bind_some h5
      cases h5
    | row e t xs => cases h5
    | iter l pos => cases h5
    | set t xs => cases h5
    | bld T q =>
      obtain ⟨z', h6, h5⟩ := bind_some h5
      cases h5
    | undef => cases h5
    | gone => cases h5
  · obtain ⟨o, u, h4, h5, h6⟩ := hobj hv
    have hbk := backName_of hn2 h4
    have ho := hsim.obj o u h5
    cases u with
    | tv y =>
      cases y with
      | f z =>
        obtain ⟨z', _, h6⟩ := bind_some h6
        injection h6 with h6
        subst h6
        exact trivial
      | tup _ => cases h6
    | box cs =>
      obtain ⟨z', h7, h6⟩ := bind_some h6
      injection h6 with h6
      subst h6
      obtain ⟨g, vs, Ty', h8, h9, h10, h11⟩ := ho
      exact ⟨g, vs, Ty', by show μ (backName m x) = _; rw [hbk]; exact h8, h9, h10, renCs_rel hren hlive h7 h11⟩
    | row e t xs =>
      injection h6 with h6
      subst h6
      obtain ⟨inner, h8, h9, h10⟩ := ho
      exact ⟨inner, by show World.ownsRow _ _ _ _ (μ (backName m x)) _ _; rw [hbk]; exact h8, Parts.move (Agree.refl _ _) (fun k _ hk => hlive k hk) h9, h10⟩
    | iter l pos =>
      injection h6 with h6
      subst h6
      obtain ⟨g, h8, h9, h10⟩ := ho
      exact ⟨g, by show μ (backName m x) = _; rw [hbk]; exact h8, h9, h10⟩
    | set t xs =>
      injection h6 with h6
      subst h6
      obtain ⟨g, es, clock, h8, h9, h10, h11⟩ := ho
      exact ⟨g, es, clock, by show μ (backName m x) = _; rw [hbk]; exact h8, h9, h10, h11⟩
    | bld T q =>
      obtain ⟨z', h7, h6⟩ := bind_some h6
      injection h6 with h6
      subst h6
      obtain ⟨g, vp, vq, h8, h9, h10, h11, h12⟩ := ho
      exact ⟨g, vp, vq, by show μ (backName m x) = _; rw [hbk]; exact h8, h9, h10, h11, renC_rel hren hlive h7 h12⟩
    | undef => cases h6
    | gone => cases h6
  · obtain ⟨o1, u1, h4, h5, h6⟩ := hobj hi
    obtain ⟨o2, u2, h7, h8, h9⟩ := hobj hj
    show blk (μ (backName m j)) ≠ some k
    have hk : blk (μ (backName m i)) = some k := hk
    rw [backName_of hn2 h4] at hk
    rw [backName_of hn2 h7]
    exact hsim.inj o1 o2 u1 u2 k h5 h8 (by rw [← renLv_obj h6]; exact hx) (by rw [← renLv_obj h9]; exact hy) (fun e => by
      subst e
      exact hne (nodup_mem1 hn1 h4 h7)) hk

/-! ### What is told otherwise at a loop's head -/
theorem setCell_isObj (lv : Lv) (i : Nat) (c : Cell) : (setCell lv i c).isObj = lv.isObj := by
  cases lv with
  | tv x =>
    cases x with
    | f y => cases y <;> rfl
    | tup _ => rfl
  | _ => rfl

theorem AllRel_set {μ : Nat → Value} {S : Nat → Prop} {w : World} : ∀ {cs : List Cell} {vs : List Value} {i : Nat} {c c' : Cell}, AllRel μ S w cs vs → cs[i]? = some c → (∀ v, CellRel μ S w c v → CellRel μ S w c' v) → AllRel μ S w (cs.set i c') vs
  | [], _, _, _, _, _, h, _ => by cases h
  | d :: cs, _, 0, c, c', ⟨v, r, hv, h1, h2⟩, h, hc => by
    simp at h
    subst h
    exact ⟨v, r, hv, hc v h1, h2⟩
  | d :: cs, _, i + 1, c, c', ⟨v, r, hv, h1, h2⟩, h, hc => ⟨v, r, hv, h1, AllRel_set h2 (by simpa using h) hc⟩

/-- A cell is told in another way. -/
theorem Sim.retell {S0 : Nat → Prop} {w0 : World} {nt : Nat} {μ : Nat → Value} {FS : Nat → Option Lv} {a : Act} {w : World} (h : Sim S0 w0 nt μ FS a w) {l i : Nat} {lv : Lv} {c c' : Cell} (hl : FS l = some lv) (hc : (lvCells lv)[i]? = some c)
    (hcc : ∀ v, CellRel μ (live S0 μ FS) w c v → CellRel μ (live S0 μ FS) w c' v) : Sim S0 w0 nt μ (over [(l, setCell lv i c')] FS) a w := by
  have hlive : live S0 μ (over [(l, setCell lv i c')] FS) = live S0 μ FS := by
    funext k
    unfold live
    apply propext
    constructor
    · rintro (hk | ⟨id, x, h1, h2, h3⟩)
      · exact .inl hk
      · rw [over_one] at h1
        by_cases e : 2 * id + 1 = l
        · rw [if_pos e] at h1
          injection h1 with h1
          subst h1
          rw [setCell_isObj] at h2
          exact .inr ⟨id, lv, by rw [e]; exact hl, h2, h3⟩
        · rw [if_neg e] at h1
          exact .inr ⟨id, x, h1, h2, h3⟩
    · rintro (hk | ⟨id, x, h1, h2, h3⟩)
      · exact .inl hk
      · by_cases e : 2 * id + 1 = l
        · rw [e, hl] at h1
          injection h1 with h1
          subst h1
          exact .inr ⟨id, setCell lv i c', by rw [over_one, if_pos e], by rw [setCell_isObj]; exact h2, h3⟩
        · exact .inr ⟨id, x, by rw [over_one, if_neg e]; exact h1, h2, h3⟩
  refine ⟨h.low, h.below, h.size, h.defers, fun s x hs => ?_, fun s hs => ?_, fun id x hx => ?_, fun p q x y k hp hq hx hy => ?_⟩
  · rw [hlive]
    rw [over_one] at hs
    by_cases e : 2 * s = l
    · rw [if_pos e] at hs
      subst e
      injection hs with hs
      cases lv with
      | tv z =>
        obtain ⟨v, h1, h2⟩ := h.slot s z hl
        cases z with
        | f y =>
          cases y with
          | c d =>
            have hs : Lv.tv (.f (.c c')) = .tv x := hs
            injection hs with hs
            subst hs
            have hi : i = 0 ∧ d = c := by
              cases i with
              | zero => exact ⟨rfl, by simpa [lvCells, Fl.cells] using hc⟩
              | succ i => cases hc
            obtain ⟨_, hd⟩ := hi
            subst hd
            exact ⟨v, h1, hcc v h2⟩
          | agg cs =>
            have hs : Lv.tv (.f (.agg (cs.set i c'))) = .tv x := hs
            injection hs with hs
            subst hs
            obtain ⟨vs, h3, h4⟩ := h2
            exact ⟨v, h1, vs, h3, AllRel_set h4 hc hcc⟩
        | tup _ => cases hc
      | box cs => cases hs
      | row _ _ _ => cases hc
      | iter _ _ => cases hc
      | set _ _ => cases hc
      | bld _ _ => cases hs
      | undef => cases hc
      | gone => cases hc
    · rw [if_neg e] at hs
      exact h.slot s x hs
  · rw [over_one] at hs
    by_cases e : 2 * s = l
    · rw [if_pos e] at hs
      injection hs with hs
      cases lv with
      | tv z =>
        cases z with
        | f y => cases y <;> cases hs
        | tup _ => cases hs
      | box cs => cases hs
      | row _ _ _ => cases hs
      | iter _ _ => cases hs
      | set _ _ => cases hs
      | bld _ _ => cases hs
      | undef => cases hc
      | gone => cases hs
    · rw [if_neg e] at hs
      exact h.undef s hs
  · rw [hlive]
    rw [over_one] at hx
    by_cases e : 2 * id + 1 = l
    · rw [if_pos e] at hx
      subst e
      injection hx with hx
      have ho := h.obj id lv hl
      cases lv with
      | tv z =>
        cases z with
        | f y => cases y <;> (subst hx; exact trivial)
        | tup _ => cases hc
      | box cs =>
        subst hx
        obtain ⟨g, vs, Ty', h1, h2, h3, h4⟩ := ho
        exact ⟨g, vs, Ty', h1, h2, h3, AllRel_set h4 hc hcc⟩
      | row _ _ _ => cases hc
      | iter _ _ => cases hc
      | set _ _ => cases hc
      | bld T q =>
        subst hx
        obtain ⟨g, vp, vq, h1, h2, h3, h4, h5⟩ := ho
        have hi : i = 0 ∧ q = c := by
          cases i with
          | zero => exact ⟨rfl, by simpa [lvCells] using hc⟩
          | succ i => cases hc
        obtain ⟨_, hq⟩ := hi
        subst hq
        exact ⟨g, vp, vq, h1, h2, h3, h4, hcc vq h5⟩
      | undef => cases hc
      | gone => cases hc
    · rw [if_neg e] at hx
      exact h.obj id x hx
  · have back : ∀ {z : Nat} {x : Lv}, over [(l, setCell lv i c')] FS (2 * z + 1) = some x → x.isObj = true → ∃ x', FS (2 * z + 1) = some x' ∧ x'.isObj = true := by
      intro z x hz ho
      rw [over_one] at hz
      by_cases e : 2 * z + 1 = l
      · rw [if_pos e] at hz
        injection hz with hz
        subst hz
        rw [setCell_isObj] at ho
        exact ⟨lv, by rw [e]; exact hl, ho⟩
      · rw [if_neg e] at hz
        exact ⟨x, hz, ho⟩
    obtain ⟨x', h1, h2⟩ := back hp hx
    obtain ⟨y', h3, h4⟩ := back hq hy
    exact h.inj p q x' y' k h1 h3 h2 h4

theorem mend1_sound (hTS : TypesOK P T) {l i : Nat} {m : Mend} {st st' : St} (h : mend1 T l i m st = some st') {S0 : Nat → Prop} {w0 : World} {μ : Nat → Value} {a : Act} {w : World} (hsim : Sim S0 w0 nt μ (look st) a w) : ∃ μ', Sim S0 w0 nt μ' (look st') a w := by
  unfold mend1 at h
  split at h
  · rename_i lv hl
    split at h
    · rename_i e n hc
      obtain ⟨h1, h⟩ := chk_some h
      obtain ⟨te, h2, h⟩ := bind_some h
      injection h with h
      subst h
      have hf := fresh_look h1
      have hv : ∀ k, blk (Value.slice none 0 0) = some k → w.heap.size ≤ k := fun k hk => by cases hk
      have hn' : upd μ n (.slice none 0 0) n = .slice none 0 0 := by unfold upd; rw [if_pos rfl]
      have hE := hTS _ _ h2
      have hs1 := hsim.made hf (lv := .row e te.ty []) (v := .slice none 0 0) new_even (new_old (n := n)) new_self (Below.refl _ w) hv
        ⟨[], by rw [hn']; exact World.ownsRow_nil w w0.heap.size e te.ty.sz, rfl, by simp⟩
      have hne : l ≠ 2 * n + 1 := fun e' => by
        rw [e', hf.1] at hl
        cases hl
      refine ⟨upd μ n (.slice none 0 0), ?_⟩
      have hs2 := hs1.retell (l := l) (i := i) (lv := lv) (c := .nil) (c' := .own n) (by rw [over_one, if_neg hne]; exact hl) hc (fun v hv => by
        have hv : v = .slice none 0 0 := hv
        subst hv
        exact ⟨hn'.symm, _, _, _, rfl⟩)
      have : over [(l, setCell lv i (.own n))] (over [(2 * n + 1, .row e te.ty [])] (look st)) = look ((2 * n + 1, .row e te.ty []) :: (l, setCell lv i (.own n)) :: st) := by
        funext x
        rw [over_one, over_one, look_cons, look_cons]
        by_cases e1 : x = l
        · rw [if_pos e1, if_pos e1, if_neg (by rw [e1]; exact hne)]
        · rw [if_neg e1, if_neg e1]
      rw [this] at hs2
      exact hs2
    · rename_i t hc
      injection h with h
      subst h
      refine ⟨μ, ?_⟩
      have := hsim.retell (c' := .v (.sl t) []) hl hc (fun v hv => by
        have hv : v = .slice none 0 0 := hv
        subst hv
        exact nil_rd)
      rw [over_app] at this
      exact this
    · rename_i id t hc
      split at h
      · rename_i e u xs hrow
        injection h with h
        subst h
        refine ⟨μ, ?_⟩
        have hg : Sim S0 w0 nt μ (over [(2 * id + 1, .gone)] (look st)) a w := hsim.gives new_even (fun j => by
          by_cases hj : j = id
          · subst hj; exact .inr new_self
          · exact new_old j hj)
        have haway : ∀ k, blk (μ id) = some k → ¬ live S0 μ (over [(2 * id + 1, .gone)] (look st)) k := by
          rintro k hk (hl' | ⟨j, y, hy, hyo, hb⟩)
          · have := hsim.low k hl'
            have := ((hsim.obj id _ hrow).lt rfl hk).1
            omega
          · by_cases hj : j = id
            · subst hj
              rw [new_self] at hy
              injection hy with hy
              subst hy
              cases hyo
            · rw [over_one, if_neg (by omega)] at hy
              exact hsim.inj j id y _ k hy hrow hyo rfl hj hb hk
        have hrd := row_rd (hsim.obj id _ hrow) (fun k hk => live_same hrow rfl k hk) haway
        have hne : l ≠ 2 * id + 1 := fun e' => by
          rw [e', hrow] at hl
          injection hl with hl
          subst hl
          cases hc
        have hs2 := hg.retell (l := l) (i := i) (lv := lv) (c := .own id) (c' := .v (.sl u) xs) (by rw [over_one, if_neg hne]; exact hl) hc (fun v hv => by
          rw [hv.1]
          exact hrd)
        have : over [(l, setCell lv i (.v (.sl u) xs))] (over [(2 * id + 1, .gone)] (look st)) = look ((2 * id + 1, .gone) :: (l, setCell lv i (.v (.sl u) xs)) :: st) := by
          funext x
          rw [over_one, over_one, look_cons, look_cons]
          by_cases e1 : x = l
          · rw [if_pos e1, if_pos e1, if_neg (by rw [e1]; exact hne)]
          · rw [if_neg e1, if_neg e1]
        rw [this] at hs2
        exact hs2
      · cases h
    · injection h with h
      subst h
      exact ⟨μ, hsim⟩
  · injection h with h
    subst h
    exact ⟨μ, hsim⟩

theorem mend_sound (hTS : TypesOK P T) : ∀ {ms : List (Nat × Nat × Mend)} {st st' : St}, mend T ms st = some st' → ∀ {S0 : Nat → Prop} {w0 : World} {μ : Nat → Value} {a : Act} {w : World}, Sim S0 w0 nt μ (look st) a w → ∃ μ', Sim S0 w0 nt μ' (look st') a w
  | [], _, _, h, _, _, μ, _, _, hsim => by
    injection h with h
    subst h
    exact ⟨μ, hsim⟩
  | m :: ms, _, _, h, _, _, _, _, _, hsim => by
    obtain ⟨st1, h1, h⟩ := bind_some h
    obtain ⟨μ1, h2⟩ := mend1_sound hTS h1 hsim
    exact mend_sound hTS h h2

theorem head_sound (hTS : TypesOK P T) {L : List Nat} {ms : List (Nat × Nat × Mend)} {st st0 : St} (h : head T L ms st = some st0) {S0 : Nat → Prop} {w0 : World} {μ : Nat → Value} {a : Act} {w : World} (hsim : Sim S0 w0 nt μ (look st) a w) : ∃ μ', Sim S0 w0 nt μ' (look st0) a w := by
  unfold head at h
  split at h
  · exact restrict_sound h hsim
  · obtain ⟨s1, h1, h⟩ := bind_some h
    obtain ⟨s2, h2, h⟩ := bind_some h
    obtain ⟨μ1, h3⟩ := restrict_sound h1 hsim
    obtain ⟨μ2, h4⟩ := mend_sound hTS h2 h3
    exact restrict_sound h h4

theorem look_map (m : Lv → Lv) (st : St) (l : Nat) : look (st.map fun p => (p.1, m p.2)) l = (look st l).map m := by
  induction st with
  | nil => rfl
  | cons p st ih =>
    obtain ⟨n, v⟩ := p
    rw [List.map_cons, look_cons, look_cons]
    by_cases e : l = n
    · rw [if_pos e, if_pos e]; rfl
    · rw [if_neg e, if_neg e, ih]

theorem mapLv_isObj (m : Cell → Cell) (v : Lv) : (mapLv m v).isObj = v.isObj := by
  cases v with
  | tv x => cases x <;> rfl
  | _ => rfl

theorem AllRel_map {μ : Nat → Value} {S : Nat → Prop} {w : World} {m : Cell → Cell} (hm : ∀ c v, CellRel μ S w c v → CellRel μ S w (m c) v) : ∀ {cs : List Cell} {vs : List Value}, AllRel μ S w cs vs → AllRel μ S w (cs.map m) vs
  | [], _, h => h
  | c :: cs, _, ⟨v, r, hv, h1, h2⟩ => ⟨v, r, hv, hm c v h1, AllRel_map hm h2⟩
theorem FlRel_map {μ : Nat → Value} {S : Nat → Prop} {w : World} {m : Cell → Cell} (hm : ∀ c v, CellRel μ S w c v → CellRel μ S w (m c) v) : ∀ {x : Fl} {v : Value}, FlRel μ S w x v → FlRel μ S w (mapFl m x) v
  | .c x, v, h => hm x v h
  | .agg cs, v, ⟨vs, h1, h2⟩ => ⟨vs, h1, AllRel_map hm h2⟩
theorem FlsRel_map {μ : Nat → Value} {S : Nat → Prop} {w : World} {m : Cell → Cell} (hm : ∀ c v, CellRel μ S w c v → CellRel μ S w (m c) v) : ∀ {l : List Fl} {vs : List Value}, FlsRel μ S w l vs → FlsRel μ S w (l.map (mapFl m)) vs
  | [], _, h => h
  | x :: l, _, ⟨v, r, hv, h1, h2⟩ => ⟨v, r, hv, FlRel_map hm h1, FlsRel_map hm h2⟩

theorem Sim.recell {S0 : Nat → Prop} {w0 : World} {nt : Nat} {μ : Nat → Value} {FS : Nat → Option Lv} {a : Act} {w : World} (h : Sim S0 w0 nt μ FS a w) (m : Cell → Cell) (hm : ∀ c v, CellRel μ (live S0 μ FS) w c v → CellRel μ (live S0 μ FS) w (m c) v) :
    Sim S0 w0 nt μ (fun l => (FS l).map (mapLv m)) a w := by
  have back : ∀ {l : Nat} {v : Lv}, (FS l).map (mapLv m) = some v → ∃ u, FS l = some u ∧ mapLv m u = v := fun {l v} hv => by
    cases hl : FS l with
    | none => rw [hl] at hv; cases hv
    | some u => rw [hl] at hv; injection hv with hv; exact ⟨u, rfl, hv⟩
  have hlive : live S0 μ (fun l => (FS l).map (mapLv m)) = live S0 μ FS := by
    funext k
    unfold live
    apply propext
    constructor
    · rintro (hk | ⟨id, x, h1, h2, h3⟩)
      · exact .inl hk
      · obtain ⟨u, h4, h5⟩ := back h1
        exact .inr ⟨id, u, h4, by rw [← h5, mapLv_isObj] at h2; exact h2, h3⟩
    · rintro (hk | ⟨id, x, h1, h2, h3⟩)
      · exact .inl hk
      · exact .inr ⟨id, mapLv m x, by simp only [h1, Option.map_some], by rw [mapLv_isObj]; exact h2, h3⟩
  refine ⟨h.low, h.below, h.size, h.defers, fun s x hs => ?_, fun s hs => ?_, fun id x hx => ?_, fun p q x y k hp hq hx hy => ?_⟩
  · rw [hlive]
    obtain ⟨u, h1, h2⟩ := back hs
    cases u with
    | tv z =>
      obtain ⟨v, h3, h4⟩ := h.slot s z h1
      cases z with
      | f y =>
        injection h2 with h2
        subst h2
        exact ⟨v, h3, FlRel_map hm h4⟩
      | tup l =>
        injection h2 with h2
        subst h2
        obtain ⟨vs, h5, h6⟩ := h4
        exact ⟨v, h3, vs, h5, FlsRel_map hm h6⟩
    | _ => cases h2
  · obtain ⟨u, h1, h2⟩ := back hs
    cases u with
    | undef => exact h.undef s h1
    | tv z => cases z <;> cases h2
    | _ => cases h2
  · rw [hlive]
    obtain ⟨u, h1, h2⟩ := back hx
    have ho := h.obj id u h1
    cases u with
    | tv z => cases z <;> (subst h2; exact trivial)
    | box cs =>
      subst h2
      obtain ⟨g, vs, Ty', h3, h4, h5, h6⟩ := ho
      exact ⟨g, vs, Ty', h3, h4, h5, AllRel_map hm h6⟩
    | bld T q =>
      subst h2
      obtain ⟨g, vp, vq, h3, h4, h5, h6, h7⟩ := ho
      exact ⟨g, vp, vq, h3, h4, h5, h6, hm _ _ h7⟩
    | _ => subst h2; exact ho
  · obtain ⟨u, h1, h2⟩ := back hp
    obtain ⟨u', h3, h4⟩ := back hq
    exact h.inj p q u u' k h1 h3 (by rw [← h2, mapLv_isObj] at hx; exact hx) (by rw [← h4, mapLv_isObj] at hy; exact hy)

theorem freeze1_sound {id : Nat} {st st' : St} (h : freeze1 id st = some st') {S0 : Nat → Prop} {w0 : World} {μ : Nat → Value} {a : Act} {w : World} (hsim : Sim S0 w0 nt μ (look st) a w) : Sim S0 w0 nt μ (look st') a w := by
  unfold freeze1 at h
  split at h
  · rename_i e u xs hrow
    injection h with h
    subst h
    have hg : Sim S0 w0 nt μ (over [(2 * id + 1, .gone)] (look st)) a w := hsim.gives new_even (fun j => by
      by_cases hj : j = id
      · subst hj; exact .inr new_self
      · exact new_old j hj)
    have haway : ∀ k, blk (μ id) = some k → ¬ live S0 μ (over [(2 * id + 1, .gone)] (look st)) k := by
      rintro k hk (hl' | ⟨j, y, hy, hyo, hb⟩)
      · have := hsim.low k hl'
        have := ((hsim.obj id _ hrow).lt rfl hk).1
        omega
      · by_cases hj : j = id
        · subst hj
          rw [new_self] at hy
          injection hy with hy
          subst hy
          cases hyo
        · rw [over_one, if_neg (by omega)] at hy
          exact hsim.inj j id y _ k hy hrow hyo rfl hj hb hk
    have hrd := row_rd (hsim.obj id _ hrow) (fun k hk => live_same hrow rfl k hk) haway
    rw [over_app] at hg hrd
    have hr := hg.recell (thaw id u xs) (fun c v hc => by
      cases c with
      | own j =>
        show CellRel μ _ w (cond (Nat.beq j id) (.v (.sl u) xs) (.own j)) v
        cases hb : Nat.beq j id with
        | false => exact hc
        | true =>
          have hb := nbeq hb
          subst hb
          rw [hc.1]
          exact hrd
      | _ => exact hc)
    have : look (((2 * id + 1, .gone) :: st).map fun p => (p.1, mapLv (thaw id u xs) p.2)) = fun l => (look ([(2 * id + 1, .gone)] ++ st) l).map (mapLv (thaw id u xs)) := by
      funext l
      exact look_map _ _ _
    rw [this]
    exact hr
  · cases h

theorem freezes_sound : ∀ {ids : List Nat} {st st' : St}, freezes ids st = some st' → ∀ {S0 : Nat → Prop} {w0 : World} {μ : Nat → Value} {a : Act} {w : World}, Sim S0 w0 nt μ (look st) a w → Sim S0 w0 nt μ (look st') a w
  | [], _, _, h, _, _, _, _, _, hsim => by
    injection h with h
    subst h
    exact hsim
  | i :: r, _, _, h, _, _, _, _, _, hsim => by
    obtain ⟨st1, h1, h⟩ := bind_some h
    exact freezes_sound h (freeze1_sound h1 hsim)

/-! ### Code -/
theorem code_sound (hTS : TypesOK P T) (hG : EnvOK P G) (hmo : P.follows .mixedOrders = true) {R : Type} {lv : Nat → Lp} {k : Nat} {r : R} {S0 : Nat → Prop} {w0 : World} : ∀ (c : Code) (st : St) (K : Kt R) (Q : Exit → Act → World → Prop), codeK T G lv k nt c st K = some r →
    ∀ (μ : Nat → Value) (a : Act) (w : World), Sim S0 w0 nt μ (look st) a w →
      (∀ st' μ' a' w', K.norm st' = some r → Sim S0 w0 nt μ' (look st') a' w' → Q .normal a' w') →
      (∀ i st' μ' a' w', K.exit i st' = some r → Sim S0 w0 nt μ' (look st') a' w' → Q (.exit i) a' w') →
      (∀ st' μ' a' w', K.ret st' = some r → Sim S0 w0 nt μ' (look st') a' w' → Q .ret a' w') → c.wp P Q a w := by
  intro c
  induction c with
  | skip => intro st K Q h μ a w hsim hn he hr; exact wp_skip (hn st μ a w h hsim)
  | region id ops draw =>
    intro st K Q h μ a w hsim hn he hr
    simp only [codeK] at h
    split at h
    · rename_i ids hlv
      have hn' : ∀ st' μ' a' w', (freezes ids st').bind K.norm = some r → Sim S0 w0 nt μ' (look st') a' w' → Q .normal a' w' := fun st' μ' a' w' h1 h2 => by
        obtain ⟨st1, h3, h4⟩ := bind_some h1
        exact hn st1 μ' a' w' h4 (freezes_sound h3 h2)
      cases draw with
      | true => exact draw_sound hTS hG hmo h hsim hn'
      | false => exact region_sound hTS hG h hsim hn'
    · cases draw with
      | true => exact draw_sound hTS hG hmo h hsim hn
      | false => exact region_sound hTS hG h hsim hn
  | seq x y ihx ihy =>
    intro st K Q h μ a w hsim hn he hr
    refine wp_seq (ihx st _ _ h μ a w hsim (fun st' μ' a' w' h1 h2 => ?_) (fun i st' μ' a' w' h1 h2 => he i st' μ' a' w' h1 h2) (fun st' μ' a' w' h1 h2 => hr st' μ' a' w' h1 h2))
    exact ihy st' K Q h1 μ' a' w' h2 hn he hr
  | cond c x y ihx ihy =>
    intro st K Q h μ a w hsim hn he hr
    cases c with
    | tmp t =>
      simp only [codeK] at h
      split at h
      · rename_i b hl
        obtain ⟨v, h1, h2⟩ := hsim.slot t _ hl
        have h2 : [v] = [.bool b] := h2
        have h2 := (List.cons.inj h2).1
        subst h2
        have hv : a.eval (.tmp t) = .bool b := by
          show a.tmps.getD t Go.undef = _
          rw [Array.getD_eq_getD_getElem?, h1]
          rfl
        have hls := look_same hl
        cases b with
        | true => exact wp_cond_true hv (ihx _ K Q h μ a w (by rw [hls]; exact hsim) hn he hr)
        | false => exact wp_cond_false hv (ihy _ K Q h μ a w (by rw [hls]; exact hsim) hn he hr)
      · cases h
    | _ => cases h
  | block id b ih =>
    intro st K Q h μ a w hsim hn he hr
    refine wp_block (ih st _ _ h μ a w hsim hn (fun i st' μ' a' w' h1 h2 => ?_) hr)
    have h1 : cond (Nat.beq i id) (K.norm st') (K.exit i st') = some r := h1
    show if i = id then Q .normal a' w' else Q (.exit i) a' w'
    by_cases e : i = id
    · rw [if_pos e]
      rw [e, Nat.beq_refl] at h1
      exact hn st' μ' a' w' h1 h2
    · rw [if_neg e]
      have : Nat.beq i id = false := by
        cases hb : Nat.beq i id with
        | false => rfl
        | true => exact absurd (nbeq hb) e
      rw [this] at h1
      exact he i st' μ' a' w' h1 h2
  | loop b ih =>
    intro st K Q h μ a w hsim hn he hr
    simp only [codeK] at h
    split at h
    · rename_i L ms hlv
      obtain ⟨st0, h1, h⟩ := bind_some h
      obtain ⟨μ0, hsim0⟩ := head_sound hTS h1 hsim
      refine wp_loop_rounds k ?_
      have key : ∀ n st0 μ0 a w, loopN n (fun st' kn => codeK T G lv k nt b st' { K with norm := fun st'' => (head T L ms st'').bind kn }) st0 = some r → Sim S0 w0 nt μ0 (look st0) a w → Code.rounds P b Q n a w := by
        intro n
        induction n with
        | zero => intro st0 μ0 a w h _; cases h
        | succ n ihn =>
          intro st0 μ0 a w h hs
          rw [rounds_succ]
          refine ih st0 _ _ h μ0 a w hs (fun st' μ' a' w' h3 h4 => ?_) (fun i st' μ' a' w' h3 h4 => he i st' μ' a' w' h3 h4) (fun st' μ' a' w' h3 h4 => hr st' μ' a' w' h3 h4)
          obtain ⟨st1, h5, h6⟩ := bind_some h3
          obtain ⟨μ1, h7⟩ := head_sound hTS h5 h4
          exact ihn st1 μ1 a' w' h6 h7
      exact key k st0 μ0 a w h hsim0
    · rename_i m hlv
      refine wp_loop_rounds m ?_
      have key : ∀ n st0 μ0 a w, loopN n (fun st' kn => codeK T G lv k nt b st' { K with norm := kn }) st0 = some r → Sim S0 w0 nt μ0 (look st0) a w → Code.rounds P b Q n a w := by
        intro n
        induction n with
        | zero => intro st0 μ0 a w h _; cases h
        | succ n ihn =>
          intro st0 μ0 a w h hs
          rw [rounds_succ]
          exact ih st0 _ _ h μ0 a w hs (fun st' μ' a' w' h3 h4 => ihn st' μ' a' w' h3 h4) (fun i st' μ' a' w' h3 h4 => he i st' μ' a' w' h3 h4) (fun st' μ' a' w' h3 h4 => hr st' μ' a' w' h3 h4)
      exact key m st μ a w h hsim
    · cases h
  | exit id => intro st K Q h μ a w hsim hn he hr; exact wp_exit (he id st μ a w h hsim)
  | ret => intro st K Q h μ a w hsim hn he hr; exact wp_ret (hr st μ a w h hsim)
  | _ => intro st K Q h; cases h

/-! ### Functions -/
theorem init_look : ∀ {xs : List Fl} {i l : Nat} {v : Lv}, look (initSt i xs) l = some v → ∃ j x, l = 2 * (i + j) ∧ xs[j]? = some x ∧ v = .tv (.f x)
  | [], _, _, _, h => by cases h
  | x :: xs, i, l, v, h => by
    show ∃ j y, _
    simp only [initSt] at h
    rw [look_cons] at h
    by_cases e : l = 2 * i
    · rw [if_pos e] at h
      injection h with h
      exact ⟨0, x, by omega, rfl, h.symm⟩
    · rw [if_neg e] at h
      obtain ⟨j, y, h1, h2, h3⟩ := init_look h
      exact ⟨j + 1, y, by omega, by simpa using h2, h3⟩

theorem FlsRel_get {μ : Nat → Value} {S : Nat → Prop} {w : World} : ∀ {xs : List Fl} {vs : List Value} {j : Nat} {x : Fl}, FlsRel μ S w xs vs → xs[j]? = some x → ∃ v, vs[j]? = some v ∧ FlRel μ S w x v
  | [], _, _, _, _, h => by cases h
  | y :: xs, _, 0, x, ⟨v, r, hv, h1, h2⟩, h => by
    subst hv
    simp at h
    subst h
    exact ⟨v, rfl, h1⟩
  | y :: xs, _, j + 1, x, ⟨v, r, hv, h1, h2⟩, h => by
    subst hv
    obtain ⟨u, h3, h4⟩ := FlsRel_get h2 (j := j) (by simpa using h)
    exact ⟨u, by simpa using h3, h4⟩

theorem Vals_len {S : Nat → Prop} {w : World} : ∀ {ts : List Ty} {x : Dens ts} {vs : List Value}, Vals S w ts x vs → vs.length = ts.length
  | [], _, _, h => by
    have h : _ = [] := h
    subst h
    rfl
  | t :: ts, _, _, ⟨v, r, h, _, h2⟩ => by
    subst h
    rw [List.length_cons, List.length_cons, Vals_len h2]

theorem init_sim {ts : List Ty} {x : Dens ts} {vs : List Value} {S : Nat → Prop} {w : World} (hS : ∀ j, S j → j < w.heap.size) (hv : Vals S w ts x vs) (hn : ts.length ≤ nt) :
    Sim S w nt (fun _ => Go.undef) (look (initSt 0 (flsOf ts x))) { tmps := vs.toArray ++ Array.replicate (nt - vs.toArray.size) Go.undef, defers := [] } w := by
  have hlen := Vals_len hv
  have noobj : ∀ id lv, look (initSt 0 (flsOf ts x)) (2 * id + 1) = some lv → False := fun id lv h => by
    obtain ⟨j, y, h1, _⟩ := init_look h
    omega
  have hlive : ∀ k, live S (fun _ => Go.undef) (look (initSt 0 (flsOf ts x))) k → S k := by
    rintro k (hk | ⟨id, lv, h1, _⟩)
    · exact hk
    · exact (noobj id lv h1).elim
  refine ⟨hS, Below.refl _ _, by simp; omega, rfl, fun s y hs => ?_, fun s hs => ?_, fun id lv h => (noobj id lv h).elim, fun i j y z k hi => (noobj i y hi).elim⟩
  · obtain ⟨j, z, h1, h2, h3⟩ := init_look hs
    injection h3 with h3
    subst h3
    have hr := flsOf_rel (fun _ => Go.undef) ts (hv.move (Agree.refl _ _) (S' := live S (fun _ => Go.undef) (look (initSt 0 (flsOf ts x)))) (fun k _ hk => hlive k hk))
    obtain ⟨v, h4, h5⟩ := FlsRel_get hr h2
    obtain rfl : s = j := by omega
    refine ⟨v, ?_, h5⟩
    have hlt : s < vs.length := by
      rcases Nat.lt_or_ge s vs.length with h | h
      · exact h
      · rw [List.getElem?_eq_none h] at h4; cases h4
    show (vs.toArray ++ _)[s]? = _
    rw [Array.getElem?_append_left (by simpa using hlt), List.getElem?_toArray]
    exact h4
  · obtain ⟨j, z, h1, h2, h3⟩ := init_look hs
    cases h3

def resVar (tmps : Array Value) : ResultVar → Sem Value
  | .tmp t => pure (tmps.getD t Go.undef)
  | .cell p t => asAddr (tmps.getD p Go.undef) >>= fun ad => loadVar t ad

theorem results_eq (fn : Func) (tmps : Array Value) : results fn tmps = (fn.results.mapM (resVar tmps) >>= fun vs => pure (if h : vs.size = 1 then vs[0] else .tuple vs)) := by
  unfold results
  congr 1

theorem run_resVars (hTS : TypesOK P T) {st : St} {S0 : Nat → Prop} {w0 : World} {μ : Nat → Value} {a : Act} {w : World} (hsim : Sim S0 w0 nt μ (look st) a w) : ∀ {rs : List ResultVar} {l : List Fl}, resFls T st rs = some l →
    ∃ vs, (rs.mapM (resVar a.tmps)).run P w = .ok vs w ∧ FlsRel μ (live S0 μ (look st)) w l vs
  | [], _, h => by
    injection h with h
    subst h
    exact ⟨[], by simp, rfl⟩
  | .tmp t :: rs, _, h => by
    simp only [resFls] at h
    obtain ⟨x, h1, h⟩ := bind_some h
    obtain ⟨l, h2, h⟩ := bind_some h
    injection h with h
    subst h
    obtain ⟨vs, h3, h4⟩ := run_resVars hTS hsim h2
    have hv := evF_rel hsim (o := .tmp t) rfl h1
    refine ⟨a.tmps.getD t Go.undef :: vs, ?_, _, _, rfl, hv, h4⟩
    simp only [List.mapM_cons, resVar, Sem.run_bind, Sem.run_pure, Result.andThen_ok, h3]
  | .cell p t :: rs, _, h => by
    simp only [resFls] at h
    obtain ⟨ti, h0, h⟩ := bind_some h
    obtain ⟨c, h1, h⟩ := bind_some h
    split at h
    · rename_i id off
      split at h
      · rename_i cs hl
        obtain ⟨x, h5, h⟩ := bind_some h
        obtain ⟨l, h2, h⟩ := bind_some h
        injection h with h
        subst h
        obtain ⟨vs, h3, h4⟩ := run_resVars hTS hsim h2
        obtain ⟨g, h6, h7⟩ := evC_rel hsim (o := .tmp p) rfl h1
        obtain ⟨g', us, Ty', h8, _, h9, h10⟩ := hsim.obj id _ hl
        rw [h6] at h8
        have hg : g = g' := by injection h8 with h8; injection h8 with h8; injection h8
        subst hg
        obtain ⟨v, h11, h12⟩ := load_at (hTS _ _ h0) h5 h10 (ad := ⟨g, off, none⟩) (box_cells h9 off)
        have h7 : a.tmps.getD p Go.undef = .pointer (some ⟨g, off, none⟩) := h7
        refine ⟨v :: vs, ?_, _, _, rfl, h12, h4⟩
        simp only [List.mapM_cons, resVar, Sem.run_bind, Sem.run_pure, Result.andThen_ok, h3, h7, asAddr, h11]
      · cases h
    · cases h

theorem run_results (hTS : TypesOK P T) {fn : Func} {st : St} {S0 : Nat → Prop} {w0 : World} {μ : Nat → Value} {a : Act} {w : World} (hsim : Sim S0 w0 nt μ (look st) a w) {rs : List Ty} {l : List Fl} {y : Dens rs} (h1 : resFls T st fn.results.toList = some l) (h2 : ofFls false st rs l = some y) :
    ∃ v, (results fn a.tmps).run P w = .ok v w ∧ Ret S0 w rs y v := by
  obtain ⟨vs, h3, h4⟩ := run_resVars hTS hsim h1
  have hids := ofFls_ids rs h2
  have haway : Away μ S0 (l.flatMap fun x => cellIds x.cells) := by
    intro i hi k hk hS
    obtain ⟨_, e, t, xs, hl⟩ := hids i hi
    have := ((hsim.obj i _ hl).lt rfl hk).1
    have := hsim.low k hS
    omega
  have hv := ofFls_rd hsim (S' := S0) (fun k hk => .inl hk) rs (fun _ _ => rfl) haway h4 h2
  refine ⟨tupled vs, ?_, vs, hv, rfl⟩
  rw [results_eq, Array.mapM_eq_mapM_toList]
  simp only [Sem.run_bind, Sem.run_map, h3, Result.andThen_ok, Sem.run_pure]
  match vs with
  | [] => rfl
  | [v] => rfl
  | _ :: _ :: _ => rfl

theorem fn_contract (hTS : TypesOK P T) (hG : EnvOK P G) (hmo : P.follows .mixedOrders = true) {f : FuncId} {fn : Func} {lv : Nat → Lp} {ts rs : List Ty} {run : Nat → Dens ts → Option (Dens rs)} (hbody : fn.body.isSome = true) (hf : P.funcs[f]? = some fn) (hname : (fn.name == "runtime.NumGoroutine") = false) (hn : Nat.ble ts.length fn.ntmps = true)
    (hr : ∀ k x, fnK T G lv k fn ts rs x = run k x) : Contract P f ⟨ts, rs, run, .no⟩ where
  enters := fun args w => by
    cases hb : fn.body with
    | none => rw [hb] at hbody; cases hbody
    | some c =>
      unfold callFunc
      simp [hf, hb, beq_eq_false_iff_ne.1 hname]
  calls := fun k x y hx S vs w hS hv => by
    have hx : run k x = some y := hx
    rw [← hr] at hx
    unfold fnK at hx
    cases hb : fn.body with
    | none => rw [hb] at hx; cases hx
    | some c =>
      rw [hb] at hx
      have hsim := init_sim hS hv (nle hn)
      refine calls_of_wp hf hb (code_sound hTS hG hmo c _ _ _ hx _ _ w hsim (fun st' μ' a' w' h1 h2 => ?_) (fun i st' μ' a' w' h1 h2 => by cases h1) (fun st' μ' a' w' h1 h2 => ?_))
      · obtain ⟨l, h3, h4⟩ := bind_some h1
        obtain ⟨v, h5, h6⟩ := run_results hTS h2 h3 h4
        exact ⟨h2.defers, v, h5, v, rfl, h6, h2.below⟩
      · obtain ⟨l, h3, h4⟩ := bind_some h1
        obtain ⟨v, h5, h6⟩ := run_results hTS h2 h3 h4
        exact ⟨h2.defers, v, h5, v, rfl, h6, h2.below⟩

end Go.Ab
