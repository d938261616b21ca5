/- Regions: the ordered ones, and those whose order is open. -/
import Derived.Test.YtnifcbofkodjeaaWaAbLx
set_option linter.unusedVariables false
set_option linter.unusedSimpArgs false
namespace Go.Ab
open Go.RowKit

variable {P : Program} {T : Nat → Option TI} {G : Env} {ops : Array Oper} {nt : Nat}

/-- What a guard says of a state. -/
def GIs (ops : Array Oper) (o : Oper) (st : St) (b : Bool) : Prop :=
  ∀ (S0 : Nat → Prop) (w0 : World) (nt : Nat) (μ : Nat → Value) (FS : Nat → Option Lv) (a : Act) (w : World), (∀ l, l ∈ gslot ops o → FS l = look st l) → Sim S0 w0 nt μ FS a w → Region.wanted o (yielded ops a.tmps) = b

theorem look_same {st : St} {n : Nat} {v : Lv} (h : look st n = some v) : look ((n, v) :: st) = look st := by
  funext l
  rw [look_cons]
  by_cases e : l = n
  · subst e
    rw [if_pos rfl, h]
  · rw [if_neg e]

theorem guard_out {R : Type} {o : Oper} {st : St} {Y N : St → Option R} {r : R} (h : guardK ops o st Y N = some r) :
    (∃ st1, look st1 = look st ∧ Y st1 = some r ∧ GIs ops o st1 true) ∨ (∃ st1, look st1 = look st ∧ N st1 = some r ∧ GIs ops o st1 false) := by
  unfold guardK at h
  split at h
  · rename_i hg
    exact .inl ⟨st, rfl, h, fun _ _ _ _ _ _ _ _ _ => by unfold Region.wanted; rw [hg]⟩
  · rename_i j want hg
    split at h
    · rename_i s hs
      have hgs : gslot ops o = [2 * s] := by
        unfold gslot
        rw [hg]
        simp only [hs]
      split at h
      · rename_i hl
        refine .inr ⟨st, rfl, h, fun S0 w0 nt μ FS a w hr hsim => ?_⟩
        have := hsim.undef s (by rw [hr (2 * s) (by rw [hgs]; exact List.mem_singleton.2 rfl)]; exact hl)
        unfold Region.wanted yielded
        rw [hg]
        simp only [hs, Option.bind_some, this, undef]
        rfl
      · rename_i b hl
        have hbool : ∀ (st1 : St), look st1 = look st → ∀ S0 w0 nt μ FS a w, (∀ l, l ∈ gslot ops o → FS l = look st1 l) → Sim S0 w0 nt μ FS a w → Region.wanted o (yielded ops a.tmps) = (b == want) := by
          intro st1 h1 S0 w0 nt μ FS a w hr hsim
          obtain ⟨v, h2, h3⟩ := hsim.slot s (.f (.c (.v .bool b))) (by rw [hr (2 * s) (by rw [hgs]; exact List.mem_singleton.2 rfl), h1]; exact hl)
          have h3 : [v] = [.bool b] := h3
          have h3 := (List.cons.inj h3).1
          subst h3
          unfold Region.wanted yielded
          rw [hg]
          simp only [hs, Option.bind_some, h2]
          cases b <;> cases want <;> rfl
        have hls := look_same hl
        cases b with
        | true =>
          cases want with
          | true => exact .inl ⟨_, hls, h, hbool _ hls⟩
          | false => exact .inr ⟨_, hls, h, hbool _ hls⟩
        | false =>
          cases want with
          | true => exact .inr ⟨_, hls, h, hbool _ hls⟩
          | false => exact .inl ⟨_, hls, h, hbool _ hls⟩
      · cases h
    · cases h

/-- What one operation does, wherever it comes. -/
def Does (P : Program) (ops : Array Oper) (nt : Nat) (o : Oper) (rd : List Nat) (st : St) (eff : St) : Prop :=
  ∀ (S0 : Nat → Prop) (w0 : World) (μ : Nat → Value) (FS : Nat → Option Lv) (a : Act) (w : World), (∀ l, l ∈ rd → FS l = look st l) →
    (∀ n, o.dst = some n → fresh st n = true → 2 * n + 1 ∈ eff.map (·.1) → FreshFS FS n) → Sim S0 w0 nt μ FS a w →
    ∀ (K : Act → World → Prop) (Q : Exit → Act → World → Prop), (∀ μ' a' w', Sim S0 w0 nt μ' (over eff FS) a' w' → K a' w') →
      if Region.wanted o (yielded ops a.tmps) then o.wp P a w K Q ∨ (o.asks P a w ∧ LetsOut Q) else K (a.put o.dst undef) w

theorem over_cons (n : Nat) (lv : Lv) (eff : St) (FS : Nat → Option Lv) : over ((n, lv) :: eff) FS = fun l => if l = n then some lv else over eff FS l := by
  funext l
  unfold over
  rw [look_cons]
  by_cases e : l = n
  · rw [if_pos e, if_pos e]
  · rw [if_neg e, if_neg e]

theorem over_app (eff st : St) : over eff (look st) = look (eff ++ st) := by
  funext l
  rw [look_append]
  rfl

def effOf (o : Oper) (tv : TV) (eff : St) : St := match o.dst with | some d => (2 * d, .tv tv) :: eff | none => eff

theorem does_step {o : Oper} {st : St} {tv : TV} {eff : St} (hg : GIs ops o st true) (hs : StepOK P o.op st o.dst tv eff) (hd : ∀ d, o.dst = some d → d < nt) : Does P ops nt o (reads ops o st) st (effOf o tv eff) := by
  intro S0 w0 μ FS a w hr hf hsim K Q hK
  have hw := hg S0 w0 nt μ FS a w (fun l hl => hr l (List.mem_append_left _ hl)) hsim
  rw [hw, if_pos rfl]
  refine .inl (hs S0 w0 nt μ FS a w o rfl (fun l hl => hr l (List.mem_append_right _ hl)) (fun n h1 h2 h3 => hf n h1 h2 ?_) hsim K Q fun v w' μ' h1 h2 => ?_)
  · unfold effOf
    rw [h1]
    exact List.mem_cons_of_mem _ h3
  · refine hK μ' _ _ ?_
    unfold effOf
    cases hdst : o.dst with
    | none => exact h1
    | some d =>
      simp only
      rw [over_cons]
      exact h1.put (hd d hdst) h2

def skipOf (o : Oper) : St := match o.dst with | some d => [(2 * d, .undef)] | none => []

theorem does_skip {o : Oper} {st : St} (hg : GIs ops o st false) (hd : ∀ d, o.dst = some d → d < nt) : Does P ops nt o (reads ops { o with op := .ready 0 } st) st (skipOf o) := by
  intro S0 w0 μ FS a w hr hf hsim K Q hK
  have hw := hg S0 w0 nt μ FS a w (fun l hl => hr l (List.mem_append_left _ hl)) hsim
  rw [hw, if_neg (by simp)]
  refine hK μ _ _ ?_
  unfold skipOf
  cases hdst : o.dst with
  | none => exact hsim
  | some d =>
    simp only
    rw [over_cons]
    exact hsim.putUndef (hd d hdst)

/-! ### In the text's order -/
theorem blt_lt {a b : Nat} (h : Nat.blt a b = true) : a < b := Nat.le_of_ble_eq_true h

theorem ops_sound (hTS : TypesOK P T) (hG : EnvOK P G) {R : Type} {k : Nat} {r : R} {Q : Exit → Act → World → Prop} : ∀ (l pre : List Oper) (st : St) (K : St → Option R), ops.toList = pre ++ l → opsK T G k nt ops l st K = some r →
    ∀ (S0 : Nat → Prop) (w0 : World) (μ : Nat → Value) (a : Act) (w : World), Sim S0 w0 nt μ (look st) a w → (∀ st' μ' a' w', K st' = some r → Sim S0 w0 nt μ' (look st') a' w' → Q .normal a' w') →
      wpOps P ops Q (List.range' pre.length l.length) a w
  | [], _, st, K, _, h, S0, w0, μ, a, w, hsim, hK => hK st μ a w h hsim
  | o :: l, pre, st, K, hops, h, S0, w0, μ, a, w, hsim, hK => by
    have ho : ops[pre.length]? = some o := by
      rw [← Array.getElem?_toList, hops, List.getElem?_append_right (Nat.le_refl _), Nat.sub_self]
      rfl
    have hops' : ops.toList = (pre ++ [o]) ++ l := by rw [hops]; simp
    have hlen : (pre ++ [o]).length = pre.length + 1 := by simp
    have key : ∀ {rd : List Nat} {st1 eff : St}, look st1 = look st → Does P ops nt o rd st1 eff → opsK T G k nt ops l (eff ++ st1) K = some r → wpOps P ops Q (List.range' pre.length (o :: l).length) a w := by
      intro rd st1 eff h1 h2 h3
      rw [List.length_cons, List.range'_succ, wpOps_cons]
      unfold wpOp
      rw [ho]
      refine h2 S0 w0 μ (look st) a w (fun l _ => by rw [h1]) (fun n _ hf _ => by rw [← h1]; exact fresh_look hf) hsim _ Q fun μ' a' w' h4 => ?_
      have h4 : Sim S0 w0 nt μ' (look (eff ++ st1)) a' w' := by rw [← over_app, h1]; exact h4
      have := ops_sound hTS hG l (pre ++ [o]) (eff ++ st1) K hops' h3 S0 w0 μ' a' w' h4 hK
      rw [hlen] at this
      exact this
    rcases guard_out (show guardK ops o st _ _ = some r from h) with ⟨st1, h1, h2, h3⟩ | ⟨st1, h1, h2, h3⟩
    · unfold stepK at h2
      split at h2
      · rename_i b tv eff hsp
        obtain ⟨hb, h4⟩ := chk_some h2
        have h5 := spK_sound hG hsp hb
        have fin : opsK T G k nt ops l (effOf o tv eff ++ st1) K = some r → (∀ d, o.dst = some d → d < nt) → wpOps P ops Q (List.range' pre.length (o :: l).length) a w := by
          intro h6 hd
          rw [List.length_cons, List.range'_succ, wpOps_cons]
          unfold wpOp
          rw [ho]
          have hsim1 : Sim S0 w0 nt μ (look st1) a w := by rw [h1]; exact hsim
          have hwt := h3 S0 w0 nt μ (look st1) a w (fun l _ => rfl) hsim1
          simp only [hwt, if_true]
          refine .inl (h5 S0 w0 nt μ a w o rfl hsim1 _ Q fun v w' μ' h7 h8 => ?_)
          have h9 : Sim S0 w0 nt μ' (look (effOf o tv eff ++ st1)) (a.put o.dst v) w' := by
            rw [← over_app]
            unfold effOf
            cases hdst : o.dst with
            | none => exact h7
            | some d =>
              simp only
              rw [over_cons]
              exact h7.put (hd d hdst) h8
          have := ops_sound hTS hG l (pre ++ [o]) (effOf o tv eff ++ st1) K hops' h6 S0 w0 μ' _ w' h9 hK
          rw [hlen] at this
          exact this
        cases hd : o.dst with
        | none =>
          rw [hd] at h4
          refine fin ?_ (fun d e => by rw [hd] at e; cases e)
          unfold effOf
          rw [hd]
          exact h4
        | some d =>
          rw [hd] at h4
          obtain ⟨h6, h4⟩ := chk_some h4
          refine fin ?_ (fun d' e => by rw [hd] at e; injection e with e; subst e; exact blt_lt h6)
          unfold effOf
          rw [hd]
          exact h4
      rename_i hsp
      obtain ⟨tv, eff, h4, h5⟩ := opK_sound hTS hG h2
      cases hd : o.dst with
      | none =>
        rw [hd] at h4
        refine key h1 (does_step h3 h5 (fun d e => by rw [hd] at e; cases e)) ?_
        unfold effOf
        rw [hd]
        exact h4
      | some d =>
        rw [hd] at h4
        obtain ⟨h6, h4⟩ := chk_some h4
        refine key h1 (does_step h3 h5 (fun d' e => by rw [hd] at e; injection e with e; subst e; exact blt_lt h6)) ?_
        unfold effOf
        rw [hd]
        exact h4
    · unfold skipK at h2
      cases hd : o.dst with
      | none =>
        rw [hd] at h2
        refine key h1 (does_skip h3 (fun d e => by rw [hd] at e; cases e)) ?_
        unfold skipOf
        rw [hd]
        exact h2
      | some d =>
        rw [hd] at h2
        obtain ⟨h6, h4⟩ := chk_some h2
        refine key h1 (does_skip h3 (fun d' e => by rw [hd] at e; injection e with e; subst e; exact blt_lt h6)) ?_
        unfold skipOf
        rw [hd]
        exact h4

theorem region_sound (hTS : TypesOK P T) (hG : EnvOK P G) {R : Type} {k id : Nat} {r : R} {Q : Exit → Act → World → Prop} {st : St} {K : St → Option R} (h : opsK T G k nt ops ops.toList st K = some r)
    {S0 : Nat → Prop} {w0 : World} {μ : Nat → Value} {a : Act} {w : World} (hsim : Sim S0 w0 nt μ (look st) a w) (hK : ∀ st' μ' a' w', K st' = some r → Sim S0 w0 nt μ' (look st') a' w' → Q .normal a' w') :
    (Code.region id ops false).wp P Q a w := by
  have := ops_sound hTS hG ops.toList [] st K rfl h S0 w0 μ a w hsim hK
  rw [List.length_nil, Array.length_toList, ← List.range_eq_range'] at this
  exact wp_region this

/-! ### In any order -/
def after (f : Nat → Option Lv) (rs : List (Rec × St)) : Nat → Option Lv := rs.foldl (fun f p => over p.2 f) f

def RecOK (o : Oper) (p : Rec × St) : Prop := p.1.wr = p.2.map (·.1) ∧ p.1.nm = (p.2.flatMap fun q => lvIds q.2) ∧ (∀ d, o.dst = some d → 2 * d + 1 ∈ p.2.map (·.1) → p.1.made = some d)

def Trace (P : Program) (ops : Array Oper) (nt : Nat) : List Oper → (Nat → Option Lv) → List (Rec × St) → Prop
  | [], _, rs => rs = []
  | o :: r, f, rs => ∃ p q st1, rs = p :: q ∧ look st1 = f ∧ RecOK o p ∧ Does P ops nt o p.1.rd st1 p.2 ∧ Trace P ops nt r (over p.2 f) q

theorem recOf_ok (o : Oper) (st w : St) (o' : Oper) (hd : o'.dst = o.dst) : RecOK o (recOf ops o' st w, w) := by
  refine ⟨rfl, rfl, fun d h1 h2 => ?_⟩
  unfold recOf
  simp only [hd, h1]
  have : (w.any fun p => Nat.beq p.1 (2 * d + 1)) = true := by
    obtain ⟨p, hp, he⟩ := List.mem_map.1 h2
    refine List.any_eq_true.2 ⟨p, hp, ?_⟩
    rw [he]
    exact Nat.beq_refl _
  rw [this]
  rfl

theorem opsD_trace (hTS : TypesOK P T) (hG : EnvOK P G) {R : Type} {k : Nat} {r : R} : ∀ (l : List Oper) (st : St) (rs : List (Rec × St)) (K : St → List (Rec × St) → Option R), opsD T G k nt ops l st rs K = some r →
    ∃ rs2 st', Trace P ops nt l (look st) rs2 ∧ K st' (rs ++ rs2) = some r ∧ look st' = after (look st) rs2
  | [], st, rs, K, h => ⟨[], st, rfl, by rw [List.append_nil]; exact h, rfl⟩
  | o :: l, st, rs, K, h => by
    have key : ∀ {st1 eff : St} {p : Rec}, look st1 = look st → RecOK o (p, eff) → Does P ops nt o p.rd st1 eff → opsD T G k nt ops l (eff ++ st1) (rs ++ [(p, eff)]) K = some r →
        ∃ rs2 st', Trace P ops nt (o :: l) (look st) rs2 ∧ K st' (rs ++ rs2) = some r ∧ look st' = after (look st) rs2 := by
      intro st1 eff p h1 h2 h3 h4
      obtain ⟨rs2, st', h5, h6, h7⟩ := opsD_trace hTS hG l _ _ K h4
      refine ⟨(p, eff) :: rs2, st', ⟨(p, eff), rs2, st1, rfl, h1, h2, h3, ?_⟩, ?_, ?_⟩
      · rw [← h1, over_app]
        exact h5
      · rw [List.append_assoc] at h6
        exact h6
      · rw [h7]
        show after _ rs2 = after (over eff (look st)) rs2
        rw [← h1, over_app]
    rcases guard_out (show guardK ops o st _ _ = some r from h) with ⟨st1, h1, h2, h3⟩ | ⟨st1, h1, h2, h3⟩
    · obtain ⟨tv, eff, h4, h5⟩ := opK_sound hTS hG h2
      cases hd : o.dst with
      | none =>
        rw [hd] at h4
        have hdo := does_step (nt := nt) h3 h5 (fun d e => by rw [hd] at e; cases e)
        have he : effOf o tv eff = eff := by unfold effOf; rw [hd]
        rw [he] at hdo
        exact key h1 (recOf_ok o st1 eff o rfl) hdo h4
      | some d =>
        rw [hd] at h4
        obtain ⟨h6, h4⟩ := chk_some h4
        have hdo := does_step (nt := nt) h3 h5 (fun d' e => by rw [hd] at e; injection e with e; subst e; exact blt_lt h6)
        have he : effOf o tv eff = (2 * d, .tv tv) :: eff := by unfold effOf; rw [hd]
        rw [he] at hdo
        exact key h1 (recOf_ok o st1 _ o rfl) hdo h4
    · cases hd : o.dst with
      | none =>
        rw [hd] at h2
        have hdo := does_skip (P := P) (nt := nt) h3 (fun d e => by rw [hd] at e; cases e)
        have he : skipOf o = [] := by unfold skipOf; rw [hd]
        rw [he] at hdo
        exact key h1 (recOf_ok o st1 [] { o with op := .ready 0 } rfl) hdo (by rw [hd]; exact h2)
      | some d =>
        rw [hd] at h2
        obtain ⟨h6, h4⟩ := chk_some h2
        have hdo := does_skip (P := P) (nt := nt) h3 (fun d' e => by rw [hd] at e; injection e with e; subst e; exact blt_lt h6)
        have he : skipOf o = [(2 * d, .undef)] := by unfold skipOf; rw [hd]
        rw [he] at hdo
        exact key h1 (recOf_ok o st1 [(2 * d, .undef)] { o with op := .ready 0 } rfl) hdo (by rw [hd]; exact h4)

end Go.Ab
