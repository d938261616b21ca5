/- Types, told by a check; environments, told by contracts. -/
import Derived.Test.YtnifcbofkodjeaaWaAbP
set_option linter.unusedVariables false
namespace Go.Ab

def valB : Cell → Value → Bool
  | .v (.int k) n, .int k' m => decide (k = k') && decide (n = m)
  | .v .bool b, .bool c => b == c
  | .v .str l, .string s => match l, s.data.toList with | [], [] => true | _, _ => false
  | .nil, .slice none 0 0 => true
  | .v (.nul false) _, .pointer none => true
  | .v (.nul true) _, .map none => true
  | _, _ => false

def valsB : List Cell → List Value → Bool
  | [], [] => true
  | c :: cs, v :: vs => valB c v && valsB cs vs
  | _, _ => false

theorem valB_rel {c : Cell} {v : Value} (h : valB c v = true) (μ : Nat → Value) (S : Nat → Prop) (w : World) : CellRel μ S w c v := by
  unfold valB at h
  split at h
  · obtain ⟨h1, h2⟩ := band h
    have h1 := of_decide_eq_true h1
    have h2 := of_decide_eq_true h2
    subst h1 h2
    exact rfl
  · have h := beq_iff_eq.1 h
    subst h
    exact rfl
  · rename_i l s
    split at h
    · rename_i hl hs
      obtain ⟨⟨d⟩⟩ := s
      have hd : d = [] := hs
      subst hd
      exact rfl
    · cases h
  · exact rfl
  · exact rfl
  · exact rfl
  · cases h

theorem valsB_rel : ∀ {cs : List Cell} {vs : List Value}, valsB cs vs = true → ∀ (μ : Nat → Value) (S : Nat → Prop) (w : World), AllRel μ S w cs vs
  | [], [], _, _, _, _ => rfl
  | c :: cs, v :: vs, h, μ, S, w => by
    obtain ⟨h1, h2⟩ := band h
    exact ⟨v, vs, rfl, valB_rel h1 μ S w, valsB_rel h2 μ S w⟩
  | [], _ :: _, h, _, _, _ => by cases h
  | _ :: _, [], h, _, _, _ => by cases h

/-- The cells of a type's first value. -/
def dfltCells : Ty → List Value
  | .int k => [.int k 0]
  | .bool => [.bool false]
  | .str => [.string ⟨#[]⟩]
  | .sl _ => [.slice none 0 0]
  | .pair a b => dfltCells a ++ dfltCells b
  | .nul m => [cond m (.map none) (.pointer none)]
  | _ => []

def plainTy : Ty → Bool
  | .pair a b => plainTy a && plainTy b
  | .refp _ => false
  | .fn _ _ => false
  | _ => true

def sameV : Value → Value → Bool
  | .int k n, .int k' m => decide (k = k') && decide (n = m)
  | .bool b, .bool c => b == c
  | .string s, .string s' => match s.data.toList, s'.data.toList with | [], [] => true | _, _ => false
  | .slice none 0 0, .slice none 0 0 => true
  | .pointer none, .pointer none => true
  | .map none, .map none => true
  | _, _ => false
def sameVs : List Value → List Value → Bool
  | [], [] => true
  | a :: as, b :: bs => sameV a b && sameVs as bs
  | _, _ => false

theorem sameV_eq {a b : Value} (h : sameV a b = true) : a = b := by
  unfold sameV at h
  split at h
  · obtain ⟨h1, h2⟩ := band h
    rw [of_decide_eq_true h1, of_decide_eq_true h2]
  · rw [beq_iff_eq.1 h]
  · rename_i s s'
    split at h
    · rename_i h1 h2
      obtain ⟨⟨d⟩⟩ := s
      obtain ⟨⟨d'⟩⟩ := s'
      have h1 : d = [] := h1
      have h2 : d' = [] := h2
      subst h1 h2
      rfl
    · cases h
  · rfl
  · rfl
  · rfl
  · cases h

theorem sameVs_eq : ∀ {a b : List Value}, sameVs a b = true → a = b
  | [], [], _ => rfl
  | x :: a, y :: b, h => by
    obtain ⟨h1, h2⟩ := band h
    rw [sameV_eq h1, sameVs_eq h2]
  | [], _ :: _, h => by cases h
  | _ :: _, [], h => by cases h

theorem dflt_rd {S : Nat → Prop} {w : World} : ∀ {t : Ty}, plainTy t = true → Rd S w t t.dflt (dfltCells t)
  | .int _, _ => rfl
  | .bool, _ => rfl
  | .str, _ => rfl
  | .sl _, _ => nil_rd
  | .pair a b, h => by
    obtain ⟨h1, h2⟩ := band h
    exact ⟨_, _, rfl, dflt_rd h1, dflt_rd h2⟩
  | .refp _, h => by cases h
  | .fn _ _, h => by cases h
  | .nul _, _ => rfl

def descB (ti : TI) (d : TypeDesc) : Bool :=
  match ti.k with
  | .one => (match ti.ty, d with
    | .int k, .int k' => decide (k = k')
    | .bool, .bool => true
    | .str, .string => true
    | _, _ => false)
  | .struct fs => (match d with
    | .struct fields => decide (fields.toList.map (fun f => (f.offset, f.type)) = fs) && fields.toList.all (fun f => !(f.name == "_"))
    | _ => false)
  | .slice e => (match d with | .slice e' => Nat.beq e' e | _ => false)
  | .array n e => (match d with | .array n' e' => Nat.beq n' n && Nat.beq e' e | _ => false)
  | .map k e => (match d with | .map k' e' => Nat.beq k' k && Nat.beq e' e | _ => false)
  | .bld => (match d with | .struct _ => true | _ => false)

theorem descB_ok {ti : TI} {d : TypeDesc} (h : descB ti d = true) : KOK ti d := by
  unfold descB at h
  unfold KOK
  split at h
  · rename_i hk
    simp only [hk]
    split at h
    · rename_i h1
      rw [h1]
      simp only
      rw [of_decide_eq_true h]
    · rename_i h1
      rw [h1]
    · rename_i h1
      rw [h1]
    · cases h
  · rename_i fs hk
    simp only [hk]
    split at h
    · rename_i fields
      obtain ⟨h1, h2⟩ := band h
      refine ⟨fields, rfl, of_decide_eq_true h1, fun f hf => ?_⟩
      have := List.all_eq_true.1 h2 f hf
      simpa using this
    · cases h
  · rename_i e hk
    simp only [hk]
    split at h
    · rw [nbeq h]
    · cases h
  · rename_i n e hk
    simp only [hk]
    split at h
    · obtain ⟨h1, h2⟩ := band h
      rw [nbeq h1, nbeq h2]
    · cases h
  · rename_i k e hk
    simp only [hk]
    split at h
    · obtain ⟨h1, h2⟩ := band h
      rw [nbeq h1, nbeq h2]
    · cases h
  · rename_i hk
    simp only [hk]
    split at h
    · exact ⟨_, rfl⟩
    · cases h

def zboolB (ti : TI) (z : Value) : Bool := match ti.k, ti.ty with
  | .one, .bool => (match z with | .bool b => !b | _ => false)
  | _, _ => true

theorem zboolB_ok {ti : TI} {z : Value} (h : zboolB ti z = true) (hk : ti.k = .one) (hty : ti.ty = .bool) : z = .bool false := by
  unfold zboolB at h
  rw [hk, hty] at h
  cases z with
  | bool b =>
    cases b with
    | false => rfl
    | true => cases h
  | _ => cases h

def tokB (P : Program) (t : Nat) (ti : TI) : Bool :=
  (match P.info? t with
  | some i => Nat.beq i.size ti.sz && Nat.beq i.bytes ti.bytes && (match i.zero with
    | some z => valsB ti.zero z.cells.toList && sameVs z.cells.toList (dfltCells ti.ty) && plainTy ti.ty && zboolB ti z
    | none => false)
  | none => false) &&
  (match P.underlying t with
  | some d => descB ti d
  | none => false) && Nat.beq ti.sz ti.ty.sz && Nat.blt 0 ti.bytes &&
  (match ti.k with
  | .struct _ => !(P.stoodInHeld t) && !(P.eqGuardType P.depth t)
  | .array _ _ => !(P.eqGuardType P.depth t)
  | _ => true)

theorem tokB_ok {P : Program} {t : Nat} {ti : TI} (h : tokB P t ti = true) : TOK P t ti := by
  unfold tokB at h
  obtain ⟨h, h5⟩ := band h
  obtain ⟨h, h4⟩ := band h
  obtain ⟨h, h3⟩ := band h
  obtain ⟨h1, h2⟩ := band h
  refine ⟨?_, ?_, nbeq h3, blt_lt h4, fun fs hk => ?_, fun n e hk => ?_, fun hk hty => ?_⟩
  · split at h1
    · rename_i i hi
      obtain ⟨h1, h7⟩ := band h1
      obtain ⟨h1, h6⟩ := band h1
      split at h7
      · rename_i z hz
        obtain ⟨h7, _⟩ := band h7
        obtain ⟨h7, h9⟩ := band h7
        obtain ⟨h7, h8⟩ := band h7
        refine ⟨i, z, hi, nbeq h1, nbeq h6, hz, fun μ S w => valsB_rel h7 μ S w, fun S w => ?_⟩
        rw [sameVs_eq h8]
        exact dflt_rd h9
      · cases h7
    · cases h1
  · split at h2
    · rename_i d hd
      exact ⟨d, hd, descB_ok h2⟩
    · cases h2
  · rw [hk] at h5
    obtain ⟨h6, h7⟩ := band h5
    exact ⟨by simpa using h6, by simpa using h7⟩
  · rw [hk] at h5
    simpa using h5
  · split at h1
    · rename_i i hi
      obtain ⟨h1, h7⟩ := band h1
      split at h7
      · rename_i z hz
        obtain ⟨_, h8⟩ := band h7
        rw [zboolB_ok h8 hk hty] at hz
        exact ⟨i, hi, hz⟩
      · cases h7
    · cases h1

theorem types_ok {P : Program} : ∀ {l : List (Nat × TI)}, (l.all fun p => tokB P p.1 p.2) = true → TypesOK P (findL l)
  | [], _, t, ti, h => by cases h
  | p :: l, hl, t, ti, h => by
    rw [List.all_cons] at hl
    obtain ⟨h1, h2⟩ := band hl
    obtain ⟨m, v⟩ := p
    unfold findL at h
    cases hb : Nat.beq m t with
    | true =>
      rw [hb] at h
      injection h with h
      subst h
      rw [← nbeq hb]
      exact tokB_ok h1
    | false =>
      rw [hb] at h
      exact types_ok h2 t ti h

theorem env_nil {P : Program} : EnvOK P (findL []) := fun f E h => by cases h
theorem env_sp {P : Program} {f : FuncId} {E : Entry} {l : List (Nat × Entry)} (h : SpOK P f E) (hl : EnvOK P (findL l)) : EnvOK P (findL ((f, E) :: l)) := fun g E' hg => by
  unfold findL at hg
  cases hb : Nat.beq f g with
  | true =>
    rw [hb] at hg
    injection hg with hg
    subst hg
    rw [← nbeq hb]
    exact h
  | false =>
    rw [hb] at hg
    exact hl g E' hg
theorem env_cons {P : Program} {f : FuncId} {ts rs : List Ty} {run : Nat → Dens ts → Option (Dens rs)} {l : List (Nat × Entry)} (h : Contract P f ⟨ts, rs, run, .no⟩) (hl : EnvOK P (findL l)) : EnvOK P (findL ((f, ⟨ts, rs, run, .no⟩) :: l)) := env_sp h hl
theorem env_put {P : Program} {f : FuncId} {ts rs : List Ty} {run : Nat → Dens ts → Option (Dens rs)} {e T : TypeId} {l : List (Nat × Entry)} (h : PutOK P f e T) (hl : EnvOK P (findL l)) : EnvOK P (findL ((f, ⟨ts, rs, run, .put e T⟩) :: l)) := env_sp h hl
theorem env_str {P : Program} {f : FuncId} {ts rs : List Ty} {run : Nat → Dens ts → Option (Dens rs)} {e T : TypeId} {l : List (Nat × Entry)} (h : StrOK P f e T) (hl : EnvOK P (findL l)) : EnvOK P (findL ((f, ⟨ts, rs, run, .str e T⟩) :: l)) := env_sp h hl

end Go.Ab
