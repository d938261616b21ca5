/- What is read out of a state: operands, own rows, arguments of calls. -/
import Derived.Test.YtnifcbofkodjeaaWaAbB
set_option linter.unusedVariables false
set_option linter.unusedSimpArgs false
namespace Go.Ab
open Go.RowKit

def Val (S : Nat → Prop) (w : World) (t : Ty) (x : t.den) (v : Value) : Prop := cond t.isPair (∃ cs : List Value, v = .agg cs.toArray ∧ Rd S w t x cs) (Rd S w t x [v])

def Vals (S : Nat → Prop) (w : World) : (ts : List Ty) → Dens ts → List Value → Prop
  | [], _, vs => vs = []
  | t :: ts, x, vs => ∃ v r, vs = v :: r ∧ Val S w t x.1 v ∧ Vals S w ts x.2 r

def tupled : List Value → Value
  | [v] => v
  | vs => .tuple vs.toArray

def Ret (S : Nat → Prop) (w : World) (ts : List Ty) (x : Dens ts) (v : Value) : Prop := ∃ vs, Vals S w ts x vs ∧ v = tupled vs

/-- A called function does what its entry says. -/
structure Contract (P : Program) (f : FuncId) (E : Entry) : Prop where
  enters : ∀ args w, (callFunc f args).run P w = .ok (.enter f args) w
  calls : ∀ k x y, E.run k x = some y → ∀ (S : Nat → Prop) vs w, (∀ j, S j → j < w.heap.size) → Vals S w E.args x vs →
    Calls P f vs.toArray w fun e w' => ∃ v, e = .returned v ∧ Ret S w' E.rets y v ∧ Below w.heap.size w w'

/-- A builder: its block, what it holds. -/
def bytesV (l : List UInt8) : List Value := l.map fun b => .int .u8 ((b.toNat : Nat) : Int)

/-- A closure that lays a text behind what the builder in block g holds. -/
structure PutOK (P : Program) (f : FuncId) (e T : TypeId) : Prop where
  enters : ∀ args w, (callFunc f args).run P w = .ok (.enter f args) w
  calls : ∀ (g : Nat) (p v : Value) (n base : Nat) (inner : List Value) (s : List UInt8) (w : World), w.heap[g]? = some (.cells #[p, v] T (0, 0)) → (p = .pointer none ∨ p = .pointer (some ⟨g, 0, none⟩)) →
    w.ownsRow base e 1 v n inner → blk v ≠ some g → base ≤ w.heap.size → n + s.length ≤ 140737488355328 →
    Calls P f #[.string ⟨s.toArray⟩, .pointer (some ⟨g, 0, none⟩)] w fun en w' => en = .returned (.tuple #[]) ∧ ∃ (w2 : World) (v' : Value),
      (w.setRow g #[.pointer (some ⟨g, 0, none⟩), v]).grownBy w2 v.ownBlock ∧ w2.ownsRow base e 1 v' (n + s.length) (inner ++ bytesV s) ∧ (v'.ownBlock = v.ownBlock ∨ v'.ownBlock = some w.heap.size) ∧
      w' = w2.setRow g #[.pointer (some ⟨g, 0, none⟩), v']

/-- What a builder holds, told. -/
structure StrOK (P : Program) (f : FuncId) (e T : TypeId) : Prop where
  enters : ∀ args w, (callFunc f args).run P w = .ok (.enter f args) w
  calls : ∀ (g : Nat) (p v : Value) (base : Nat) (s : List UInt8) (w : World), w.heap[g]? = some (.cells #[p, v] T (0, 0)) → w.ownsRow base e 1 v s.length (bytesV s) → blk v ≠ some g →
    Calls P f #[.pointer (some ⟨g, 0, none⟩)] w fun en w' => en = .returned (.string ⟨s.toArray⟩) ∧ w.grownBy w' v.ownBlock

def SpOK (P : Program) (f : FuncId) (E : Entry) : Prop :=
  match E.sp with
  | .no => Contract P f E
  | .put e T => PutOK P f e T
  | .str e T => StrOK P f e T

def EnvOK (P : Program) (G : Env) : Prop := ∀ f E, G f = some E → SpOK P f E

theorem EnvOK.get {P : Program} {G : Env} (h : EnvOK P G) {f : FuncId} {E : Entry} (hE : G f = some E) (hs : E.sp.isNo = true) : Contract P f E := by
  have := h f E hE
  unfold SpOK at this
  cases hsp : E.sp with
  | no => rw [hsp] at this; exact this
  | put e T => rw [hsp] at hs; cases hs
  | str e T => rw [hsp] at hs; cases hs

def KOK (ti : TI) (d : TypeDesc) : Prop :=
  match ti.k with
  | .one => (match ti.ty with | .int k => d = .int k | .bool => d = .bool | .str => d = .string | _ => False)
  | .struct fs => ∃ fields : Array Field, d = .struct fields ∧ fields.toList.map (fun f => (f.offset, f.type)) = fs ∧ (∀ f ∈ fields.toList, f.name ≠ "_")
  | .slice e => d = .slice e
  | .array n e => d = .array n e
  | .map k e => d = .map k e
  | .bld => ∃ fields : Array Field, d = .struct fields

structure TOK (P : Program) (t : TypeId) (ti : TI) : Prop where
  info : ∃ i z, P.info? t = some i ∧ i.size = ti.sz ∧ i.bytes = ti.bytes ∧ i.zero = some z ∧ (∀ μ S w, AllRel μ S w ti.zero z.cells.toList) ∧ (∀ S w, Rd S w ti.ty ti.ty.dflt z.cells.toList)
  desc : ∃ d, P.underlying t = some d ∧ KOK ti d
  size : ti.sz = ti.ty.sz
  bytes : 0 < ti.bytes
  stood : ∀ fs, ti.k = .struct fs → P.stoodInHeld t = false ∧ P.eqGuardType P.depth t = false
  guard : ∀ n e, ti.k = .array n e → P.eqGuardType P.depth t = false
  zbool : ti.k = .one → ti.ty = .bool → ∃ i, P.info? t = some i ∧ i.zero = some (.bool false)

def TypesOK (P : Program) (T : Nat → Option TI) : Prop := ∀ t ti, T t = some ti → TOK P t ti

/-! ### lookups -/
theorem look_cons (m : Nat) (v : Lv) (r : St) (n : Nat) : look ((m, v) :: r) n = if n = m then some v else look r n := by
  show cond (Nat.beq m n) (some v) (look r n) = _
  by_cases h : n = m
  · subst h
    rw [if_pos rfl]
    have : Nat.beq n n = true := Nat.beq_refl n
    rw [this]
    rfl
  · rw [if_neg h]
    have : Nat.beq m n = false := by
      cases hb : Nat.beq m n with
      | false => rfl
      | true => exact absurd (Nat.eq_of_beq_eq_true hb).symm h
    rw [this]
    rfl

theorem look_append (a b : St) (n : Nat) : look (a ++ b) n = match look a n with | some v => some v | none => look b n := by
  induction a with
  | nil => rfl
  | cons p a ih =>
    obtain ⟨m, v⟩ := p
    rw [List.cons_append, look_cons, look_cons, ih]
    by_cases h : n = m
    · rw [if_pos h, if_pos h]
    · rw [if_neg h, if_neg h]

theorem look_mem {a : St} {n : Nat} {v : Lv} (h : look a n = some v) : (n, v) ∈ a := by
  induction a with
  | nil => cases h
  | cons p a ih =>
    obtain ⟨m, u⟩ := p
    rw [look_cons] at h
    by_cases e : n = m
    · rw [if_pos e] at h
      injection h with h
      subst h
      subst e
      exact List.mem_cons_self
    · rw [if_neg e] at h
      exact List.mem_cons_of_mem _ (ih h)

theorem chk_some {R : Type} {c : Bool} {y : Option R} {r : R} (h : chk c y = some r) : c = true ∧ y = some r := by
  cases c with
  | false => cases h
  | true => exact ⟨rfl, h⟩

theorem bind_some {α β : Type} {o : Option α} {f : α → Option β} {r : β} (h : o.bind f = some r) : ∃ x, o = some x ∧ f x = some r := by
  cases o with
  | none => cases h
  | some x => exact ⟨x, rfl, h⟩

/-! ### An own row read -/
theorem Parts_len {S : Nat → Prop} {w : World} {t : Ty} : ∀ {xs : List t.den} {l : List Value}, Parts S w t xs l → l.length = xs.length * t.sz
  | [], _, h => by subst h; simp
  | x :: xs, _, ⟨es, r, h, h1, h2⟩ => by
    subst h
    rw [List.length_append, Rd_len h1, Parts_len h2, List.length_cons, Nat.add_mul]
    omega

theorem Parts_get {S : Nat → Prop} {w : World} {t : Ty} : ∀ {xs : List t.den} {l : List Value}, Parts S w t xs l → ∀ (i : Nat) (h : i < xs.length), ∃ es, Rd S w t (xs[i]'h) es ∧ ∀ j u, es[j]? = some u → l[i * t.sz + j]? = some u
  | [], _, _, i, h => absurd h (Nat.not_lt_zero _)
  | x :: xs, _, ⟨es, r, h, h1, h2⟩, i, hi => by
    subst h
    have hl := Rd_len h1
    cases i with
    | zero =>
      refine ⟨es, h1, fun j u hu => ?_⟩
      rw [Nat.zero_mul, Nat.zero_add]
      have hj : j < es.length := by
        rcases Nat.lt_or_ge j es.length with h | h
        · exact h
        · rw [List.getElem?_eq_none h] at hu; cases hu
      rw [List.getElem?_append_left hj]
      exact hu
    | succ i =>
      obtain ⟨es', h3, h4⟩ := Parts_get h2 i (by simpa using hi)
      refine ⟨es', h3, fun j u hu => ?_⟩
      rw [List.getElem?_append_right (by rw [hl, Nat.add_mul]; omega), hl, show (i + 1) * t.sz + j - t.sz = i * t.sz + j by rw [Nat.add_mul]; omega]
      exact h4 j u hu

theorem Parts_one {S : Nat → Prop} {w : World} {t : Ty} : ∀ {xs : List t.den} {l : List Value}, Parts S w t xs l → ∀ u ∈ l, u.oneCell' = true
  | [], _, h, u, hu => by subst h; cases hu
  | x :: xs, _, ⟨es, r, h, h1, h2⟩, u, hu => by
    subst h
    rcases List.mem_append.1 hu with hu | hu
    · exact Rd_one h1 u hu
    · exact Parts_one h2 u hu

theorem Parts_append {S : Nat → Prop} {w : World} {t : Ty} : ∀ {xs ys : List t.den} {l m : List Value}, Parts S w t xs l → Parts S w t ys m → Parts S w t (xs ++ ys) (l ++ m)
  | [], _, _, _, h, h' => by subst h; exact h'
  | x :: xs, _, _, _, ⟨es, r, h, h1, h2⟩, h' => by
    subst h
    exact ⟨es, r ++ _, by rw [List.append_assoc], h1, Parts_append h2 h'⟩

theorem add_plain (g o j : Nat) : (⟨g, o, none⟩ : Addr).add j = ⟨g, o + j, none⟩ := by
  unfold Addr.add
  split
  · subst_vars; rfl
  · rfl

theorem add_add (ad : Addr) (i j : Nat) : (ad.add i).add j = ad.add (i + j) := by
  unfold Addr.add
  by_cases h1 : i = 0
  · subst h1
    rw [if_pos rfl, Nat.zero_add]
  · rw [if_neg h1]
    by_cases h2 : j = 0
    · subst h2
      rw [if_pos rfl, Nat.add_zero, if_neg h1]
    · rw [if_neg h2, if_neg (by omega)]
      simp only [Nat.add_assoc]

theorem row_rd {μ : Nat → Value} {S S' : Nat → Prop} {w : World} {base id : Nat} {e : TypeId} {t : Ty} {xs : List t.den} (h : ObjRel μ S w base id (.row e t xs)) (hs : ∀ k, S' k → S k) (hb : ∀ k, blk (μ id) = some k → ¬ S' k) :
    Rd S' w (.sl t) xs [μ id] := by
  obtain ⟨inner, h1, h2, h3⟩ := h
  rcases h1.2 with ⟨hv, hn⟩ | ⟨g, cap, cur, hv, _, hg, hnc, hcm, _⟩
  · rw [hv]
    exact ⟨none, 0, by rw [hn], by omega, h3, fun hp => by omega⟩
  · have hc : ∀ j u, inner[j]? = some u → w.cell? ((⟨g, 0, none⟩ : Addr).add j) = some u := h1.cells (by rw [hv]; rfl)
    rw [hv] at hb ⊢
    refine ⟨_, cap, rfl, hnc, h3, fun _ => ⟨_, rfl, hb g rfl, fun i hi => ?_⟩⟩
    obtain ⟨es, h4, h5⟩ := Parts_get h2 i hi
    refine ⟨es, h4.move (Agree.refl S w) (fun k _ hk => hs k hk), fun j u hu => ?_⟩
    rw [add_add]
    exact hc _ _ (h5 j u hu)

/-! ### Operands -/
def Sees (st : St) (FS : Nat → Option Lv) (o : Operand) : Prop := match o with | .tmp t => FS (2 * t) = look st (2 * t) | _ => True

theorem constTV_rel {v : Value} {x : TV} (h : constTV v = some x) (μ : Nat → Value) (S : Nat → Prop) (w : World) : TVRel μ S w x v := by
  unfold constTV at h
  split at h <;> simp at h <;> subst h
  · rfl
  · rfl
  · rename_i s
    cases s
    rfl
  · rfl

theorem evO_rel {S0 : Nat → Prop} {w0 : World} {nt : Nat} {μ : Nat → Value} {FS : Nat → Option Lv} {a : Act} {w : World} (h : Sim S0 w0 nt μ FS a w) {st : St} {o : Operand} {x : TV} (hs : Sees st FS o) (he : evO st o = some x) : TVRel μ (live S0 μ FS) w x (a.eval o) := by
  cases o with
  | tmp t =>
    simp only [evO] at he
    split at he
    · rename_i y hy
      injection he with he
      subst he
      obtain ⟨v, h1, h2⟩ := h.slot t y (by rw [hs]; exact hy)
      have : a.eval (.tmp t) = v := by
        show a.tmps.getD t Go.undef = v
        rw [Array.getD_eq_getD_getElem?, h1]
        rfl
      rw [this]
      exact h2
    · cases he
  | const v => exact constTV_rel he μ _ w
  | global g => cases he
  | func f => cases he

theorem evF_rel {S0 : Nat → Prop} {w0 : World} {nt : Nat} {μ : Nat → Value} {FS : Nat → Option Lv} {a : Act} {w : World} (h : Sim S0 w0 nt μ FS a w) {st : St} {o : Operand} {x : Fl} (hs : Sees st FS o) (he : evF st o = some x) : FlRel μ (live S0 μ FS) w x (a.eval o) := by
  unfold evF at he
  split at he
  · rename_i y hy
    injection he with he
    subst he
    exact evO_rel h hs hy
  · cases he

theorem evC_rel {S0 : Nat → Prop} {w0 : World} {nt : Nat} {μ : Nat → Value} {FS : Nat → Option Lv} {a : Act} {w : World} (h : Sim S0 w0 nt μ FS a w) {st : St} {o : Operand} {x : Cell} (hs : Sees st FS o) (he : evC st o = some x) : CellRel μ (live S0 μ FS) w x (a.eval o) := by
  unfold evC at he
  split at he
  · rename_i y hy
    injection he with he
    subst he
    exact evO_rel h hs hy
  · cases he

theorem evB_rel {S0 : Nat → Prop} {w0 : World} {nt : Nat} {μ : Nat → Value} {FS : Nat → Option Lv} {a : Act} {w : World} (h : Sim S0 w0 nt μ FS a w) {st : St} {o : Operand} {b : Bool} (hs : Sees st FS o) (he : evB st o = some b) : a.eval o = .bool b := by
  unfold evB at he
  split at he
  · rename_i y hy
    injection he with he
    subst he
    have := evO_rel h hs hy
    exact (List.cons.inj this).1
  · cases he

theorem evI_rel {S0 : Nat → Prop} {w0 : World} {nt : Nat} {μ : Nat → Value} {FS : Nat → Option Lv} {a : Act} {w : World} (h : Sim S0 w0 nt μ FS a w) {st : St} {o : Operand} {n : Int} (hs : Sees st FS o) (he : evI st o = some n) : ∃ k, a.eval o = .int k n := by
  unfold evI at he
  split at he
  · rename_i k y hy
    injection he with he
    subst he
    have := evO_rel h hs hy
    exact ⟨k, (List.cons.inj this).1⟩
  · cases he

theorem evFs_rel {S0 : Nat → Prop} {w0 : World} {nt : Nat} {μ : Nat → Value} {FS : Nat → Option Lv} {a : Act} {w : World} (h : Sim S0 w0 nt μ FS a w) {st : St} : ∀ {l : List Operand} {xs : List Fl}, (∀ o ∈ l, Sees st FS o) → evFs st l = some xs → FlsRel μ (live S0 μ FS) w xs (l.map a.eval)
  | [], _, _, he => by
    injection he with he
    subst he
    rfl
  | o :: l, _, hs, he => by
    simp only [evFs] at he
    obtain ⟨x, h1, he⟩ := bind_some he
    obtain ⟨xs, h2, he⟩ := bind_some he
    injection he with he
    subst he
    exact ⟨_, _, rfl, evF_rel h (hs o List.mem_cons_self) h1, evFs_rel h (fun o ho => hs o (List.mem_cons_of_mem _ ho)) h2⟩

/-! ### Values as they stand now -/
theorem cell_one {μ : Nat → Value} {S : Nat → Prop} {w : World} : ∀ {c : Cell} {v : Value}, CellRel μ S w c v → v.oneCell' = true ∧ v.cells = #[v]
  | .v t x, v, h => by
    have h1 := Rd_one h v (by simp)
    refine ⟨h1, ?_⟩
    cases v <;> first | rfl | cases h1
  | .nil, v, h => by subst h; exact ⟨rfl, rfl⟩
  | .ptr id off, v, ⟨g, _, h⟩ => by subst h; exact ⟨rfl, rfl⟩
  | .own id, v, ⟨_, A, n, c, h⟩ => by subst h; exact ⟨rfl, rfl⟩
  | .ref t x, v, ⟨ad, es, h, _⟩ => by subst h; exact ⟨rfl, rfl⟩
  | .eptr id i off s, v, ⟨g, n, c, _, h⟩ => by subst h; exact ⟨rfl, rfl⟩
  | .clo f t id off, v, ⟨g, _, h⟩ => by subst h; exact ⟨rfl, rfl⟩
  | .osl id lo s, v, .inl ⟨g, n, c, o, _, h, _⟩ => by subst h; exact ⟨rfl, rfl⟩
  | .osl id lo s, v, .inr ⟨_, h⟩ => by subst h; exact ⟨rfl, rfl⟩
  | .asl id off n, v, ⟨g, _, h⟩ => by subst h; exact ⟨rfl, rfl⟩
  | .mp id, v, ⟨_, r, h⟩ => by subst h; exact ⟨rfl, rfl⟩

theorem AllRel_len {μ : Nat → Value} {S : Nat → Prop} {w : World} : ∀ {cs : List Cell} {vs : List Value}, AllRel μ S w cs vs → vs.length = cs.length
  | [], _, h => by subst h; rfl
  | c :: cs, _, ⟨v, r, h, _, h2⟩ => by subst h; rw [List.length_cons, List.length_cons, AllRel_len h2]

theorem AllRel_one {μ : Nat → Value} {S : Nat → Prop} {w : World} : ∀ {cs : List Cell} {vs : List Value}, AllRel μ S w cs vs → ∀ u ∈ vs, u.oneCell' = true
  | [], _, h, u, hu => by subst h; cases hu
  | c :: cs, _, ⟨v, r, h, h1, h2⟩, u, hu => by
    subst h
    cases hu with
    | head => exact (cell_one h1).1
    | tail _ hu => exact AllRel_one h2 u hu

theorem AllRel_append {μ : Nat → Value} {S : Nat → Prop} {w : World} : ∀ {cs ds : List Cell} {vs us : List Value}, AllRel μ S w cs vs → AllRel μ S w ds us → AllRel μ S w (cs ++ ds) (vs ++ us)
  | [], _, _, _, h, h' => by subst h; exact h'
  | c :: cs, _, _, _, ⟨v, r, h, h1, h2⟩, h' => by subst h; exact ⟨v, r ++ _, rfl, h1, AllRel_append h2 h'⟩

theorem AllRel_drop {μ : Nat → Value} {S : Nat → Prop} {w : World} : ∀ (n : Nat) {cs : List Cell} {vs : List Value}, AllRel μ S w cs vs → AllRel μ S w (cs.drop n) (vs.drop n)
  | 0, _, _, h => h
  | n + 1, [], _, h => by subst h; rfl
  | n + 1, c :: cs, _, ⟨v, r, h, h1, h2⟩ => by subst h; exact AllRel_drop n h2

theorem AllRel_take {μ : Nat → Value} {S : Nat → Prop} {w : World} : ∀ (n : Nat) {cs : List Cell} {vs : List Value}, AllRel μ S w cs vs → AllRel μ S w (cs.take n) (vs.take n)
  | 0, _, _, h => rfl
  | n + 1, [], _, h => by subst h; rfl
  | n + 1, c :: cs, _, ⟨v, r, h, h1, h2⟩ => by subst h; exact ⟨v, r.take n, rfl, h1, AllRel_take n h2⟩

theorem AllRel_get {μ : Nat → Value} {S : Nat → Prop} {w : World} : ∀ (n : Nat) {cs : List Cell} {vs : List Value} {c : Cell}, AllRel μ S w cs vs → cs[n]? = some c → ∃ v, vs[n]? = some v ∧ CellRel μ S w c v
  | 0, [], _, _, _, h => by cases h
  | 0, c :: cs, _, _, ⟨v, r, h, h1, h2⟩, hc => by
    subst h
    simp at hc
    subst hc
    exact ⟨v, rfl, h1⟩
  | n + 1, [], _, _, _, h => by cases h
  | n + 1, c :: cs, _, _, ⟨v, r, h, h1, h2⟩, hc => by
    subst h
    exact AllRel_get n h2 (by simpa using hc)

/-- The objects that a list of cells names are seen. -/
def SeesIds (st : St) (FS : Nat → Option Lv) (l : List Nat) : Prop := ∀ i, i ∈ l → FS (2 * i + 1) = look st (2 * i + 1)

/-- The blocks of named objects lie outside. -/
def Away (μ : Nat → Value) (S' : Nat → Prop) (l : List Nat) : Prop := ∀ i, i ∈ l → ∀ k, blk (μ i) = some k → ¬ S' k

theorem nil_rd {S : Nat → Prop} {w : World} {t : Ty} : Rd S w (.sl t) [] [.slice none 0 0] := ⟨none, 0, rfl, Nat.le_refl _, by simp, fun hp => by simp at hp⟩

/-- How one cell is taken. -/
theorem ofCells_leaf {t : Ty} (ht : t.isPair = false) {c : Cell} {l : List Cell} {x : t.den} {r : List Cell} (he : ofCells t (c :: l) = some (x, r)) :
    r = l ∧ (c = .v t x ∨ (c = .nil ∧ ∀ S w, Rd S w t x [.slice none 0 0])) := by
  have vcase : ∀ (t' : Ty) (y : t'.den), c = .v t' y → ofCells t (c :: l) = (if hh : t' = t then some (hh ▸ y, l) else none) := by
    intro t' y e
    subst e
    cases t <;> first | rfl | cases ht
  cases c with
  | v t' y =>
    rw [vcase t' y rfl] at he
    split at he
    · rename_i hh
      subst hh
      injection he with he
      injection he with h1 h2
      subst h1
      exact ⟨h2.symm, .inl rfl⟩
    · cases he
  | nil =>
    cases t with
    | sl u =>
      injection he with he
      injection he with h1 h2
      subst h1
      exact ⟨h2.symm, .inr ⟨rfl, fun _ _ => nil_rd⟩⟩
    | pair _ _ => cases ht
    | _ => cases he
  | _ => cases t <;> first | cases he | cases ht

theorem plain_rd {μ : Nat → Value} {S : Nat → Prop} {w : World} : ∀ (t : Ty) {cs : List Cell} {vs : List Value} {x : t.den} {r : List Cell}, AllRel μ S w cs vs → ofCells t cs = some (x, r) → ∃ v1 v2, vs = v1 ++ v2 ∧ Rd S w t x v1 ∧ AllRel μ S w r v2 := by
  have leaf : ∀ (t : Ty), t.isPair = false → ∀ {cs : List Cell} {vs : List Value} {x : t.den} {r : List Cell}, AllRel μ S w cs vs → ofCells t cs = some (x, r) → ∃ v1 v2, vs = v1 ++ v2 ∧ Rd S w t x v1 ∧ AllRel μ S w r v2 := by
    intro t ht cs vs x r ha he
    cases cs with
    | nil => cases t <;> first | cases he | cases ht
    | cons c cs =>
      obtain ⟨v, q, hv, h1, h2⟩ := ha
      subst hv
      obtain ⟨hr, hc⟩ := ofCells_leaf ht he
      subst hr
      rcases hc with hc | ⟨hc, hrd⟩
      · subst hc
        exact ⟨[v], q, rfl, h1, h2⟩
      · subst hc
        have hv : v = .slice none 0 0 := h1
        subst hv
        exact ⟨_, q, rfl, hrd _ _, h2⟩
  intro t
  induction t with
  | pair p q ihp ihq =>
    intro cs vs x r ha he
    simp only [ofCells] at he
    obtain ⟨⟨x1, r1⟩, h1, he⟩ := bind_some he
    obtain ⟨⟨x2, r2⟩, h2, he⟩ := bind_some he
    injection he with he
    injection he with hx hr
    subst hx
    subst hr
    obtain ⟨v1, v2, hv, hr1, ha2⟩ := ihp ha h1
    obtain ⟨v3, v4, hv', hr2, ha3⟩ := ihq ha2 h2
    subst hv'
    exact ⟨v1 ++ v3, v4, by rw [hv, List.append_assoc], ⟨v1, v3, rfl, hr1, hr2⟩, ha3⟩
  | _ => exact leaf _ rfl

theorem box_cells {w : World} {g : Nat} {vs : List Value} {Ty' : TypeId} (h : w.heap[g]? = some (.cells vs.toArray Ty' (0, 0))) (off : Nat) : ∀ j v, vs[off + j]? = some v → w.cell? ((⟨g, off, none⟩ : Addr).add j) = some v := by
  intro j v hv
  rw [add_plain, cell_of_row w g (off + j) _ _ _ h, List.getElem?_toArray]
  exact hv

theorem osl_rd {μ : Nat → Value} {S S' : Nat → Prop} {w : World} {base id lo : Nat} {e : TypeId} {t : Ty} {xs : List t.den} {v : Value} (h : ObjRel μ S w base id (.row e t xs)) (hs : ∀ k, S' k → S k) (hb : ∀ k, blk (μ id) = some k → ¬ S' k)
    (hc : CellRel μ S w (.osl id lo t.sz) v) : Rd S' w (.sl t) (xs.drop lo) [v] := by
  obtain ⟨inner, h1, h2, h3⟩ := h
  have hl : List.length (xs.drop lo) = xs.length - lo := List.length_drop ..
  rcases hc with ⟨g, n, c, o, hm, hv, ho⟩ | ⟨hm, hv⟩
  · rcases h1.2 with ⟨hv', _⟩ | ⟨g', cap, cur, hv', _, hg, hnc, hcm, _⟩
    · rw [hm] at hv'; cases hv'
    · have hcell : ∀ j u, inner[j]? = some u → w.cell? ((⟨g', 0, none⟩ : Addr).add j) = some u := h1.cells (by rw [hv']; rfl)
      rw [hm] at hv' hb
      have e1 : g = g' := by injection hv' with hv'; injection hv' with hv'; injection hv'
      have e2 : n = xs.length := by injection hv'
      have e3 : c = cap := by injection hv'
      subst e1 e2 e3
      subst hv
      refine ⟨_, _, by rw [hl], by rw [hl]; omega, by rw [hl]; omega, fun hp => ⟨_, rfl, hb g rfl, fun i hi => ?_⟩⟩
      rw [hl] at hi hp
      have ho := ho (by omega)
      subst ho
      obtain ⟨es, h4, h5⟩ := Parts_get h2 (lo + i) (by omega)
      refine ⟨es, ?_, fun j u hu => ?_⟩
      · rw [List.getElem_drop]
        exact h4.move (Agree.refl S w) (fun k _ hk => hs k hk)
      · have := hcell _ _ (h5 j u hu)
        rw [add_plain, Nat.zero_add] at this
        rw [add_plain, add_plain, ← this, Nat.add_mul]
  · have hx : xs = [] := by
      rcases h1.2 with ⟨_, hn⟩ | ⟨g', cap, cur, hv', _⟩
      · exact List.eq_nil_of_length_eq_zero hn
      · rw [hm] at hv'; cases hv'
    subst hx
    subst hv
    rw [List.drop_nil]
    exact nil_rd

theorem view_rd {S0 : Nat → Prop} {w0 : World} {nt : Nat} {μ : Nat → Value} {FS : Nat → Option Lv} {a : Act} {w : World} (h : Sim S0 w0 nt μ FS a w) {S' : Nat → Prop} (hS : ∀ k, S' k → live S0 μ FS k) {fl : Bool} {st : St} {c : Cell} {v : Value}
    (hs : SeesIds st FS (cellIds [c])) (hw : Away μ S' (cellIds [c])) (hc : CellRel μ (live S0 μ FS) w c v) {t : Ty} {x : t.den} (he : view fl st c = .v t x) : Rd S' w t x [v] := by
  cases c with
  | own id =>
    simp only [view] at he
    split at he
    · rename_i e u xs hl
      injection he with h1 h2
      subst h1
      have h2 := eq_of_heq h2
      subst h2
      obtain ⟨hv, _⟩ := hc
      rw [hv]
      exact row_rd (h.obj id _ (by rw [hs id (by simp [cellIds, Cell.id?])]; exact hl)) hS (hw id (by simp [cellIds, Cell.id?]))
    · cases he
  | osl id lo s =>
    simp only [view] at he
    split at he
    · rename_i e u xs hl
      cases hb : Nat.beq s u.sz with
      | false => rw [hb] at he; cases he
      | true =>
        rw [hb] at he
        have hb := Nat.eq_of_beq_eq_true hb
        subst hb
        injection he with h1 h2
        subst h1
        have h2 := eq_of_heq h2
        subst h2
        exact osl_rd (h.obj id _ (by rw [hs id (by simp [cellIds, Cell.id?])]; exact hl)) hS (hw id (by simp [cellIds, Cell.id?])) hc
    · cases he
  | ref u y =>
    injection he with h1 h2
    subst h1
    have h2 := eq_of_heq h2
    subst h2
    obtain ⟨ad, es, h3, h4, h5, h6⟩ := hc
    subst h3
    exact ⟨ad, es, rfl, fun hk => h6 (hS _ hk), h4.move (Agree.refl _ _) (fun k _ hk => hS k hk), h5⟩
  | clo f u id off =>
    simp only [view] at he
    cases fl with
    | false => cases he
    | true =>
      simp only [cond_true] at he
      split at he
      · rename_i cs hl
        split at he
        · rename_i p hp
          injection he with h1 h2
          subst h1
          have h2 := eq_of_heq h2
          subst h2
          obtain ⟨g, h3, h4⟩ := hc
          subst h4
          obtain ⟨g', vs, Ty', h5, _, h6, h7⟩ := h.obj id _ ((hs id (by simp [cellIds, Cell.id?])).trans hl)
          rw [h3] at h5
          have hg : g = g' := by injection h5 with h5; injection h5 with h5; injection h5
          subst hg
          obtain ⟨v1, v2, h8, h9, _⟩ := plain_rd u (AllRel_drop off h7) hp
          refine ⟨⟨g, off, none⟩, v1, rfl, hw id (by simp [cellIds, Cell.id?]) g (by rw [h3]; rfl), h9.move (Agree.refl _ _) (fun k _ hk => hS k hk), fun j u hu => ?_⟩
          refine box_cells h6 off j u ?_
          have : (vs.drop off)[j]? = some u := by
            have hj : j < v1.length := by
              rcases Nat.lt_or_ge j v1.length with h | h
              · exact h
              · rw [List.getElem?_eq_none h] at hu; cases hu
            rw [h8, List.getElem?_append_left hj]
            exact hu
          rw [List.getElem?_drop] at this
          exact this
        · cases he
      · cases he
  | v t' x' =>
    injection he with h1 h2
    subst h1
    have h2 := eq_of_heq h2
    subst h2
    exact Rd.move (Agree.refl _ _) (fun k _ hk => hS k hk) hc
  | _ => cases he

theorem view_nil {fl : Bool} {st : St} {c : Cell} (h : view fl st c = .nil) : c = .nil := by
  cases c with
  | own id =>
    simp only [view] at h
    split at h <;> cases h
  | osl id lo s =>
    simp only [view] at h
    split at h
    · rename_i e u xs hl
      cases hb : Nat.beq s u.sz <;> rw [hb] at h <;> cases h
    · cases h
  | clo f u id off =>
    simp only [view] at h
    cases fl with
    | false => cases h
    | true =>
      simp only [cond_true] at h
      split at h
      · split at h <;> cases h
      · cases h
  | nil => rfl
  | _ => cases h

theorem ofCells_rd {S0 : Nat → Prop} {w0 : World} {nt : Nat} {μ : Nat → Value} {FS : Nat → Option Lv} {a : Act} {w : World} (h : Sim S0 w0 nt μ FS a w) {S' : Nat → Prop} (hS : ∀ k, S' k → live S0 μ FS k) {fl : Bool} {st : St} :
    ∀ (t : Ty) {cs : List Cell} {vs : List Value} {x : t.den} {r : List Cell}, SeesIds st FS (cellIds cs) → Away μ S' (cellIds cs) → AllRel μ (live S0 μ FS) w cs vs → ofCells t (cs.map (view fl st)) = some (x, r) →
      ∃ v1 v2 cs2, vs = v1 ++ v2 ∧ Rd S' w t x v1 ∧ r = cs2.map (view fl st) ∧ SeesIds st FS (cellIds cs2) ∧ Away μ S' (cellIds cs2) ∧ AllRel μ (live S0 μ FS) w cs2 v2 := by
  have leaf : ∀ (t : Ty), t.isPair = false → ∀ {cs : List Cell} {vs : List Value} {x : t.den} {r : List Cell}, SeesIds st FS (cellIds cs) → Away μ S' (cellIds cs) → AllRel μ (live S0 μ FS) w cs vs → ofCells t (cs.map (view fl st)) = some (x, r) →
      ∃ v1 v2 cs2, vs = v1 ++ v2 ∧ Rd S' w t x v1 ∧ r = cs2.map (view fl st) ∧ SeesIds st FS (cellIds cs2) ∧ Away μ S' (cellIds cs2) ∧ AllRel μ (live S0 μ FS) w cs2 v2 := by
    intro t ht cs vs x r hs hw ha he
    cases cs with
    | nil => cases t <;> first | cases he | cases ht
    | cons c cs =>
      obtain ⟨v, q, hv, h1, h2⟩ := ha
      subst hv
      rw [cellIds_cons] at hs hw
      have hs1 : SeesIds st FS (cellIds [c]) := fun i hi => hs i (List.mem_append_left _ hi)
      have hs2 : SeesIds st FS (cellIds cs) := fun i hi => hs i (List.mem_append_right _ hi)
      have hw1 : Away μ S' (cellIds [c]) := fun i hi => hw i (List.mem_append_left _ hi)
      have hw2 : Away μ S' (cellIds cs) := fun i hi => hw i (List.mem_append_right _ hi)
      obtain ⟨hr, hc⟩ := ofCells_leaf ht he
      rcases hc with hc | ⟨hc, hrd⟩
      · exact ⟨[v], q, cs, rfl, view_rd h hS hs1 hw1 h1 hc, hr, hs2, hw2, h2⟩
      · have := view_nil hc
        subst this
        have hv : v = .slice none 0 0 := h1
        subst hv
        exact ⟨_, q, cs, rfl, hrd _ _, hr, hs2, hw2, h2⟩
  intro t
  induction t with
  | pair p q ihp ihq =>
    intro cs vs x r hs hw ha he
    simp only [ofCells] at he
    obtain ⟨⟨x1, r1⟩, h1, he⟩ := bind_some he
    obtain ⟨⟨x2, r2⟩, h2, he⟩ := bind_some he
    injection he with he
    injection he with hx hr
    subst hx
    subst hr
    obtain ⟨v1, v2, cs2, hv, hr1, hc2, hs2, hw2, ha2⟩ := ihp hs hw ha h1
    subst hc2
    obtain ⟨v3, v4, cs3, hv', hr2, hc3, hs3, hw3, ha3⟩ := ihq hs2 hw2 ha2 h2
    subst hv'
    exact ⟨v1 ++ v3, v4, cs3, by rw [hv, List.append_assoc], ⟨v1, v3, rfl, hr1, hr2⟩, hc3, hs3, hw3, ha3⟩
  | _ => exact leaf _ rfl

theorem ofFl_cells {fl : Bool} {st : St} {t : Ty} {x : Fl} {y : t.den} (he : ofFl fl st t x = some y) : x.isAgg = t.isPair ∧ ofCells t (x.cells.map (view fl st)) = some (y, []) := by
  unfold ofFl at he
  have hc : (x.isAgg == t.isPair) = true := by cases hb : x.isAgg == t.isPair <;> rw [hb] at he <;> first | cases he | rfl
  rw [hc] at he
  obtain ⟨⟨y', r⟩, h1, he⟩ := bind_some (show (ofCells t (x.cells.map (view fl st))).bind _ = some y from he)
  cases r with
  | cons _ _ => cases he
  | nil =>
    injection he with he
    have he : y' = y := he
    subst he
    exact ⟨beq_iff_eq.1 hc, h1⟩

theorem Fl.cells_rel {μ : Nat → Value} {S : Nat → Prop} {w : World} : ∀ {x : Fl} {v : Value}, FlRel μ S w x v → AllRel μ S w x.cells v.cells.toList
  | .c z, v, h => by
    rw [(cell_one h).2]
    exact ⟨v, [], rfl, h, rfl⟩
  | .agg cs, v, ⟨vs, hv, h⟩ => by
    subst hv
    exact h

theorem ofFl_rd {S0 : Nat → Prop} {w0 : World} {nt : Nat} {μ : Nat → Value} {FS : Nat → Option Lv} {a : Act} {w : World} (h : Sim S0 w0 nt μ FS a w) {S' : Nat → Prop} (hS : ∀ k, S' k → live S0 μ FS k) {fl : Bool} {st : St} {t : Ty} {x : Fl} {v : Value} {y : t.den}
    (hs : SeesIds st FS (cellIds x.cells)) (hw : Away μ S' (cellIds x.cells)) (hx : FlRel μ (live S0 μ FS) w x v) (he : ofFl fl st t x = some y) : Rd S' w t y v.cells.toList ∧ Val S' w t y v := by
  obtain ⟨hc, h1⟩ := ofFl_cells he
  have hr : Rd S' w t y v.cells.toList := by
    obtain ⟨v1, v2, cs2, hv, hr, hc, _, _, ha2⟩ := ofCells_rd h hS t hs hw (Fl.cells_rel hx) h1
    have : cs2 = [] := by cases cs2 with | nil => rfl | cons _ _ => cases hc
    subst this
    have ha2 : v2 = [] := ha2
    subst ha2
    rw [List.append_nil] at hv
    rw [hv]
    exact hr
  refine ⟨hr, ?_⟩
  cases x with
  | c z =>
    have hv := (cell_one (show CellRel μ (live S0 μ FS) w z v from hx)).2
    rw [hv] at hr
    unfold Val
    rw [← hc]
    exact hr
  | agg cs =>
    obtain ⟨vs, hv, _⟩ := hx
    subst hv
    unfold Val
    rw [← hc]
    exact ⟨vs, rfl, hr⟩

theorem ofFls_rd {S0 : Nat → Prop} {w0 : World} {nt : Nat} {μ : Nat → Value} {FS : Nat → Option Lv} {a : Act} {w : World} (h : Sim S0 w0 nt μ FS a w) {S' : Nat → Prop} (hS : ∀ k, S' k → live S0 μ FS k) {fl : Bool} {st : St} :
    ∀ (ts : List Ty) {xs : List Fl} {vs : List Value} {y : Dens ts}, SeesIds st FS (xs.flatMap fun x => cellIds x.cells) → Away μ S' (xs.flatMap fun x => cellIds x.cells) → FlsRel μ (live S0 μ FS) w xs vs → ofFls fl st ts xs = some y → Vals S' w ts y vs
  | [], [], _, _, _, _, h1, _ => h1
  | [], _ :: _, _, _, _, _, _, he => by cases he
  | _ :: _, [], _, _, _, _, _, he => by cases he
  | t :: ts, x :: xs, _, _, hs, hw, ⟨v, r, hv, h1, h2⟩, he => by
    subst hv
    simp only [ofFls] at he
    obtain ⟨p, hp, he⟩ := bind_some he
    obtain ⟨q, hq, he⟩ := bind_some he
    injection he with he
    subst he
    rw [List.flatMap_cons] at hs hw
    have e1 := (ofFl_rd h hS (fun i hi => hs i (List.mem_append_left _ hi)) (fun i hi => hw i (List.mem_append_left _ hi)) h1 hp).2
    have e2 := ofFls_rd h hS ts (fun i hi => hs i (List.mem_append_right _ hi)) (fun i hi => hw i (List.mem_append_right _ hi)) h2 hq
    exact ⟨v, r, rfl, e1, e2⟩

/-! ### What a call answers -/
theorem cellsOf_rel {S : Nat → Prop} {w : World} (μ : Nat → Value) : ∀ (t : Ty) {x : t.den} {cs : List Value}, Rd S w t x cs → AllRel μ S w (cellsOf t x) cs
  | .int k, x, cs, h => by
    have h' := h
    subst h'
    exact ⟨_, [], rfl, h, rfl⟩
  | .bool, x, cs, h => by
    have h' := h
    subst h'
    exact ⟨_, [], rfl, h, rfl⟩
  | .str, x, cs, h => by
    have h' := h
    subst h'
    exact ⟨_, [], rfl, h, rfl⟩
  | .sl t, x, cs, h => by
    obtain ⟨A, c, hc, _⟩ := id h
    subst hc
    exact ⟨_, [], rfl, h, rfl⟩
  | .refp t, x, cs, ⟨ad, es, hc, h1, h2, h3⟩ => by
    subst hc
    exact ⟨_, [], rfl, ⟨ad, es, rfl, h2, h3, h1⟩, rfl⟩
  | .fn f t, x, cs, h => by
    obtain ⟨ad, es, hc, _⟩ := id h
    subst hc
    exact ⟨_, [], rfl, h, rfl⟩
  | .nul m, x, cs, h => by
    have h' := h
    subst h'
    exact ⟨_, [], rfl, h, rfl⟩
  | .pair p q, x, cs, ⟨c1, c2, hc, h1, h2⟩ => by
    subst hc
    exact AllRel_append (cellsOf_rel μ p h1) (cellsOf_rel μ q h2)

theorem flOf_rel {S : Nat → Prop} {w : World} (μ : Nat → Value) (t : Ty) {x : t.den} {v : Value} (h : Val S w t x v) : FlRel μ S w (flOf t x) v := by
  cases t with
  | pair p q =>
    obtain ⟨cs, hv, hr⟩ : ∃ cs : List Value, v = .agg cs.toArray ∧ Rd S w (.pair p q) x cs := h
    exact ⟨cs, hv, cellsOf_rel μ (.pair p q) hr⟩
  | int k => exact h
  | bool => exact h
  | str => exact h
  | sl t => exact h
  | fn f t => exact h
  | nul m => exact h
  | refp t =>
    obtain ⟨ad, es, hc, h1, h2, h3⟩ : ∃ ad es, [v] = [Value.pointer (some ad)] ∧ ¬ S ad.block ∧ Rd S w t x es ∧ At w ad es := h
    exact ⟨ad, es, (List.cons.inj hc).1, h2, h3, h1⟩

theorem flsOf_rel {S : Nat → Prop} {w : World} (μ : Nat → Value) : ∀ (ts : List Ty) {x : Dens ts} {vs : List Value}, Vals S w ts x vs → FlsRel μ S w (flsOf ts x) vs
  | [], _, _, h => h
  | t :: ts, x, vs, ⟨v, r, hv, h1, h2⟩ => ⟨v, r, hv, flOf_rel μ t h1, flsOf_rel μ ts h2⟩

theorem Val.move {S S' : Nat → Prop} {w w' : World} (ha : Agree S w w') (hs : ∀ k, k < w.heap.size → S' k → S k) {t : Ty} {x : t.den} {v : Value} (hv : Val S w t x v) : Val S' w' t x v := by
  unfold Val at *
  cases hp : t.isPair with
  | true =>
    rw [hp] at hv
    obtain ⟨cs, h1, h2⟩ := hv
    exact ⟨cs, h1, h2.move ha hs⟩
  | false =>
    rw [hp] at hv
    exact Rd.move ha hs hv

theorem Vals.move {S S' : Nat → Prop} {w w' : World} (ha : Agree S w w') (hs : ∀ k, k < w.heap.size → S' k → S k) : ∀ {ts : List Ty} {x : Dens ts} {vs : List Value}, Vals S w ts x vs → Vals S' w' ts x vs
  | [], _, _, hv => hv
  | t :: ts, _, _, ⟨v, r, h0, h1, h2⟩ => ⟨v, r, h0, h1.move ha hs, Vals.move ha hs h2⟩

end Go.Ab
