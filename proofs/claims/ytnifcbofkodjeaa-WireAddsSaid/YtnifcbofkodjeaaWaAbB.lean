/- The abstract interpreter's values and the model's: what stands for what; what stays true when the world grows. -/
import Derived.Test.YtnifcbofkodjeaaWaAbA
import Derived.Below
import Derived.Maps.AppendAt
import Derived.Laws.MakeOwn
import Derived.Laws.OwnMore
set_option linter.unusedVariables false
set_option linter.unusedSimpArgs false
namespace Go.Ab
open Go.RowKit

def At (w : World) (ad : Addr) (cs : List Value) : Prop := ∀ j v, cs[j]? = some v → w.cell? (ad.add j) = some v

def Rd (S : Nat → Prop) (w : World) : (t : Ty) → t.den → List Value → Prop
  | .int k, n, cs => cs = [.int k n]
  | .bool, b, cs => cs = [.bool b]
  | .str, l, cs => cs = [.string ⟨l.toArray⟩]
  | .sl t, xs, cs => ∃ A c, cs = [.slice A (List.length xs) c] ∧ List.length xs ≤ c ∧ List.length xs ≤ 9223372036854775807 ∧
      (0 < List.length xs → ∃ ad, A = some ad ∧ ¬ S ad.block ∧ ∀ (i : Nat) (h : i < List.length xs), ∃ es, Rd S w t (xs[i]'h) es ∧ At w (ad.add (i * t.sz)) es)
  | .pair a b, x, cs => ∃ c1 c2, cs = c1 ++ c2 ∧ Rd S w a x.1 c1 ∧ Rd S w b x.2 c2
  | .refp t, x, cs => ∃ ad es, cs = [.pointer (some ad)] ∧ ¬ S ad.block ∧ Rd S w t x es ∧ At w ad es
  | .fn f t, x, cs => ∃ ad es, cs = [.func (.func f) #[] #[.pointer (some ad)]] ∧ ¬ S ad.block ∧ Rd S w t x es ∧ At w ad es
  | .nul m, _, cs => cs = [cond m (.map none) (.pointer none)]

theorem Rd_len {S : Nat → Prop} {w : World} : ∀ {t : Ty} {x : t.den} {cs : List Value}, Rd S w t x cs → cs.length = t.sz
  | .int _, _, _, h => by subst h; rfl
  | .bool, _, _, h => by subst h; rfl
  | .str, _, _, h => by subst h; rfl
  | .sl _, _, _, ⟨_, _, h, _⟩ => by subst h; rfl
  | .pair a b, _, _, ⟨c1, c2, h, h1, h2⟩ => by subst h; rw [List.length_append, Rd_len h1, Rd_len h2]; rfl
  | .refp _, _, _, ⟨_, _, h, _⟩ => by subst h; rfl
  | .fn _ _, _, _, ⟨_, _, h, _⟩ => by subst h; rfl
  | .nul _, _, _, h => by subst h; rfl

theorem Rd_one {S : Nat → Prop} {w : World} : ∀ {t : Ty} {x : t.den} {cs : List Value}, Rd S w t x cs → ∀ u ∈ cs, u.oneCell' = true
  | .int _, _, _, h, u, hu => by subst h; simp at hu; subst hu; rfl
  | .bool, _, _, h, u, hu => by subst h; simp at hu; subst hu; rfl
  | .str, _, _, h, u, hu => by subst h; simp at hu; subst hu; rfl
  | .sl _, _, _, ⟨_, _, h, _⟩, u, hu => by subst h; simp at hu; subst hu; rfl
  | .pair a b, _, _, ⟨c1, c2, h, h1, h2⟩, u, hu => by
    subst h
    rcases List.mem_append.1 hu with hu | hu
    · exact Rd_one h1 u hu
    · exact Rd_one h2 u hu
  | .refp _, _, _, ⟨_, _, h, _⟩, u, hu => by subst h; simp at hu; subst hu; rfl
  | .fn _ _, _, _, ⟨_, _, h, _⟩, u, hu => by subst h; simp at hu; subst hu; rfl
  | .nul m, _, _, h, u, hu => by subst h; simp at hu; subst hu; cases m <;> rfl

theorem Ty.sz_pos : ∀ t : Ty, 0 < t.sz
  | .int _ => Nat.one_pos
  | .bool => Nat.one_pos
  | .str => Nat.one_pos
  | .sl _ => Nat.one_pos
  | .pair a b => by have := a.sz_pos; simp only [Ty.sz]; omega
  | .refp _ => Nat.one_pos
  | .fn _ _ => Nat.one_pos
  | .nul _ => Nat.one_pos

/-- The worlds agree on the blocks that were there, but for some. -/
def Agree (S : Nat → Prop) (w w' : World) : Prop := w.heap.size ≤ w'.heap.size ∧ ∀ k, k < w.heap.size → ¬ S k → w'.heap[k]? = w.heap[k]?
theorem Agree.refl (S : Nat → Prop) (w : World) : Agree S w w := ⟨Nat.le_refl _, fun _ _ _ => rfl⟩

theorem add_block (a : Addr) (n : Nat) : (a.add n).block = a.block := by
  unfold Addr.add
  split <;> rfl

theorem At.move {S : Nat → Prop} {w w' : World} (ha : Agree S w w') {ad : Addr} (hS : ¬ S ad.block) {cs : List Value} (h : At w ad cs) : At w' ad cs := fun j v hv => by
  have hc := h j v hv
  have hb : (ad.add j).block = ad.block := add_block ad j
  exact (World.cell?_of_block (ha.2 _ (World.block_lt_of_cell? w _ hc) (by rw [hb]; exact hS))).trans hc

theorem at_lt {S : Nat → Prop} {w : World} {t : Ty} {x : t.den} {es : List Value} {ad : Addr} (h : Rd S w t x es) (ha : At w ad es) : ad.block < w.heap.size := by
  have hl := Rd_len h
  have hpos := t.sz_pos
  have hc := ha 0 (es[0]'(by omega)) (List.getElem?_eq_getElem (by omega))
  have := World.block_lt_of_cell? w _ hc
  rwa [add_block] at this

theorem Rd.move {S S' : Nat → Prop} {w w' : World} (ha : Agree S w w') (hs : ∀ k, k < w.heap.size → S' k → S k) : ∀ {t : Ty} {x : t.den} {cs : List Value}, Rd S w t x cs → Rd S' w' t x cs
  | .int _, _, _, h1 => h1
  | .bool, _, _, h1 => h1
  | .str, _, _, h1 => h1
  | .sl t, xs, _, ⟨A, c, h1, h2, h3, h4⟩ => ⟨A, c, h1, h2, h3, fun hp => by
      obtain ⟨ad, hA, hn, h5⟩ := h4 hp
      have hlt : ad.block < w.heap.size := by
        obtain ⟨es, h6, h7⟩ := h5 0 hp
        have hl := Rd_len h6
        have hpos : 0 < t.sz := t.sz_pos
        have hc := h7 0 (es[0]'(by omega)) (List.getElem?_eq_getElem (by omega))
        have := World.block_lt_of_cell? w _ hc
        rwa [add_block, add_block] at this
      refine ⟨ad, hA, fun hk => hn (hs _ hlt hk), fun i hi => ?_⟩
      obtain ⟨es, h6, h7⟩ := h5 i hi
      exact ⟨es, Rd.move ha hs h6, At.move ha (by rw [add_block]; exact hn) h7⟩⟩
  | .pair _ _, _, _, ⟨c1, c2, h0, h1, h2⟩ => ⟨c1, c2, h0, Rd.move ha hs h1, Rd.move ha hs h2⟩
  | .refp _, _, _, ⟨ad, es, h0, h1, h2, h3⟩ => ⟨ad, es, h0, fun hk => h1 (hs _ (at_lt h2 h3) hk), Rd.move ha hs h2, At.move ha h1 h3⟩
  | .fn _ _, _, _, ⟨ad, es, h0, h1, h2, h3⟩ => ⟨ad, es, h0, fun hk => h1 (hs _ (at_lt h2 h3) hk), Rd.move ha hs h2, At.move ha h1 h3⟩
  | .nul _, _, _, h1 => h1

def CellRel (μ : Nat → Value) (S : Nat → Prop) (w : World) : Cell → Value → Prop
  | .v t x, v => Rd S w t x [v]
  | .nil, v => v = .slice none 0 0
  | .ptr id off, v => ∃ g, μ id = .pointer (some ⟨g, 0, none⟩) ∧ v = .pointer (some ⟨g, off, none⟩)
  | .own id, v => v = μ id ∧ ∃ A n c, v = .slice A n c
  | .ref t x, v => ∃ ad es, v = .pointer (some ad) ∧ Rd S w t x es ∧ At w ad es ∧ ¬ S ad.block
  | .eptr id i off s, v => ∃ g n c, μ id = .slice (some ⟨g, 0, none⟩) n c ∧ v = .pointer (some ⟨g, i * s + off, none⟩)
  | .clo f _ id off, v => ∃ g, μ id = .pointer (some ⟨g, 0, none⟩) ∧ v = .func (.func f) #[] #[.pointer (some ⟨g, off, none⟩)]
  | .osl id lo s, v => (∃ g n c o, μ id = .slice (some ⟨g, 0, none⟩) n c ∧ v = .slice (some ⟨g, o, none⟩) (n - lo) (c - lo) ∧ (lo ≠ c → o = lo * s)) ∨ (μ id = .slice none 0 0 ∧ v = .slice none 0 0)
  | .asl id off n, v => ∃ g, μ id = .pointer (some ⟨g, 0, none⟩) ∧ v = .slice (some ⟨g, off, none⟩) n n
  | .mp id, v => v = μ id ∧ ∃ r, v = .map (some r)

def AllRel (μ : Nat → Value) (S : Nat → Prop) (w : World) : List Cell → List Value → Prop
  | [], vs => vs = []
  | c :: cs, vs => ∃ v r, vs = v :: r ∧ CellRel μ S w c v ∧ AllRel μ S w cs r

def FlRel (μ : Nat → Value) (S : Nat → Prop) (w : World) : Fl → Value → Prop
  | .c x, v => CellRel μ S w x v
  | .agg cs, v => ∃ vs : List Value, v = .agg vs.toArray ∧ AllRel μ S w cs vs

def FlsRel (μ : Nat → Value) (S : Nat → Prop) (w : World) : List Fl → List Value → Prop
  | [], vs => vs = []
  | x :: l, vs => ∃ v r, vs = v :: r ∧ FlRel μ S w x v ∧ FlsRel μ S w l r

def TVRel (μ : Nat → Value) (S : Nat → Prop) (w : World) : TV → Value → Prop
  | .f x, v => FlRel μ S w x v
  | .tup l, v => ∃ vs : List Value, v = .tuple vs.toArray ∧ FlsRel μ S w l vs

def Parts (S : Nat → Prop) (w : World) (t : Ty) : List t.den → List Value → Prop
  | [], l => l = []
  | x :: xs, l => ∃ es r, l = es ++ r ∧ Rd S w t x es ∧ Parts S w t xs r

def blk : Value → Option Nat
  | .pointer (some a) => some a.block
  | .slice (some a) _ _ => some a.block
  | .map (some r) => some r
  | _ => none

/-- A map's key. -/
def keyV : (t : Ty) → t.den → Value
  | .int k, n => .int k n
  | .str, l => .string ⟨List.toArray l⟩
  | _, _ => .tuple #[]

def Lv.isObj : Lv → Bool
  | .box _ => true
  | .row _ _ _ => true
  | .iter _ _ => true
  | .set _ _ => true
  | .bld _ _ => true
  | _ => false

def ObjRel (μ : Nat → Value) (S : Nat → Prop) (w : World) (base : Nat) (id : Nat) : Lv → Prop
  | .box cs => ∃ g vs T, μ id = .pointer (some ⟨g, 0, none⟩) ∧ base ≤ g ∧ w.heap[g]? = some (.cells (List.toArray vs) T (0, 0)) ∧ AllRel μ S w cs vs
  | .row e t xs => ∃ inner, w.ownsRow base e t.sz (μ id) xs.length inner ∧ Parts S w t xs inner ∧ xs.length ≤ 9223372036854775807
  | .iter l pos => ∃ g, μ id = .pointer (some ⟨g, 0, none⟩) ∧ base ≤ g ∧ w.heap[g]? = some (.stringIter ⟨l.toArray⟩ pos)
  | .set t xs => ∃ g es clock, μ id = .map (some g) ∧ base ≤ g ∧ w.heap[g]? = some (.map es clock) ∧ es.toList.map (fun e => (e.key, e.val)) = xs.map fun x => (keyV t x, Value.bool true)
  | .bld T q => ∃ g vp vq, μ id = .pointer (some ⟨g, 0, none⟩) ∧ base ≤ g ∧ w.heap[g]? = some (.cells #[vp, vq] T (0, 0)) ∧ (vp = .pointer none ∨ vp = .pointer (some ⟨g, 0, none⟩)) ∧ CellRel μ S w q vq
  | _ => True

/-- The blocks that may yet change: some of the caller's, and the objects' own. -/
def live (S0 : Nat → Prop) (μ : Nat → Value) (FS : Nat → Option Lv) (k : Nat) : Prop := S0 k ∨ ∃ id lv, FS (2 * id + 1) = some lv ∧ lv.isObj = true ∧ blk (μ id) = some k

structure Sim (S0 : Nat → Prop) (w0 : World) (nt : Nat) (μ : Nat → Value) (FS : Nat → Option Lv) (a : Act) (w : World) : Prop where
  low : ∀ k, S0 k → k < w0.heap.size
  below : Below w0.heap.size w0 w
  size : a.tmps.size = nt
  defers : a.defers = []
  slot : ∀ s x, FS (2 * s) = some (.tv x) → ∃ v, a.tmps[s]? = some v ∧ TVRel μ (live S0 μ FS) w x v
  undef : ∀ s, FS (2 * s) = some .undef → a.tmps[s]? = some undef
  obj : ∀ id lv, FS (2 * id + 1) = some lv → ObjRel μ (live S0 μ FS) w w0.heap.size id lv
  inj : ∀ i j x y k, FS (2 * i + 1) = some x → FS (2 * j + 1) = some y → x.isObj = true → y.isObj = true → i ≠ j → blk (μ i) = some k → blk (μ j) ≠ some k

/-! ### What stays -/
def agreeOn (μ μ' : Nat → Value) (l : List Nat) : Prop := ∀ i, i ∈ l → μ' i = μ i

theorem CellRel.move {μ μ' : Nat → Value} {S S' : Nat → Prop} {w w' : World} (ha : Agree S w w') (hs : ∀ k, k < w.heap.size → S' k → S k) :
    ∀ {c : Cell} {v : Value}, agreeOn μ μ' (cellIds [c]) → CellRel μ S w c v → CellRel μ' S' w' c v
  | .v t x, v, _, h => Rd.move ha hs h
  | .nil, v, _, h => h
  | .ptr id off, v, hm, ⟨g, h1, h2⟩ => ⟨g, (hm id (by simp [cellIds, Cell.id?])).trans h1, h2⟩
  | .own id, v, hm, ⟨h1, h2⟩ => ⟨h1.trans (hm id (by simp [cellIds, Cell.id?])).symm, h2⟩
  | .ref t x, v, _, ⟨ad, es, h1, h2, h3, h4⟩ => ⟨ad, es, h1, Rd.move ha hs h2, At.move ha h4 h3, fun hk => h4 (hs _ (at_lt h2 h3) hk)⟩
  | .eptr id i off s, v, hm, ⟨g, n, c, h1, h2⟩ => ⟨g, n, c, (hm id (by simp [cellIds, Cell.id?])).trans h1, h2⟩
  | .clo f t id off, v, hm, ⟨g, h1, h2⟩ => ⟨g, (hm id (by simp [cellIds, Cell.id?])).trans h1, h2⟩
  | .osl id lo s, v, hm, .inl ⟨g, n, c, o, h1, h2⟩ => .inl ⟨g, n, c, o, (hm id (by simp [cellIds, Cell.id?])).trans h1, h2⟩
  | .osl id lo s, v, hm, .inr ⟨h1, h2⟩ => .inr ⟨(hm id (by simp [cellIds, Cell.id?])).trans h1, h2⟩
  | .asl id off n, v, hm, ⟨g, h1, h2⟩ => ⟨g, (hm id (by simp [cellIds, Cell.id?])).trans h1, h2⟩
  | .mp id, v, hm, ⟨h1, h2⟩ => ⟨h1.trans (hm id (by simp [cellIds, Cell.id?])).symm, h2⟩

theorem cellIds_cons (c : Cell) (cs : List Cell) : cellIds (c :: cs) = cellIds [c] ++ cellIds cs := by
  unfold cellIds
  rw [← List.filterMap_append]
  rfl

theorem agreeOn.left {μ μ' : Nat → Value} {l r : List Nat} (h : agreeOn μ μ' (l ++ r)) : agreeOn μ μ' l := fun i hi => h i (List.mem_append_left _ hi)
theorem agreeOn.right {μ μ' : Nat → Value} {l r : List Nat} (h : agreeOn μ μ' (l ++ r)) : agreeOn μ μ' r := fun i hi => h i (List.mem_append_right _ hi)

theorem AllRel.move {μ μ' : Nat → Value} {S S' : Nat → Prop} {w w' : World} (ha : Agree S w w') (hs : ∀ k, k < w.heap.size → S' k → S k) :
    ∀ {cs : List Cell} {vs : List Value}, agreeOn μ μ' (cellIds cs) → AllRel μ S w cs vs → AllRel μ' S' w' cs vs
  | [], _, _, h => h
  | c :: cs, vs, hm, ⟨v, r, h, h1, h2⟩ => by
    rw [cellIds_cons] at hm
    exact ⟨v, r, h, h1.move ha hs hm.left, AllRel.move ha hs hm.right h2⟩

theorem FlRel.move {μ μ' : Nat → Value} {S S' : Nat → Prop} {w w' : World} (ha : Agree S w w') (hs : ∀ k, k < w.heap.size → S' k → S k) :
    ∀ {x : Fl} {v : Value}, agreeOn μ μ' (cellIds x.cells) → FlRel μ S w x v → FlRel μ' S' w' x v
  | .c x, v, hm, h => CellRel.move ha hs hm h
  | .agg cs, v, hm, ⟨vs, h, h1⟩ => ⟨vs, h, AllRel.move ha hs hm h1⟩

theorem FlsRel.move {μ μ' : Nat → Value} {S S' : Nat → Prop} {w w' : World} (ha : Agree S w w') (hs : ∀ k, k < w.heap.size → S' k → S k) :
    ∀ {l : List Fl} {vs : List Value}, agreeOn μ μ' (l.flatMap fun x => cellIds x.cells) → FlsRel μ S w l vs → FlsRel μ' S' w' l vs
  | [], _, _, h => h
  | x :: l, vs, hm, ⟨v, r, h, h1, h2⟩ => by
    rw [List.flatMap_cons] at hm
    exact ⟨v, r, h, h1.move ha hs hm.left, FlsRel.move ha hs hm.right h2⟩

theorem TVRel.move {μ μ' : Nat → Value} {S S' : Nat → Prop} {w w' : World} (ha : Agree S w w') (hs : ∀ k, k < w.heap.size → S' k → S k) :
    ∀ {x : TV} {v : Value}, agreeOn μ μ' (tvIds x) → TVRel μ S w x v → TVRel μ' S' w' x v
  | .f x, v, hm, h => FlRel.move ha hs hm h
  | .tup l, v, hm, ⟨vs, h, h1⟩ => ⟨vs, h, FlsRel.move ha hs hm h1⟩

theorem Parts.move {S S' : Nat → Prop} {w w' : World} (ha : Agree S w w') (hs : ∀ k, k < w.heap.size → S' k → S k) {t : Ty} :
    ∀ {xs : List t.den} {l : List Value}, Parts S w t xs l → Parts S' w' t xs l
  | [], _, h => h
  | x :: xs, _, ⟨es, r, h, h1, h2⟩ => ⟨es, r, h, h1.move ha hs, Parts.move ha hs h2⟩

theorem ownsRow_at {w w' : World} {base : Nat} {e : TypeId} {size n : Nat} {v : Value} {xs : List Value} (h : w.ownsRow base e size v n xs) (hk : ∀ k, blk v = some k → w'.heap[k]? = w.heap[k]?) : w'.ownsRow base e size v n xs := by
  refine ⟨h.1, ?_⟩
  rcases h.2 with h2 | ⟨g, cap, cur, rfl, hb, hg, r⟩
  · exact .inl h2
  · exact .inr ⟨g, cap, cur, rfl, hb, (hk g rfl).trans hg, r⟩

theorem ObjRel.move {μ μ' : Nat → Value} {S S' : Nat → Prop} {w w' : World} {base id : Nat} (ha : Agree S w w') (hs : ∀ k, k < w.heap.size → S' k → S k) (hid : μ' id = μ id)
    (hk : ∀ k, blk (μ id) = some k → w'.heap[k]? = w.heap[k]?) : ∀ {lv : Lv}, agreeOn μ μ' (lvIds lv) → ObjRel μ S w base id lv → ObjRel μ' S' w' base id lv
  | .box cs, hm, ⟨g, vs, T, h1, h2, h3, h4⟩ => ⟨g, vs, T, hid.trans h1, h2, (hk g (by rw [h1]; rfl)).trans h3, h4.move ha hs hm⟩
  | .row e t xs, _, ⟨inner, h1, h2, h3⟩ => ⟨inner, by rw [hid]; exact ownsRow_at h1 hk, h2.move ha hs, h3⟩
  | .iter l pos, _, ⟨g, h1, h2, h3⟩ => ⟨g, hid.trans h1, h2, (hk g (by rw [h1]; rfl)).trans h3⟩
  | .set t xs, _, ⟨g, es, clock, h1, h2, h3, h4⟩ => ⟨g, es, clock, hid.trans h1, h2, (hk g (by rw [h1]; rfl)).trans h3, h4⟩
  | .bld T q, hm, ⟨g, vp, vq, h1, h2, h3, h4, h5⟩ => ⟨g, vp, vq, hid.trans h1, h2, (hk g (by rw [h1]; rfl)).trans h3, h4, h5.move ha hs hm⟩
  | .tv _, _, _ => trivial
  | .undef, _, _ => trivial
  | .gone, _, _ => trivial

theorem ObjRel.lt {μ : Nat → Value} {S : Nat → Prop} {w : World} {base id k : Nat} {lv : Lv} (h : ObjRel μ S w base id lv) (ho : lv.isObj = true) (hk : blk (μ id) = some k) : base ≤ k ∧ k < w.heap.size := by
  cases lv with
  | box cs =>
    obtain ⟨g, vs, T, h1, h2, h3, _⟩ := h
    rw [h1] at hk
    simp [blk] at hk
    subst hk
    exact ⟨h2, (Array.getElem?_eq_some_iff.1 h3).1⟩
  | row e t xs =>
    obtain ⟨inner, h1, _⟩ := h
    refine h1.lt k ?_
    unfold blk at hk
    unfold Value.ownBlock
    rcases h1.2 with ⟨h2, _⟩ | ⟨g, cap, cur, h2, _⟩ <;> rw [h2] at hk ⊢ <;> exact hk
  | iter l pos =>
    obtain ⟨g, h1, h2, h3⟩ := h
    rw [h1] at hk
    simp [blk] at hk
    subst hk
    exact ⟨h2, (Array.getElem?_eq_some_iff.1 h3).1⟩
  | set t xs =>
    obtain ⟨g, es, clock, h1, h2, h3, _⟩ := h
    rw [h1] at hk
    simp [blk] at hk
    subst hk
    exact ⟨h2, (Array.getElem?_eq_some_iff.1 h3).1⟩
  | bld T q =>
    obtain ⟨g, vp, vq, h1, h2, h3, _⟩ := h
    rw [h1] at hk
    simp [blk] at hk
    subst hk
    exact ⟨h2, (Array.getElem?_eq_some_iff.1 h3).1⟩
  | tv _ => cases ho
  | undef => cases ho
  | gone => cases ho

/-- A Sim lives on, where the slots are what they were and each object is told anew or has not changed. -/
theorem Sim.update {S0 : Nat → Prop} {w0 : World} {nt : Nat} {μ μ' : Nat → Value} {FS FS' : Nat → Option Lv} {a : Act} {w w' : World} (h : Sim S0 w0 nt μ FS a w)
    (heven : ∀ s, FS' (2 * s) = FS (2 * s)) (hag : Agree (live S0 μ FS) w w') (hlive : ∀ k, k < w.heap.size → live S0 μ' FS' k → live S0 μ FS k)
    (hμ : ∀ s x, FS (2 * s) = some (.tv x) → agreeOn μ μ' (tvIds x)) (hb : Below w0.heap.size w0 w')
    (hobj : ∀ id lv, FS' (2 * id + 1) = some lv → ObjRel μ' (live S0 μ' FS') w' w0.heap.size id lv)
    (hinj : ∀ i j x y k, FS' (2 * i + 1) = some x → FS' (2 * j + 1) = some y → x.isObj = true → y.isObj = true → i ≠ j → blk (μ' i) = some k → blk (μ' j) ≠ some k) :
    Sim S0 w0 nt μ' FS' a w' where
  low := h.low
  below := hb
  size := h.size
  defers := h.defers
  slot := fun s x hs => by
    rw [heven] at hs
    obtain ⟨v, h1, h2⟩ := h.slot s x hs
    exact ⟨v, h1, h2.move hag hlive (hμ s x hs)⟩
  undef := fun s hs => h.undef s (by rw [← heven]; exact hs)
  obj := hobj
  inj := hinj

/-- Nothing but new memory, none of it the interpreter's: what a quiet step or a call leaves. -/
theorem Sim.grow {S0 : Nat → Prop} {w0 : World} {nt : Nat} {μ : Nat → Value} {FS : Nat → Option Lv} {a : Act} {w w' : World} (h : Sim S0 w0 nt μ FS a w) (hb : Below w.heap.size w w') : Sim S0 w0 nt μ FS a w' := by
  have hag : Agree (live S0 μ FS) w w' := ⟨hb.size, fun k hk _ => hb.block k hk⟩
  have hsz := h.below.size
  refine h.update (fun _ => rfl) hag (fun _ _ h => h) (fun _ _ _ _ _ => rfl) (h.below.trans ⟨hb.os, hb.tape, hb.output, hb.size, fun k hk => hb.block k (by omega)⟩) (fun id lv hl => ?_) h.inj
  cases hi : lv.isObj with
  | true => exact (h.obj id lv hl).move hag (fun _ _ h => h) rfl (fun k hk => hb.block k ((h.obj id lv hl).lt hi hk).2) (fun _ _ => rfl)
  | false => cases lv <;> first | exact trivial | cases hi

/-- A slot is written. -/
theorem Sim.put {S0 : Nat → Prop} {w0 : World} {nt : Nat} {μ : Nat → Value} {FS : Nat → Option Lv} {a : Act} {w : World} (h : Sim S0 w0 nt μ FS a w) {d : Nat} (hd : d < nt) {x : TV} {v : Value} (hv : TVRel μ (live S0 μ FS) w x v) :
    Sim S0 w0 nt μ (fun l => if l = 2 * d then some (.tv x) else FS l) (a.put (some d) v) w := by
  have ho : ∀ id, (fun l => if l = 2 * d then some (Lv.tv x) else FS l) (2 * id + 1) = FS (2 * id + 1) := fun id => by
    show (if 2 * id + 1 = 2 * d then _ else _) = _
    rw [if_neg (by omega)]
  have hl : live S0 μ (fun l => if l = 2 * d then some (Lv.tv x) else FS l) = live S0 μ FS := by
    funext k
    unfold live
    simp only [ho]
  refine ⟨h.low, h.below, by simp [Act.put, h.size], h.defers, fun s y hs => ?_, fun s hs => ?_, fun id lv hi => ?_, fun i j x' y' k hi hj => ?_⟩
  · by_cases e : s = d
    · subst e
      simp only [if_pos] at hs
      injection hs with hs
      injection hs with hs
      subst hs
      refine ⟨v, ?_, by rw [hl]; exact hv⟩
      simp only [Act.put]
      rw [Array.getElem?_setIfInBounds_self_of_lt (by rw [h.size]; exact hd)]
    · rw [if_neg (by omega)] at hs
      obtain ⟨u, h1, h2⟩ := h.slot s y hs
      refine ⟨u, ?_, by rw [hl]; exact h2⟩
      simp only [Act.put]
      rw [Array.getElem?_setIfInBounds_ne (fun e' => e e'.symm)]
      exact h1
  · by_cases e : s = d
    · subst e
      simp at hs
    · rw [if_neg (by omega)] at hs
      simp only [Act.put]
      rw [Array.getElem?_setIfInBounds_ne (fun e' => e e'.symm)]
      exact h.undef s hs
  · rw [hl]
    exact h.obj id lv (by rw [← ho]; exact hi)
  · exact h.inj i j x' y' k (by rw [← ho]; exact hi) (by rw [← ho]; exact hj)

theorem Sim.putUndef {S0 : Nat → Prop} {w0 : World} {nt : Nat} {μ : Nat → Value} {FS : Nat → Option Lv} {a : Act} {w : World} (h : Sim S0 w0 nt μ FS a w) {d : Nat} (hd : d < nt) :
    Sim S0 w0 nt μ (fun l => if l = 2 * d then some .undef else FS l) (a.put (some d) Go.undef) w := by
  have ho : ∀ id, (fun l => if l = 2 * d then some Lv.undef else FS l) (2 * id + 1) = FS (2 * id + 1) := fun id => by
    show (if 2 * id + 1 = 2 * d then _ else _) = _
    rw [if_neg (by omega)]
  have hl : live S0 μ (fun l => if l = 2 * d then some Lv.undef else FS l) = live S0 μ FS := by
    funext k
    unfold live
    simp only [ho]
  refine ⟨h.low, h.below, by simp [Act.put, h.size], h.defers, fun s y hs => ?_, fun s hs => ?_, fun id lv hi => ?_, fun i j x' y' k hi hj => ?_⟩
  · by_cases e : s = d
    · subst e
      simp at hs
    · rw [if_neg (by omega)] at hs
      obtain ⟨u, h1, h2⟩ := h.slot s y hs
      refine ⟨u, ?_, by rw [hl]; exact h2⟩
      simp only [Act.put]
      rw [Array.getElem?_setIfInBounds_ne (fun e' => e e'.symm)]
      exact h1
  · by_cases e : s = d
    · subst e
      simp only [Act.put]
      rw [Array.getElem?_setIfInBounds_self_of_lt (by rw [h.size]; exact hd)]
    · rw [if_neg (by omega)] at hs
      simp only [Act.put]
      rw [Array.getElem?_setIfInBounds_ne (fun e' => e e'.symm)]
      exact h.undef s hs
  · rw [hl]
    exact h.obj id lv (by rw [← ho]; exact hi)
  · exact h.inj i j x' y' k (by rw [← ho]; exact hi) (by rw [← ho]; exact hj)

end Go.Ab
