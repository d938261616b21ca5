/- One operation: all together. -/
import Derived.Test.YtnifcbofkodjeaaWaAbK
import Derived.MapKept
set_option linter.unusedVariables false
set_option linter.unusedSimpArgs false
namespace Go.Ab
open Go.RowKit

variable {P : Program} {T : Nat → Option TI} {st : St} {new : Option Nat}

theorem band {a b : Bool} (h : (a && b) = true) : a = true ∧ b = true := by
  cases a <;> cases b <;> simp_all
theorem nbeq {a b : Nat} (h : Nat.beq a b = true) : a = b := Nat.eq_of_beq_eq_true h
theorem nle {a b : Nat} (h : Nat.ble a b = true) : a ≤ b := Nat.le_of_ble_eq_true h
theorem nnbeq {a b : Nat} (h : (!(Nat.beq a b)) = true) : a ≠ b := fun e => by
  subst e
  rw [Nat.beq_refl] at h
  cases h

theorem run_getObj' {w : World} {r : Nat} {s : ByteArray} {p : Nat} (h : w.heap[r]? = some (.stringIter s p)) : (getObj r).run P w = .ok (.stringIter s p) w := by simp [getObj, Sem.run, h]
theorem run_setObj' {w : World} {r : Nat} {s : ByteArray} {p : Nat} (o' : Obj) (h : w.heap[r]? = some (.stringIter s p)) : (setObj r o').run P w = .ok () { w with heap := w.heap.setIfInBounds r o' } := by simp [setObj, Sem.run, h]

theorem ok_range {t : TypeId} {ti : TI} (hT : TOK P t ti) (hk : ti.k = .one) (hty : ti.ty = .str) {x : Operand} {l : List UInt8} (hx : evC st x = some (.v .str l)) {n : Nat} (hf : fresh st n = true) : StepOK P (.range t x) st (some n) (.f (.c (.ptr n 0))) [(2 * n + 1, .iter l 0)] := by
  intro S0 w0 nt μ FS a w o ho hs hfr hsim next Q hn
  have hfs := hfr n rfl hf (by simp)
  have hv : [a.eval x] = [.string ⟨l.toArray⟩] := evC_rel hsim (sees_of hs (by simp [Op.operands])) hx
  have hrun : (execOp a.eval o).run P w = .ok (.value (.pointer (some ⟨w.heap.size, 0, none⟩))) (w.alloc (.stringIter ⟨l.toArray⟩ 0)) := by
    unfold execOp
    rw [ho]
    simp only [(List.cons.inj hv).1, Instr.range, Sem.run_bind, run_underlying ((one_desc hT hk).2.2 hty), Result.andThen_ok, Sem.run_pure, run_newObj]
    rfl
  have hbel : Below w.heap.size w (w.alloc (.stringIter ⟨l.toArray⟩ 0)) := (Below.refl _ w).alloc (Nat.le_refl _) _
  have hn' : ∀ v, upd μ n v n = v := fun v => by unfold upd; rw [if_pos rfl]
  have hsim' := hsim.made hfs (lv := .iter l 0) (v := .pointer (some ⟨w.heap.size, 0, none⟩)) new_even (new_old (n := n)) new_self hbel (fun k hk => by simp [blk] at hk; omega)
    ⟨w.heap.size, hn' _, hsim.below.size, heap_alloc_new w _⟩
  exact step_of_run hrun (hn _ _ _ hsim' ⟨w.heap.size, hn' _, rfl⟩)

theorem ok_next_over {x : Operand} {id : Nat} {l : List UInt8} {pos : Nat} (hx : evC st x = some (.ptr id 0)) (hl : look st (2 * id + 1) = some (.iter l pos)) (hp : ¬ pos < l.length) : StepOK P (.next x true) st new (.tup [.c (.v .bool false)]) [] :=
  stepOK_pure fun S0 w0 nt μ FS a w o ho hs hsim => by
    obtain ⟨g, h1, h2⟩ := evC_rel hsim (sees_of hs (by simp [Op.operands])) hx
    have hi := seesIds_of hs (x := x) (by simp [Op.operands]) (evC_evO hx) id (by simp [tvIds, Fl.cells, cellIds, Cell.id?])
    obtain ⟨g', h3, _, h4⟩ := hsim.obj id (.iter l pos) (by rw [hi]; exact hl)
    rw [h1] at h3
    have hg : g = g' := by injection h3 with h3; injection h3 with h3; injection h3
    subst hg
    refine ⟨.tuple #[.bool false], ?_, [.bool false], rfl, .bool false, [], rfl, rfl, rfl⟩
    unfold execOp
    rw [ho]
    simp only [h2, Instr.next, Sem.run_bind, run_getObj' h4, Result.andThen_ok]
    rw [if_neg (show ¬ pos < ByteArray.size ⟨l.toArray⟩ from hp)]
    rfl

theorem ok_next_more {x : Operand} {id : Nat} {l : List UInt8} {pos : Nat} (hx : evC st x = some (.ptr id 0)) (hl : look st (2 * id + 1) = some (.iter l pos)) (hp : pos < l.length) :
    StepOK P (.next x true) st new (.tup [.c (.v .bool true), .c (.v (.int .i64) ((pos : Nat) : Int)), .c (.v (.int .i32) (((decodeAt l pos).1 : Nat) : Int))]) [(2 * id + 1, .iter l (pos + (decodeAt l pos).2))] := by
  intro S0 w0 nt μ FS a w o ho hs _ hsim next Q hn
  obtain ⟨g, h1, h2⟩ := evC_rel hsim (sees_of hs (by simp [Op.operands])) hx
  have hi := seesIds_of hs (x := x) (by simp [Op.operands]) (evC_evO hx) id (by simp [tvIds, Fl.cells, cellIds, Cell.id?])
  have hFS : FS (2 * id + 1) = some (.iter l pos) := hi.trans hl
  obtain ⟨g', h3, hge, h4⟩ := hsim.obj id _ hFS
  rw [h1] at h3
  have hg : g = g' := by injection h3 with h3; injection h3 with h3; injection h3
  subst hg
  have hrun : (execOp a.eval o).run P w = .ok (.value (.tuple #[.bool true, .int .i64 pos, .int .i32 ((decodeAt l pos).1 : Nat)])) { w with heap := w.heap.setIfInBounds g (.stringIter ⟨l.toArray⟩ (pos + (decodeAt l pos).2)) } := by
    unfold execOp
    rw [ho]
    simp only [h2, Instr.next, Sem.run_bind, run_getObj' h4, Result.andThen_ok]
    rw [if_pos (show pos < ByteArray.size ⟨l.toArray⟩ from hp)]
    unfold decodeAt
    rcases hd : Utf8.decode ⟨l.toArray⟩ pos with ⟨c, wd⟩
    simp only [Sem.run_bind, run_setObj' _ h4, Result.andThen_ok, Sem.run_pure, goInt]
  have hlt := (Array.getElem?_eq_some_iff.1 h4).1
  have hsim' := hsim.store (lv' := .iter l (pos + (decodeAt l pos).2)) (w' := { w with heap := w.heap.setIfInBounds g (.stringIter ⟨l.toArray⟩ (pos + (decodeAt l pos).2)) }) hFS rfl (g := g) (by rw [h1]; rfl) rfl rfl rfl
    (by simp) (fun k hk => by simp only [Array.getElem?_setIfInBounds_ne (fun e => hk e.symm)]) (fun _ => ⟨g, h1, hge, by simp only [Array.getElem?_setIfInBounds_self_of_lt hlt]⟩)
  exact step_of_run hrun (hn _ _ μ hsim' ⟨[.bool true, .int .i64 pos, .int .i32 ((decodeAt l pos).1 : Nat)], rfl, _, _, rfl, rfl, _, _, rfl, rfl, _, _, rfl, rfl, rfl⟩)

theorem ok_makeFunc {f : FuncId} {x : Operand} {fst cap : Array Operand} (hf : fst.toList = []) (hcap : cap.toList = [x]) {id off : Nat} (t : Ty) (hx : evC st x = some (.ptr id off)) : StepOK P (.makeFunc (.func f) fst cap) st new (.f (.c (.clo f t id off))) [] :=
  stepOK_pure fun S0 w0 nt μ FS a w o ho hs hsim => by
    obtain rfl : fst = #[] := by apply Array.ext'; exact hf
    obtain rfl : cap = #[x] := by apply Array.ext'; exact hcap
    obtain ⟨g, h1, h2⟩ := evC_rel hsim (sees_of hs (by simp [Op.operands])) hx
    refine ⟨.func (.func f) #[] #[.pointer (some ⟨g, off, none⟩)], ?_, g, h1, rfl⟩
    unfold execOp
    rw [ho]
    simp only [Instr.makeFunc, List.map_toArray, List.map_cons, List.map_nil, h2, Sem.run_bind, Sem.run_pure, Result.andThen_ok]

/-! ### Maps whose elements are 'true' -/
theorem map_desc {t : TypeId} {ti : TI} (hT : TOK P t ti) {k e : TypeId} (hk : ti.k = .map k e) : P.underlying t = some (.map k e) := by
  obtain ⟨d, hd, hkd⟩ := hT.desc
  unfold KOK at hkd
  rw [hk] at hkd
  rw [hd, hkd]

theorem set_find {t : Ty} {d : TypeDesc} {es : Array MapEntry} {xs : List t.den} (hes : es.toList.map (fun e => (e.key, e.val)) = xs.map fun x => (keyV t x, Value.bool true)) (hkey : ∀ x, MapKept.IsKey d (keyV t x)) (x : t.den) :
    ((∀ y ∈ xs, keyV t x ≠ keyV t y) ∧ Instr.findNow d (keyV t x) es.toList 0 = some none) ∨
      ((∃ y ∈ xs, keyV t x = keyV t y) ∧ ∃ j e, Instr.findNow d (keyV t x) es.toList 0 = some (some (j, .bool true)) ∧ es[j]? = some e ∧ e.key = keyV t x ∧ e.val = .bool true) := by
  have mem : ∀ e ∈ es.toList, ∃ y ∈ xs, e.key = keyV t y ∧ e.val = .bool true := by
    intro e he
    have : (e.key, e.val) ∈ es.toList.map (fun e => (e.key, e.val)) := List.mem_map.2 ⟨e, he, rfl⟩
    rw [hes] at this
    obtain ⟨y, hy, h⟩ := List.mem_map.1 this
    injection h with h1 h2
    exact ⟨y, hy, h1.symm, h2.symm⟩
  rcases MapKept.findNow_spec (hkey x) es.toList 0 (fun e he => by
    obtain ⟨y, _, h, _⟩ := mem e he
    rw [h]
    exact hkey y) with ⟨h1, h2⟩ | ⟨j, e, h1, h2, h3⟩
  · refine .inl ⟨fun y hy e => ?_, h1⟩
    have : (keyV t y, Value.bool true) ∈ xs.map fun x => (keyV t x, Value.bool true) := List.mem_map.2 ⟨y, hy, rfl⟩
    rw [← hes] at this
    obtain ⟨e', he', h⟩ := List.mem_map.1 this
    injection h with h3 _
    exact h2 e' he' (h3.trans e.symm)
  · obtain ⟨y, hy, h4, h5⟩ := mem e (List.mem_of_getElem? h2)
    refine .inr ⟨⟨y, hy, by rw [← h3, h4]⟩, j, e, ?_, by rw [← Array.getElem?_toList]; exact h2, h3, h5⟩
    rw [h1, Nat.zero_add, h5]

/-- What a set says of a key: what is looked for, and what is kept. -/
structure SetOf (t : Ty) (d : TypeDesc) (xs : List t.den) (x : t.den) (b : Bool) : Prop where
  key : ∀ y, MapKept.IsKey d (keyV t y)
  has : b = true ↔ ∃ y ∈ xs, keyV t x = keyV t y
  same : Instr.sameBits 10000 (keyV t x) (keyV t x) = true

theorem setOf_int {k : IntKind} (xs : List Int) (n : Int) : SetOf (.int k) (.int k) xs n (hasI xs n) where
  key := fun _ => rfl
  has := by
    unfold hasI
    rw [List.any_eq_true]
    constructor
    · rintro ⟨y, hy, h⟩
      exact ⟨y, hy, by rw [eq_of_beq h]⟩
    · rintro ⟨y, hy, h⟩
      injection h with _ h
      exact ⟨y, hy, beq_iff_eq.2 h⟩
  same := by simp [keyV, Instr.sameBits]

theorem setOf_str (xs : List (List UInt8)) (l : List UInt8) : SetOf .str .string xs l (hasS xs l) where
  key := fun _ => trivial
  has := by
    unfold hasS
    rw [List.any_eq_true]
    constructor
    · rintro ⟨y, hy, h⟩
      exact ⟨y, hy, by rw [eq_of_beq h]⟩
    · rintro ⟨y, hy, h⟩
      refine ⟨y, hy, beq_iff_eq.2 ?_⟩
      have h : Value.string ⟨List.toArray l⟩ = .string ⟨List.toArray y⟩ := h
      injection h with h
      injection h with h
      injection h
  same := by
    show ((⟨List.toArray l⟩ : ByteArray) == ⟨List.toArray l⟩) = true
    exact (MapKept.bytes_beq _ _).2 rfl

theorem ok_makeMap {t : TypeId} (u : Ty) {n : Nat} (hf : fresh st n = true) : StepOK P (.makeMap t none) st (some n) (.f (.c (.mp n))) [(2 * n + 1, .set u [])] := by
  intro S0 w0 nt μ FS a w o ho hs hfr hsim next Q hn
  have hfs := hfr n rfl hf (by simp)
  have hrun : (execOp a.eval o).run P w = .ok (.value (.map (some w.heap.size))) (w.alloc (.map #[] 0)) := by
    unfold execOp
    rw [ho]
    rfl
  have hv : ∀ k, blk (.map (some w.heap.size)) = some k → w.heap.size ≤ k := fun k hk => by injection hk with hk; exact Nat.le_of_eq hk
  have hbel : Below w.heap.size w (w.alloc (.map #[] 0)) := (Below.refl _ _).alloc (Nat.le_refl _) _
  have hn' : ∀ v, upd μ n v n = v := fun v => by unfold upd; rw [if_pos rfl]
  refine step_of_run hrun (hn _ _ (upd μ n (.map (some w.heap.size))) (hsim.made hfs new_even (new_old (n := n)) new_self hbel hv ?_) ⟨(hn' _).symm, w.heap.size, rfl⟩)
  exact ⟨w.heap.size, #[], 0, hn' _, hsim.below.size, heap_alloc_new w _, rfl⟩

theorem run_zbool {t : TypeId} {ti : TI} (hT : TOK P t ti) (hk : ti.k = .one) (hty : ti.ty = .bool) (w : World) : (zeroValue t).run P w = .ok (.bool false) w := by
  obtain ⟨i, hi, hz⟩ := hT.zbool hk hty
  unfold zeroValue typeInfo
  simp only [Sem.run_bind, run_program, Result.andThen_ok, hi, Sem.run_pure, hz]

theorem ok_lookup {t kt et : TypeId} {ti te : TI} (hT : TOK P t ti) (hk : ti.k = .map kt et) (hE : TOK P et te) (hek : te.k = .one) (hty : te.ty = .bool) {x ix : Operand} {id : Nat} {u : Ty} {xs : List u.den} {k : Cell} {key : u.den} {b : Bool}
    (hx : evC st x = some (.mp id)) (hl : look st (2 * id + 1) = some (.set u xs)) (hi : evC st ix = some k) (hkv : ∀ μ S w v, CellRel μ S w k v → v = keyV u key) {d : TypeDesc} (hd : P.underlying kt = some d) (hset : SetOf u d xs key b) :
    StepOK P (.lookup t x ix false) st new (.f (.c (.v .bool b))) [] :=
  stepOK_pure fun S0 w0 nt μ FS a w o ho hs hsim => by
    obtain ⟨h1, r, h2⟩ := evC_rel hsim (sees_of hs (by simp [Op.operands])) hx
    have hid := seesIds_of hs (x := x) (by simp [Op.operands]) (evC_evO hx) id (by simp [tvIds, Fl.cells, cellIds, Cell.id?])
    obtain ⟨g, es, clock, h3, _, h4, h5⟩ := hsim.obj id (.set u xs) (by rw [hid]; exact hl)
    have h6 := hkv _ _ _ _ (evC_rel hsim (sees_of hs (by simp [Op.operands])) hi)
    refine ⟨.bool b, ?_, rfl⟩
    unfold execOp
    rw [ho]
    simp only [h6, h1, h3, Instr.lookup, Sem.run_bind, run_underlying (map_desc hT hk), Result.andThen_ok, MapKept.run_getObj_map h4, Sem.run_pure, MapKept.run_checkKey hd (hset.key key)]
    rcases set_find h5 hset.key key with ⟨h7, h8⟩ | ⟨h7, j, e, h8, _⟩
    · have hb : b = false := by
        cases hb : b with
        | false => rfl
        | true =>
          obtain ⟨y, hy, h⟩ := hset.has.1 hb
          exact absurd h (h7 y hy)
      subst hb
      simp [MapKept.run_findKey hd h8, run_zbool hE hek hty]
    · have hb : b = true := hset.has.2 h7
      subst hb
      simp [MapKept.run_findKey hd h8]

theorem ok_mapUpdate {t kt et : TypeId} {ti : TI} (hT : TOK P t ti) (hk : ti.k = .map kt et) {m kx vx : Operand} {id : Nat} {u : Ty} {xs : List u.den} {k : Cell} {key : u.den} {b : Bool}
    (hx : evC st m = some (.mp id)) (hl : look st (2 * id + 1) = some (.set u xs)) (hi : evC st kx = some k) (hv : evB st vx = some true) (hkv : ∀ μ S w v, CellRel μ S w k v → v = keyV u key) {d : TypeDesc} (hd : P.underlying kt = some d) (hset : SetOf u d xs key b) :
    StepOK P (.mapUpdate t m kx vx) st new (.tup []) [(2 * id + 1, .set u (cond b xs (xs ++ [key])))] := by
  intro S0 w0 nt μ FS a w o ho hs _ hsim next Q hn
  obtain ⟨h1, r, h2⟩ := evC_rel hsim (sees_of hs (by simp [Op.operands])) hx
  have hid := seesIds_of hs (x := m) (by simp [Op.operands]) (evC_evO hx) id (by simp [tvIds, Fl.cells, cellIds, Cell.id?])
  have hFS : FS (2 * id + 1) = some (.set u xs) := by rw [hid]; exact hl
  obtain ⟨g, es, clock, h3, hge, h4, h5⟩ := hsim.obj id (.set u xs) hFS
  have h6 := hkv _ _ _ _ (evC_rel hsim (sees_of hs (by simp [Op.operands])) hi)
  have hb := evB_rel hsim (sees_of hs (by simp [Op.operands])) hv
  have key' : ∃ es' clock', (execOp a.eval o).run P w = .ok .skip { w with heap := w.heap.setIfInBounds g (.map es' clock') } ∧ es'.toList.map (fun e => (e.key, e.val)) = (cond b xs (xs ++ [key])).map fun x => (keyV u x, Value.bool true) := by
    rcases set_find h5 hset.key key with ⟨h7, h8⟩ | ⟨h7, j, e, h8, h9, h10, h11⟩
    · have hb' : b = false := by
        cases hb : b with
        | false => rfl
        | true =>
          obtain ⟨y, hy, h⟩ := hset.has.1 hb
          exact absurd h (h7 y hy)
      subst hb'
      refine ⟨es.push { key := keyV u key, val := .bool true, born := clock }, clock + 1, ?_, ?_⟩
      · unfold execOp
        rw [ho]
        simp only [h6, h1, h3, hb, Instr.mapUpdate, Sem.run_bind, run_underlying (map_desc hT hk), Result.andThen_ok, MapKept.run_getObj_map h4, Sem.run_pure, MapKept.run_checkKey hd (hset.key key), MapKept.run_findKey hd h8, MapKept.run_setObj_map _ h4]
      · simp [h5]
    · have hb' : b = true := hset.has.2 h7
      subst hb'
      refine ⟨es.modify j (fun e => { e with key := keyV u key, val := .bool true }), clock, ?_, ?_⟩
      · unfold execOp
        rw [ho]
        simp only [h6, h1, h3, hb, Instr.mapUpdate, Sem.run_bind, run_underlying (map_desc hT hk), Result.andThen_ok, MapKept.run_getObj_map h4, Sem.run_pure, MapKept.run_checkKey hd (hset.key key), MapKept.run_findKey hd h8, h9, Option.map_some, Option.getD_some, h10,
          Instr.keyThatStays, hset.same, if_true, MapKept.run_setObj_map _ h4]
      · rw [cond_true, ← h5]
        apply List.ext_getElem?
        intro i
        simp only [List.getElem?_map, Array.getElem?_toList, Array.getElem?_modify]
        by_cases hij : j = i
        · subst hij
          rw [if_pos rfl, h9]
          simp [h10, h11]
        · rw [if_neg hij]
  obtain ⟨es', clock', hrun, hes⟩ := key'
  have hsim' := hsim.store (lv' := .set u (cond b xs (xs ++ [key]))) (w' := { w with heap := w.heap.setIfInBounds g (.map es' clock') }) hFS rfl (g := g) (by rw [h3]; rfl) rfl rfl rfl
    (by simp) (fun k hk => (MapKept.heap_set h4).2 k hk) (fun _ => ⟨g, es', clock', h3, hge, (MapKept.heap_set h4).1, hes⟩)
  exact step_of_skip hrun (hn _ _ μ hsim' ⟨[], rfl, rfl⟩)

theorem opK_sound {R : Type} (hTS : TypesOK P T) {G : Env} (hG : EnvOK P G) {k : Nat} {op : Op} {K : TV → St → Option R} {r : R} (h : opK T G k new st op K = some r) :
    ∃ tv eff, K tv eff = some r ∧ StepOK P op st new tv eff := by
  cases op with
  | move x =>
    obtain ⟨v, h1, h⟩ := bind_some h
    exact ⟨v, [], h, ok_move h1⟩
  | assign x =>
    obtain ⟨v, h1, h⟩ := bind_some h
    exact ⟨v, [], h, ok_assign h1⟩
  | pick c a b =>
    obtain ⟨t, h1, h⟩ := bind_some h
    cases t with
    | true =>
      obtain ⟨v, h2, h⟩ := bind_some h
      exact ⟨v, [], h, ok_pick h1 h2⟩
    | false =>
      obtain ⟨v, h2, h⟩ := bind_some h
      exact ⟨v, [], h, ok_pick h1 h2⟩
  | nilCheck x =>
    obtain ⟨c, h1, h⟩ := bind_some h
    split at h
    · exact ⟨_, [], h, ok_nilCheck h1 (.inl ⟨_, _, rfl⟩)⟩
    · exact ⟨_, [], h, ok_nilCheck h1 (.inr ⟨_, _, rfl⟩)⟩
    · cases h
  | box t x =>
    obtain ⟨v, h1, h⟩ := bind_some h
    obtain ⟨n, h2, h⟩ := bind_some h
    obtain ⟨h3, h⟩ := chk_some h
    exact ⟨_, _, h, by rw [h2]; exact ok_box h1 h3⟩
  | alloc t =>
    obtain ⟨ti, h1, h⟩ := bind_some h
    obtain ⟨n, h2, h⟩ := bind_some h
    obtain ⟨h3, h⟩ := chk_some h
    split at h
    · split at h
      · rename_i hz
        exact ⟨_, _, h, by rw [h2]; exact ok_alloc_bld (hTS _ _ h1) hz h3⟩
      · cases h
    · exact ⟨_, _, h, by rw [h2]; exact ok_alloc (hTS _ _ h1) h3⟩
  | load t p =>
    obtain ⟨ti, h1, h⟩ := bind_some h
    obtain ⟨c, h2, h⟩ := bind_some h
    split at h
    · split at h
      · rename_i cs hl
        obtain ⟨x, h3, h⟩ := bind_some h
        exact ⟨_, [], h, ok_load_ptr (hTS _ _ h1) h2 hl h3⟩
      · cases h
    · obtain ⟨y, h3, h⟩ := bind_some h
      exact ⟨_, [], h, ok_load_ref (hTS _ _ h1) h2 h3⟩
    · split at h
      · rename_i e u xs hl
        obtain ⟨h3, h⟩ := chk_some h
        obtain ⟨h4, h⟩ := chk_some h
        obtain ⟨x, h5, h⟩ := bind_some h
        exact ⟨_, [], h, ok_load_own (hTS _ _ h1) h2 hl (of_decide_eq_true h3) (nbeq h4) h5⟩
      · cases h
    · cases h
  | store t p x =>
    obtain ⟨ti, h1, h⟩ := bind_some h
    obtain ⟨v, h2, h⟩ := bind_some h
    obtain ⟨c, h3, h⟩ := bind_some h
    split at h
    · split at h
      · rename_i cs hl
        obtain ⟨h4, h⟩ := chk_some h
        obtain ⟨h5, h6⟩ := band h4
        exact ⟨_, _, h, ok_store_ptr (hTS _ _ h1) h2 h3 hl (nbeq h5) (nle h6)⟩
      · cases h
    · split at h
      · rename_i s _ e u xs hl
        obtain ⟨h4, h⟩ := chk_some h
        obtain ⟨h5, h⟩ := chk_some h
        obtain ⟨h5, h6⟩ := band h5
        obtain ⟨h5, h7⟩ := band h5
        obtain ⟨h5, h8⟩ := band h5
        obtain ⟨y, h9, h⟩ := bind_some h
        exact ⟨_, _, h, ok_store_own (hTS _ _ h1) h2 (by rw [h3, nbeq h8]) hl (of_decide_eq_true h4) (nbeq h5) (nbeq h6) h9⟩
      · cases h
    · cases h
  | binOp op t x y t' =>
    obtain ⟨p, h1, h⟩ := bind_some h
    obtain ⟨q, h2, h⟩ := bind_some h
    obtain ⟨c, h3, h4⟩ := ok_binOp hTS h1 h2 h
    exact ⟨_, [], h3, h4⟩
  | unOp op t x =>
    cases op with
    | not =>
      obtain ⟨b, h1, h⟩ := bind_some h
      exact ⟨_, [], h, ok_not h1⟩
    | _ => cases h
  | convert s d x =>
    obtain ⟨c, h1, h⟩ := bind_some h
    obtain ⟨c, h2, h3⟩ := ok_convert hTS h1 h
    exact ⟨_, [], h2, h3⟩
  | fieldAddr s x f =>
    obtain ⟨si, h1, h⟩ := bind_some h
    split at h
    · rename_i fs hk
      obtain ⟨fd, h2, h⟩ := bind_some h
      obtain ⟨ti, h3, h⟩ := bind_some h
      obtain ⟨h4, h⟩ := chk_some h
      obtain ⟨c, h5, h⟩ := bind_some h
      have h4 := nnbeq h4
      split at h
      · exact ⟨_, [], h, ok_fieldAddr_ptr (hTS _ _ h1) hk h2 (hTS _ _ h3) h4 h5⟩
      · obtain ⟨r, h6, h⟩ := bind_some h
        obtain ⟨h7, h⟩ := chk_some h
        exact ⟨_, [], h, ok_fieldAddr_ref (hTS _ _ h1) hk h2 (hTS _ _ h3) h4 h5 h6 (nbeq h7)⟩
      · exact ⟨_, [], h, ok_fieldAddr_own (hTS _ _ h1) hk h2 (hTS _ _ h3) h4 h5⟩
      · cases h
    · cases h
  | field s x f =>
    obtain ⟨si, h1, h⟩ := bind_some h
    split at h
    · rename_i fs hk
      obtain ⟨fd, h2, h⟩ := bind_some h
      obtain ⟨ti, h3, h⟩ := bind_some h
      obtain ⟨v, h4, h⟩ := bind_some h
      split at h
      · obtain ⟨y, h5, h⟩ := bind_some h
        exact ⟨_, [], h, ok_field (hTS _ _ h1) hk h2 (hTS _ _ h3) h4 h5⟩
      · cases h
    · cases h
  | indexAddr t x ix =>
    obtain ⟨ti, h1, h⟩ := bind_some h
    obtain ⟨i, h2, h⟩ := bind_some h
    obtain ⟨c, h3, h⟩ := bind_some h
    split at h
    · rename_i e hk
      obtain ⟨te, h4, h⟩ := bind_some h
      split at h
      · obtain ⟨h5, h⟩ := chk_some h
        obtain ⟨h6, h⟩ := chk_some h
        obtain ⟨h7, h⟩ := chk_some h
        exact ⟨_, [], h, ok_indexAddr_ro (hTS _ _ h1) hk (hTS _ _ h4) h3 h2 (nbeq h5) (of_decide_eq_true h6) (of_decide_eq_true h7)⟩
      · split at h
        · rename_i e' u xs hl
          obtain ⟨h5, h⟩ := chk_some h
          obtain ⟨h6, h⟩ := chk_some h
          obtain ⟨h7, h⟩ := chk_some h
          exact ⟨_, [], h, ok_indexAddr_own (hTS _ _ h1) hk (hTS _ _ h4) h3 hl h2 (nbeq h5) (of_decide_eq_true h6) (of_decide_eq_true h7)⟩
        · cases h
      · cases h
    · rename_i n e hk
      obtain ⟨te, h4, h⟩ := bind_some h
      split at h
      · obtain ⟨h6, h⟩ := chk_some h
        obtain ⟨h7, h⟩ := chk_some h
        exact ⟨_, [], h, ok_indexAddr_arr (hTS _ _ h1) hk (hTS _ _ h4) h3 h2 (of_decide_eq_true h6) (of_decide_eq_true h7)⟩
      · cases h
    · cases h
  | index t x ix =>
    obtain ⟨ti, h1, h⟩ := bind_some h
    obtain ⟨i, h2, h⟩ := bind_some h
    obtain ⟨v, h3, h⟩ := bind_some h
    split at h
    · rename_i l hk hty
      obtain ⟨h6, h⟩ := chk_some h
      obtain ⟨h7, h⟩ := chk_some h
      exact ⟨_, [], h, ok_index_str (hTS _ _ h1) hk hty h3 h2 (of_decide_eq_true h6) (of_decide_eq_true h7)⟩
    · rename_i n e cs hk
      obtain ⟨te, h4, h⟩ := bind_some h
      obtain ⟨h6, h⟩ := chk_some h
      obtain ⟨h7, h⟩ := chk_some h
      obtain ⟨y, h8, h⟩ := bind_some h
      exact ⟨_, [], h, ok_index_arr (hTS _ _ h1) hk (hTS _ _ h4) h3 h2 (of_decide_eq_true h6) (of_decide_eq_true h7) h8⟩
    · cases h
  | slice t x lo hi mx =>
    cases mx with
    | some _ => cases h
    | none =>
      obtain ⟨ti, h1, h⟩ := bind_some h
      obtain ⟨c, h2, h⟩ := bind_some h
      split at h
      · rename_i l hk hty
        obtain ⟨p, h3, h⟩ := bind_some h
        obtain ⟨q, h4, h⟩ := bind_some h
        obtain ⟨h5, h⟩ := chk_some h
        obtain ⟨h6, h⟩ := chk_some h
        obtain ⟨h7, h⟩ := chk_some h
        exact ⟨_, [], h, ok_slice_str (hTS _ _ h1) hk hty h2 h3 h4 (of_decide_eq_true h5) (of_decide_eq_true h6) (of_decide_eq_true h7)⟩
      · rename_i e u xs hk
        obtain ⟨te, h8, h⟩ := bind_some h
        obtain ⟨p, h3, h⟩ := bind_some h
        obtain ⟨q, h4, h⟩ := bind_some h
        obtain ⟨h9, h⟩ := chk_some h
        obtain ⟨h5, h⟩ := chk_some h
        obtain ⟨h6, h⟩ := chk_some h
        obtain ⟨h7, h⟩ := chk_some h
        exact ⟨_, [], h, ok_slice_ro (hTS _ _ h1) hk (hTS _ _ h8) h2 h3 h4 (nbeq h9) (of_decide_eq_true h5) (of_decide_eq_true h6) (of_decide_eq_true h7)⟩
      · rename_i e id hk
        split at h
        · rename_i e' u xs hl
          obtain ⟨te, h8, h⟩ := bind_some h
          obtain ⟨p, h3, h⟩ := bind_some h
          split at h
          · obtain ⟨h9, h⟩ := chk_some h
            obtain ⟨h5, h⟩ := chk_some h
            obtain ⟨h6, h⟩ := chk_some h
            exact ⟨_, [], h, ok_slice_osl (hTS _ _ h1) hk (hTS _ _ h8) h2 hl h3 (nbeq h9) (of_decide_eq_true h5) (of_decide_eq_true h6)⟩
          obtain ⟨q, h4, h⟩ := bind_some h
          obtain ⟨h9, h⟩ := chk_some h
          obtain ⟨h5, h⟩ := chk_some h
          obtain ⟨h6, h⟩ := chk_some h
          obtain ⟨h7, h⟩ := chk_some h
          exact ⟨_, _, h, ok_slice_own (hTS _ _ h1) hk (hTS _ _ h8) h2 hl h3 h4 (nbeq h9) (of_decide_eq_true h5) (of_decide_eq_true h6) (of_decide_eq_true h7)⟩
        · cases h
      · rename_i n e _ id off hk
        obtain ⟨te, h8, h⟩ := bind_some h
        split at h
        · obtain ⟨h9, h⟩ := chk_some h
          exact ⟨_, [], h, ok_slice_arr (hTS _ _ h1) hk (hTS _ _ h8) h2⟩
        · cases h
      · cases h
  | makeSlice t l c =>
    obtain ⟨ti, h1, h⟩ := bind_some h
    split at h
    · rename_i e hk
      obtain ⟨te, h2, h⟩ := bind_some h
      obtain ⟨n, h3, h⟩ := bind_some h
      obtain ⟨m, h4, h⟩ := bind_some h
      obtain ⟨q, h5, h⟩ := bind_some h
      obtain ⟨h6, h⟩ := chk_some h
      obtain ⟨h7, h⟩ := chk_some h
      obtain ⟨h8, h⟩ := chk_some h
      obtain ⟨h9, h⟩ := chk_some h
      obtain ⟨h10, h⟩ := chk_some h
      exact ⟨_, _, h, by rw [h5]; exact ok_make (hTS _ _ h1) hk (hTS _ _ h2) h3 h4 h6 (of_decide_eq_true h7) (of_decide_eq_true h8) (of_decide_eq_true h9) (of_decide_eq_true h10)⟩
    · cases h
  | buildSlice t len parts =>
    obtain ⟨ti, h1, h⟩ := bind_some h
    split at h
    · rename_i e hk
      obtain ⟨te, h2, h⟩ := bind_some h
      obtain ⟨h3, h⟩ := chk_some h
      obtain ⟨xs, h4, h⟩ := bind_some h
      obtain ⟨l, h5, h⟩ := bind_some h
      obtain ⟨n, h6, h⟩ := bind_some h
      obtain ⟨h7, h⟩ := chk_some h
      obtain ⟨h3, h9⟩ := band h3
      obtain ⟨h3, h10⟩ := band h3
      exact ⟨_, _, h, by rw [h6]; exact ok_buildSlice (hTS _ _ h1) hk (hTS _ _ h2) h3 (nbeq h10) (nle h9) h4 h5 h7⟩
    · cases h
  | build t parts =>
    obtain ⟨ti, h1, h⟩ := bind_some h
    obtain ⟨xs, h2, h⟩ := bind_some h
    split at h
    · rename_i fs hk
      obtain ⟨ps, h3, h⟩ := bind_some h
      obtain ⟨l, h4, h⟩ := bind_some h
      obtain ⟨cs, h5, h⟩ := bind_some h
      exact ⟨_, [], h, ok_build_struct hTS (hTS _ _ h1) hk h2 h3 h4 h5⟩
    · rename_i m e hk
      obtain ⟨te, h3, h⟩ := bind_some h
      obtain ⟨l, h4, h⟩ := bind_some h
      obtain ⟨cs, h5, h⟩ := bind_some h
      exact ⟨_, [], h, ok_build_array hTS (hTS _ _ h1) hk (hTS _ _ h3) h2 h4 h5⟩
    · cases h
  | makeMap t r =>
    cases r with
    | some _ => cases h
    | none =>
      obtain ⟨ti, h1, h⟩ := bind_some h
      split at h
      · rename_i kt et hk
        obtain ⟨tk, h2, h⟩ := bind_some h
        obtain ⟨te, h3, h⟩ := bind_some h
        split at h
        · obtain ⟨n, h4, h⟩ := bind_some h
          obtain ⟨h5, h⟩ := chk_some h
          exact ⟨_, _, h, by rw [h4]; exact ok_makeMap _ h5⟩
        · cases h
      · cases h
  | lookup t x ix ok =>
    cases ok with
    | true => cases h
    | false =>
      obtain ⟨ti, h1, h⟩ := bind_some h
      split at h
      · rename_i kt et hk
        obtain ⟨tk, h2, h⟩ := bind_some h
        obtain ⟨te, h3, h⟩ := bind_some h
        split at h
        · rename_i hk1 hk2 hty
          obtain ⟨c, h4, h⟩ := bind_some h
          obtain ⟨kc, h5, h⟩ := bind_some h
          split at h
          · split at h
            · rename_i u xs hl
              split at h
              · rename_i q a xs b n hq
                obtain ⟨h6, h⟩ := chk_some h
                obtain ⟨h6, h6'⟩ := band h6
                have h6 := of_decide_eq_true h6
                have h6' := of_decide_eq_true h6'
                subst h6
                subst h6'
                exact ⟨_, [], h, ok_lookup (hTS _ _ h1) hk (hTS _ _ h3) hk2 hty h4 hl h5 (fun μ S w v hv => (List.cons.inj (show [v] = [Value.int _ n] from hv)).1) ((one_desc (hTS _ _ h2) hk1).1 _ hq) (setOf_int xs n)⟩
              · rename_i xs l hq
                exact ⟨_, [], h, ok_lookup (hTS _ _ h1) hk (hTS _ _ h3) hk2 hty h4 hl h5 (fun μ S w v hv => (List.cons.inj (show [v] = [Value.string ⟨l.toArray⟩] from hv)).1) ((one_desc (hTS _ _ h2) hk1).2.2 hq) (setOf_str xs l)⟩
              · cases h
            · cases h
          · cases h
        · cases h
      · cases h
  | mapUpdate t m kx vx =>
    obtain ⟨ti, h1, h⟩ := bind_some h
    split at h
    · rename_i kt et hk
      obtain ⟨tk, h2, h⟩ := bind_some h
      obtain ⟨te, h3, h⟩ := bind_some h
      split at h
      · rename_i hk1 hk2 hty
        obtain ⟨c, h4, h⟩ := bind_some h
        obtain ⟨kc, h5, h⟩ := bind_some h
        obtain ⟨vb, h7, h⟩ := bind_some h
        split at h
        · split at h
          · rename_i u xs hl
            obtain ⟨h8, h9⟩ := chk_some h
            clear h
            subst h8
            split at h9
            · rename_i q a xs b n hq
              obtain ⟨h6, h⟩ := chk_some h9
              obtain ⟨h6, h6'⟩ := band h6
              have h6 := of_decide_eq_true h6
              have h6' := of_decide_eq_true h6'
              subst h6
              subst h6'
              exact ⟨_, _, h, ok_mapUpdate (hTS _ _ h1) hk h4 hl h5 h7 (fun μ S w v hv => (List.cons.inj (show [v] = [Value.int _ n] from hv)).1) ((one_desc (hTS _ _ h2) hk1).1 _ hq) (setOf_int xs n)⟩
            · rename_i xs l hq
              exact ⟨_, _, h9, ok_mapUpdate (hTS _ _ h1) hk h4 hl h5 h7 (fun μ S w v hv => (List.cons.inj (show [v] = [Value.string ⟨l.toArray⟩] from hv)).1) ((one_desc (hTS _ _ h2) hk1).2.2 hq) (setOf_str xs l)⟩
            · cases h9
          · cases h
        · cases h
      · cases h
    · cases h
  | range t x =>
    obtain ⟨ti, h1, h⟩ := bind_some h
    obtain ⟨c, h2, h⟩ := bind_some h
    split at h
    · rename_i l hk hty
      obtain ⟨n, h3, h⟩ := bind_some h
      obtain ⟨h4, h⟩ := chk_some h
      exact ⟨_, _, h, by rw [h3]; exact ok_range (hTS _ _ h1) hk hty h2 h4⟩
    · cases h
  | next x b =>
    cases b with
    | false => cases h
    | true =>
      obtain ⟨c, h1, h⟩ := bind_some h
      split at h
      · split at h
        · rename_i l pos hl
          by_cases hp : pos < l.length
          · rw [decide_eq_true hp] at h
            exact ⟨_, _, h, ok_next_more h1 hl hp⟩
          · rw [decide_eq_false hp] at h
            exact ⟨_, _, h, ok_next_over h1 hl hp⟩
        · cases h
      · cases h
  | makeFunc f fst cap =>
    cases f with
    | func f =>
      simp only [opK] at h
      split at h
      · rename_i x hf hcap
        obtain ⟨c, h1, h⟩ := bind_some h
        obtain ⟨E, h2, h⟩ := bind_some h
        split at h
        · exact ⟨_, [], h, ok_makeFunc hf hcap _ h1⟩
        · cases h
      · cases h
    | _ => cases h
  | extract x j =>
    obtain ⟨v, h1, h⟩ := bind_some h
    split at h
    · obtain ⟨y, h2, h⟩ := bind_some h
      exact ⟨_, [], h, ok_extract h1 h2⟩
    · cases h
  | call c =>
    simp only [opK] at h
    split at h
    · rename_i f hc
      obtain ⟨E, h1, h⟩ := bind_some h
      obtain ⟨h5, h⟩ := chk_some h
      obtain ⟨xs, h2, h⟩ := bind_some h
      obtain ⟨x, h3, h⟩ := bind_some h
      obtain ⟨y, h4, h⟩ := bind_some h
      exact ⟨_, _, h, ok_call hG hc h1 h5 h2 h3 h4⟩
    · rename_i s hc
      obtain ⟨cl, h0, h⟩ := bind_some h
      split at h
      · obtain ⟨E, h1, h⟩ := bind_some h
        obtain ⟨h5, h⟩ := chk_some h
        obtain ⟨xs, h2, h⟩ := bind_some h
        obtain ⟨x, h3, h⟩ := bind_some h
        obtain ⟨y, h4, h⟩ := bind_some h
        exact ⟨_, _, h, ok_call_fn hG hc h0 h1 h5 h2 h3 h4⟩
      · cases h
    · rename_i hc
      split at h
      · rename_i x y t rest ha hat
        obtain ⟨ti, h1, h⟩ := bind_some h
        split at h
        · rename_i e hk
          obtain ⟨te, h2, h⟩ := bind_some h
          obtain ⟨a, h3, h⟩ := bind_some h
          obtain ⟨b, h4, h⟩ := bind_some h
          split at h
          · rename_i u ys hsrc
            split at h
            · split at h
              · rename_i e' u' xs hl
                split at h
                · rename_i hu
                  subst hu
                  obtain ⟨h5, h⟩ := chk_some h
                  exact ⟨_, _, h, ok_copy_own (hTS _ _ h1) hk (hTS _ _ h2) hc ha hat h3 hl h4 hsrc (nbeq h5)⟩
                · cases h
              · cases h
            · split at h
              · rename_i e' u' xs hl
                split at h
                · rename_i hu
                  subst hu
                  obtain ⟨h5, h⟩ := chk_some h
                  obtain ⟨h6, h⟩ := chk_some h
                  obtain ⟨h5, h7⟩ := band h5
                  exact ⟨_, _, h, ok_copy_osl (hTS _ _ h1) hk (hTS _ _ h2) hc ha hat (by rw [h3, nbeq h7]) hl h4 hsrc (nbeq h5) (of_decide_eq_true h6)⟩
                · cases h
              · cases h
            · split at h
              · rename_i cs hl
                split at h
                · rename_i ys
                  obtain ⟨h5, h⟩ := chk_some h
                  obtain ⟨xs, h6, h⟩ := bind_some h
                  obtain ⟨h5, h7⟩ := band h5
                  obtain ⟨h5, h8⟩ := band h5
                  exact ⟨_, _, h, ok_copy_asl (hTS _ _ h1) hk (hTS _ _ h2) hc ha hat (by rw [h3, nbeq h8]) hl (nbeq h7) h6 h4 hsrc (nbeq h5)⟩
                · cases h
              · cases h
            · cases h
          · cases h
        · cases h
      · cases h
    · rename_i hc
      split at h
      · rename_i x t ha hat
        obtain ⟨ti, h1, h⟩ := bind_some h
        obtain ⟨y, h2, h⟩ := bind_some h
        split at h
        · rename_i l hk hty
          exact ⟨_, [], h, ok_len_str (hTS _ _ h1) hk hty hc ha hat h2⟩
        · rename_i e hk
          exact ⟨_, [], h, ok_len_nil (hTS _ _ h1) hk hc ha hat h2⟩
        · rename_i e _ hk _
          obtain ⟨q, h3, h⟩ := bind_some h
          exact ⟨_, [], h, ok_len_row (hTS _ _ h1) hk hc ha hat h2 h3⟩
        · cases h
      · cases h
    · rename_i hc
      split at h
      · rename_i x y t t' ha hat
        obtain ⟨h1, h⟩ := chk_some h
        have hat : c.argTypes.toList = [t, t] := by rw [hat, nbeq h1]
        obtain ⟨ti, h2, h⟩ := bind_some h
        split at h
        · rename_i e hk
          obtain ⟨te, h3, h⟩ := bind_some h
          obtain ⟨a, h4, h⟩ := bind_some h
          obtain ⟨b, h5, h⟩ := bind_some h
          obtain ⟨n, h6, h⟩ := bind_some h
          obtain ⟨h7, h⟩ := chk_some h
          split at h
          · rename_i u ys hrow
            split at h
            · rename_i hu
              subst hu
              split at h
              · obtain ⟨h8, h⟩ := chk_some h
                obtain ⟨h9, h⟩ := chk_some h
                exact ⟨_, _, h, by rw [h6]; exact ok_append_nil (hTS _ _ h2) hk (hTS _ _ h3) hc ha hat h4 h5 hrow h7 (of_decide_eq_true h9) (of_decide_eq_true h8)⟩
              · split at h
                · rename_i e' u' xs hl
                  split at h
                  · rename_i hu'
                    subst hu'
                    obtain ⟨h8, h⟩ := chk_some h
                    obtain ⟨h9, h⟩ := chk_some h
                    obtain ⟨h10, h⟩ := chk_some h
                    exact ⟨_, _, h, by rw [h6]; exact ok_append_own (hTS _ _ h2) hk (hTS _ _ h3) hc ha hat h4 (by rw [hl, nbeq h8]) h5 hrow h7 (of_decide_eq_true h10) (of_decide_eq_true h9)⟩
                  · cases h
                · cases h
              · cases h
            · cases h
          · cases h
        · cases h
      · cases h
    · rename_i hc
      split at h
      · rename_i x y ha
        obtain ⟨a, h1, h⟩ := bind_some h
        obtain ⟨b, h2, h⟩ := bind_some h
        split at h
        · obtain ⟨h3, h⟩ := chk_some h
          have h3 := of_decide_eq_true h3
          subst h3
          exact ⟨_, [], h, ok_min hc ha h1 h2⟩
        · cases h
      · cases h
    · rename_i hc
      split at h
      · rename_i x y ha
        obtain ⟨a, h1, h⟩ := bind_some h
        obtain ⟨b, h2, h⟩ := bind_some h
        split at h
        · obtain ⟨h3, h⟩ := chk_some h
          have h3 := of_decide_eq_true h3
          subst h3
          exact ⟨_, [], h, ok_max hc ha h1 h2⟩
        · cases h
      · cases h
    · cases h
  | _ => cases h

end Go.Ab
