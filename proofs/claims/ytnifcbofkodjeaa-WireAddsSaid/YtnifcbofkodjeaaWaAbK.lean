/- Rows and structs built. -/
import Derived.Test.YtnifcbofkodjeaaWaAbJ
set_option linter.unusedVariables false
set_option linter.unusedSimpArgs false
namespace Go.Ab
open Go.RowKit

variable {P : Program} {T : Nat → Option TI} {st : St} {new : Option Nat}

theorem made_at {z : Array Value} (hz : 0 < z.size) (m : Nat) : ∀ j, j < m → (madeCells z m)[j]? = z[j % z.size]? := by
  intro j hj
  unfold madeCells
  rw [Array.getElem?_map, Array.getElem?_eq_getElem (by simpa using hj)]
  have := Nat.mod_lt j hz
  simp only [Array.getElem_range, Option.map_some]
  rw [Array.getElem?_eq_getElem this, getElem!_pos z _ this]

theorem made_parts {S : Nat → Prop} {w : World} {t : Ty} {z : Array Value} {d : t.den} (hd : Rd S w t d z.toList) (m : Nat) (n : Nat) (hn : n ≤ m) : Parts S w t (List.replicate n d) ((madeCells z (m * t.sz)).toList.take (n * t.sz)) := by
  have hz : z.size = t.sz := by
    have := Rd_len hd
    rwa [Array.length_toList] at this
  have hpos : 0 < z.size := by rw [hz]; exact Ty.sz_pos _
  have key : ∀ (n : Nat) (l : List Value), l.length = n * t.sz → (∀ j, j < l.length → l[j]? = z[j % z.size]?) → Parts S w t (List.replicate n d) l := by
    intro n
    induction n with
    | zero => intro l hl _; exact List.eq_nil_of_length_eq_zero (by rw [hl, Nat.zero_mul])
    | succ n ih =>
      intro l hl hu
      have hl' : l.length = t.sz + n * t.sz := by rw [hl, Nat.add_mul]; omega
      refine ⟨z.toList, l.drop t.sz, ?_, hd, ih _ (by rw [List.length_drop]; omega) (fun j hj => ?_)⟩
      · conv => lhs; rw [← List.take_append_drop t.sz l]
        congr 1
        apply List.ext_getElem?
        intro j
        rw [List.getElem?_take, show z.toList[j]? = z[j]? from Array.getElem?_toList ..]
        by_cases h : j < t.sz
        · rw [if_pos h, hu j (by omega), Nat.mod_eq_of_lt (by omega)]
        · rw [if_neg h, Array.getElem?_eq_none (by omega)]
      · rw [List.length_drop] at hj
        rw [List.getElem?_drop, hu _ (by omega), hz, Nat.add_mod_left]
  have hle : n * t.sz ≤ m * t.sz := Nat.mul_le_mul_right _ hn
  refine key n _ (by rw [List.length_take, Array.length_toList, size_madeCells]; omega) (fun j hj => ?_)
  rw [List.length_take, Array.length_toList, size_madeCells] at hj
  rw [List.getElem?_take, if_pos (by omega), Array.getElem?_toList]
  exact made_at hpos _ j (by omega)

theorem ok_make {t e : TypeId} {ti te : TI} (hT : TOK P t ti) (hk : ti.k = .slice e) (hE : TOK P e te) {l c : Operand} {n m : Int} (hl : evI st l = some n) (hc : evI st c = some m) {q : Nat} (hf : fresh st q = true)
    (h0 : 0 ≤ n) (hnm : n ≤ m) (hb : m * te.bytes ≤ 281474976710656) (h63 : m ≤ 9223372036854775807) :
    StepOK P (.makeSlice t l c) st (some q) (.f (.c (.own q))) [(2 * q + 1, .row e te.ty (List.replicate n.toNat te.ty.dflt))] := by
  intro S0 w0 nt μ FS a w o ho hs hfr hsim next Q hn
  have hfs := hfr q rfl hf (by simp)
  obtain ⟨kl, hl⟩ := evI_rel hsim (sees_of hs (by simp [Op.operands])) hl
  obtain ⟨kc, hc⟩ := evI_rel hsim (sees_of hs (by simp [Op.operands])) hc
  obtain ⟨i, z, hi, hsz, hby, hz, hz1, hz2⟩ := hE.info
  have hr := run_make (P := P) w t e i z (slice_desc hT hk) hi hz kl kc n m h0 hnm (by rw [hby, Int.mul_comm]; exact hb) h63
  have hrun : (execOp a.eval o).run P w = .ok (.value (.slice (some ⟨w.heap.size, 0, none⟩) n.toNat m.toNat)) (w.alloc (.cells (madeCells z.cells (m.toNat * i.size)) e)) := by
    unfold execOp
    rw [ho]
    simp only [hl, hc, Sem.run_bind, hr, Result.andThen_ok, Sem.run_pure]
  have hbel : Below w.heap.size w (w.alloc (.cells (madeCells z.cells (m.toNat * i.size)) e)) := (Below.refl _ w).alloc (Nat.le_refl _) _
  have hzs : z.cells.size = te.sz := by
    have := Rd_len (hz2 (fun _ => False) w)
    rw [Array.length_toList] at this
    rw [this, hE.size]
  have hn' : ∀ v, upd μ q v q = v := fun v => by unfold upd; rw [if_pos rfl]
  have hsim' := hsim.made hfs (lv := .row e te.ty (List.replicate n.toNat te.ty.dflt)) (v := .slice (some ⟨w.heap.size, 0, none⟩) n.toNat m.toNat) new_even (new_old (n := q)) new_self hbel (fun k hk => by simp [blk] at hk; omega)
    ⟨(madeCells z.cells (m.toNat * i.size)).toList.take (n.toNat * te.sz), by
      rw [hn', List.length_replicate, ← hE.size]
      refine ⟨?_, .inr ⟨w.heap.size, m.toNat, _, rfl, hsim.below.size, heap_alloc_new w _, by omega, by simp [maxLen]; omega, by rw [size_madeCells, hsz], rfl⟩⟩
      rw [List.length_take, Array.length_toList, size_madeCells, hsz]
      exact Nat.min_eq_left (Nat.mul_le_mul_right _ (by omega)), by
      rw [hsz, hE.size]
      exact made_parts (hz2 _ _) _ _ (by omega), by rw [List.length_replicate]; omega⟩
  exact step_of_run hrun (hn _ _ _ hsim' ⟨(hn' _).symm, _, _, _, rfl⟩)

/-! ### A literal row -/
theorem ofFlList_rd {S0 : Nat → Prop} {w0 : World} {nt : Nat} {μ : Nat → Value} {FS : Nat → Option Lv} {a : Act} {w : World} (h : Sim S0 w0 nt μ FS a w) {S' : Nat → Prop} (hS : ∀ k, S' k → live S0 μ FS k) {t : Ty} :
    ∀ {xs : List Fl} {vs : List Value} {l : List t.den}, SeesIds st FS (xs.flatMap fun x => cellIds x.cells) → Away μ S' (xs.flatMap fun x => cellIds x.cells) → FlsRel μ (live S0 μ FS) w xs vs → ofFlList st t xs = some l →
      Parts S' w t l (vs.flatMap fun v => v.cells.toList) ∧ (∀ v ∈ vs, v.cells.size = t.sz) ∧ vs.length = l.length
  | [], vs, _, _, _, hr, he => by
    injection he with he
    subst he
    have hr : vs = [] := hr
    subst hr
    exact ⟨rfl, ⟨fun v hv => (List.not_mem_nil hv).elim, rfl⟩⟩
  | x :: xs, _, _, hs, hw, ⟨v, r, hv, h1, h2⟩, he => by
    subst hv
    simp only [ofFlList] at he
    obtain ⟨p, hp, he⟩ := bind_some he
    obtain ⟨q, hq, he⟩ := bind_some he
    injection he with he
    subst he
    rw [List.flatMap_cons] at hs hw
    have e1 := (ofFl_rd h hS (fun i hi => hs i (List.mem_append_left _ hi)) (fun i hi => hw i (List.mem_append_left _ hi)) h1 hp).1
    obtain ⟨e2, e3, e4⟩ := ofFlList_rd h hS (fun i hi => hs i (List.mem_append_right _ hi)) (fun i hi => hw i (List.mem_append_right _ hi)) h2 hq
    refine ⟨⟨v.cells.toList, _, by rw [List.flatMap_cons], e1, e2⟩, fun u hu => ?_, by rw [List.length_cons, List.length_cons, e4]⟩
    cases hu with
    | head => rw [← Array.length_toList]; exact Rd_len e1
    | tail _ hu => exact e3 u hu

theorem ofFlList_ids {t : Ty} : ∀ {xs : List Fl} {l : List t.den}, ofFlList st t xs = some l → ∀ i ∈ xs.flatMap (fun x => cellIds x.cells), (∃ x ∈ xs, ∃ c ∈ x.cells, Gv i c) ∧ ∃ e t xs, look st (2 * i + 1) = some (.row e t xs)
  | [], _, _, i, hi => by cases hi
  | x :: xs, _, he, i, hi => by
    simp only [ofFlList] at he
    obtain ⟨p, hp, he⟩ := bind_some he
    obtain ⟨q, hq, he⟩ := bind_some he
    rw [List.flatMap_cons] at hi
    rcases List.mem_append.1 hi with hi | hi
    · obtain ⟨h1, h2⟩ := ofFl_ids hp i hi
      exact ⟨⟨x, List.mem_cons_self, h1⟩, h2⟩
    · obtain ⟨⟨z, h1, h2⟩, h3⟩ := ofFlList_ids hq i hi
      exact ⟨⟨z, List.mem_cons_of_mem _ h1, h2⟩, h3⟩

theorem inOrder_parts (f : Operand → Value) : ∀ {l : List (Nat × Operand)} {n : Nat}, inOrder n l = true → l.map (fun x => (x.1, f x.2)) = ((l.map fun x => f x.2).zipIdx n).map fun x => (x.2, x.1)
  | [], _, _ => rfl
  | p :: l, n, h => by
    simp only [inOrder, Bool.and_eq_true] at h
    have : p.1 = n := Nat.eq_of_beq_eq_true h.1
    rw [List.map_cons, List.map_cons, List.zipIdx_cons, List.map_cons, ← inOrder_parts f h.2, this]

/-- What a set of own rows given up leaves, a new one made. -/
theorem ok_buildSlice {t e : TypeId} {ti te : TI} (hT : TOK P t ti) (hk : ti.k = .slice e) (hE : TOK P e te) {len : Nat} {parts : Array (Nat × Operand)} (hord : inOrder 0 parts.toList = true) (hlen : parts.toList.length = len) (hsm : len * te.sz ≤ 16777216)
    {xs : List Fl} (hxs : evFs st (parts.toList.map (·.2)) = some xs) {l : List te.ty.den} (hl : ofFlList st te.ty xs = some l) {n : Nat} (hf : fresh st n = true) :
    StepOK P (.buildSlice t len parts) st (some n) (.f (.c (.own n))) ((2 * n + 1, .row e te.ty l) :: xs.flatMap gives) := by
  intro S0 w0 nt μ FS a w o ho hs hfr hsim next Q hn
  have hfs := hfr n rfl hf (by simp)
  have hmem : ∀ y ∈ parts.toList.map (·.2), y ∈ (Op.buildSlice t len parts).operands.toList := by
    intro y hy
    simpa [Op.operands] using hy
  have hrel := evFs_rel hsim (fun y hy => sees_of hs (hmem y hy)) hxs
  have hids := evFs_ids hs hmem hxs
  have hown := ofFlList_ids hl
  have hlv : ∀ k, live S0 μ (over (xs.flatMap gives) FS) k → live S0 μ FS k := by
    rintro k (hk | ⟨id, lv, h1, h2, h3⟩)
    · exact .inl hk
    · refine .inr ⟨id, lv, ?_, h2, h3⟩
      unfold over at h1
      cases hl : look (xs.flatMap gives) (2 * id + 1) with
      | none => rw [hl] at h1; exact h1
      | some v =>
        rw [hl, (gives_look hl).1] at h1
        injection h1 with h1
        subst h1
        cases h2
  have haway : Away μ (live S0 μ (over (xs.flatMap gives) FS)) (xs.flatMap fun x => cellIds x.cells) := by
    intro i hi k hk hl
    obtain ⟨⟨z, hz, c, hzc, hgv⟩, e, t, row, hrow⟩ := hown i hi
    have hFS : FS (2 * i + 1) = some (.row e t row) := (hids i hi).trans hrow
    have hge := ((hsim.obj i _ hFS).lt rfl hk).1
    rcases hl with hl | ⟨id, lv, h1, h2, h3⟩
    · have := hsim.low k hl
      omega
    · have hne : id ≠ i := by
        intro e
        subst e
        unfold over at h1
        rw [gives_given hz hgv hzc] at h1
        injection h1 with h1
        subst h1
        cases h2
      have h4 : FS (2 * id + 1) = some lv := by
        unfold over at h1
        cases hl : look (xs.flatMap gives) (2 * id + 1) with
        | none => rw [hl] at h1; exact h1
        | some v =>
          rw [hl, (gives_look hl).1] at h1
          injection h1 with h1
          subst h1
          cases h2
      exact hsim.inj id i lv _ k h4 hFS h2 rfl hne h3 hk
  obtain ⟨hp1, hp2, hp3⟩ := ofFlList_rd hsim hlv hids haway hrel hl
  obtain ⟨i, z, hi, hsz, hby, hz, hz1, hz2⟩ := hE.info
  have hspos : 0 < te.sz := by rw [hE.size]; exact Ty.sz_pos _
  have hvl : ((parts.toList.map (·.2)).map a.eval).length = len := by rw [List.length_map, List.length_map, hlen]
  have hfill : Instr.fill (fun j => some (j * i.size, i.size)) ((Array.range (len * i.size)).map (z.cells[· % z.cells.size]!)) (parts.map fun (j, x) => (j, a.eval x)).toList = some (((parts.toList.map (·.2)).map a.eval).flatMap fun v => v.cells.toList).toArray := by
    rw [Array.toList_map, show (fun x : Nat × Operand => match x with | (j, x) => (j, a.eval x)) = fun x => (x.1, a.eval x.2) from rfl, inOrder_parts a.eval hord, hsz]
    have := Great.fill_whole hspos ((parts.toList.map (·.2)).map a.eval) ((Array.range (len * te.sz)).map (z.cells[· % z.cells.size]!)) (fun v hv => by rw [hp2 v hv, hE.size]) (by rw [hvl]; simp)
    rw [List.map_map] at this ⊢
    exact this
  have hrun : (execOp a.eval o).run P w = .ok (.value (.slice (some ⟨w.heap.size, 0, none⟩) len len)) (w.alloc (.cells (((parts.toList.map (·.2)).map a.eval).flatMap fun v => v.cells.toList).toArray e)) := by
    rcases Nat.eq_zero_or_pos len with h0 | hpos
    · subst h0
      have hpn : parts = #[] := by
        apply Array.ext'
        exact List.eq_nil_of_length_eq_zero hlen
      subst hpn
      unfold execOp
      rw [ho]
      simp [Instr.buildSlice, run_underlying (slice_desc hT hk), sizeOf, typeInfo, hi, newRow, Instr.fill, Array.range_zero']
    have hne : ¬ len * i.size = 0 := by
      rw [hsz]
      have := Nat.mul_le_mul hpos hspos
      omega
    have := run_buildSlice (P := P) w t e len (parts.map fun (j, x) => (j, a.eval x)) _ i z (slice_desc hT hk) hi hz (by rw [hsz]; omega) hne hfill
    unfold execOp
    rw [ho]
    simp only [Sem.run_bind, this, Result.andThen_ok, Sem.run_pure]
  have hbel : Below w.heap.size w (w.alloc (.cells (((parts.toList.map (·.2)).map a.eval).flatMap fun v => v.cells.toList).toArray e)) := (Below.refl _ w).alloc (Nat.le_refl _) _
  have hn' : ∀ v, upd μ n v n = v := fun v => by unfold upd; rw [if_pos rfl]
  have look1 : ∀ j, over ((2 * n + 1, Lv.row e te.ty l) :: xs.flatMap gives) FS j = if j = 2 * n + 1 then some (.row e te.ty l) else over (xs.flatMap gives) FS j := fun j => by
    unfold over
    rw [look_cons]
    by_cases e1 : j = 2 * n + 1
    · rw [if_pos e1, if_pos e1]
    · rw [if_neg e1, if_neg e1]
  have hev : ∀ s, over ((2 * n + 1, Lv.row e te.ty l) :: xs.flatMap gives) FS (2 * s) = FS (2 * s) := fun s => by
    rw [look1, if_neg (by omega)]
    unfold over
    cases hl : look (xs.flatMap gives) (2 * s) with
    | none => rfl
    | some v =>
      obtain ⟨_, i, hi, _⟩ := gives_look hl
      omega
  have hod : ∀ id, id ≠ n → over ((2 * n + 1, Lv.row e te.ty l) :: xs.flatMap gives) FS (2 * id + 1) = FS (2 * id + 1) ∨ over ((2 * n + 1, Lv.row e te.ty l) :: xs.flatMap gives) FS (2 * id + 1) = some .gone := fun id hid => by
    rw [look1, if_neg (by omega)]
    unfold over
    cases hl : look (xs.flatMap gives) (2 * id + 1) with
    | none => exact .inl rfl
    | some v => exact .inr (by rw [(gives_look hl).1])
  have hlv2 : ∀ k, k < w.heap.size → live S0 (upd μ n (.slice (some ⟨w.heap.size, 0, none⟩) len len)) (over ((2 * n + 1, Lv.row e te.ty l) :: xs.flatMap gives) FS) k → live S0 μ (over (xs.flatMap gives) FS) k := by
    rintro k hk (hl | ⟨id, lv, h1, h2, h3⟩)
    · exact .inl hl
    · by_cases ei : id = n
      · subst ei
        rw [hn'] at h3
        simp [blk] at h3
        omega
      · rw [look1, if_neg (by omega)] at h1
        unfold upd at h3
        rw [if_neg ei] at h3
        exact .inr ⟨id, lv, h1, h2, h3⟩
  have hcl : (((parts.toList.map (·.2)).map a.eval).flatMap fun v => v.cells.toList).length = len * te.sz := by
    rw [Parts_len hp1, ← hp3, hvl, hE.size]
  have hsim' := hsim.made hfs (lv := .row e te.ty l) (v := .slice (some ⟨w.heap.size, 0, none⟩) len len) hev hod (by rw [look1, if_pos rfl]) hbel (fun k hk => by simp [blk] at hk; omega)
    ⟨((parts.toList.map (·.2)).map a.eval).flatMap fun v => v.cells.toList, by
      rw [hn', ← hp3, hvl, ← hE.size]
      refine ⟨hcl, .inr ⟨w.heap.size, len, _, rfl, hsim.below.size, heap_alloc_new w _, Nat.le_refl _, ?_, by rw [List.size_toArray, hcl], ?_⟩⟩
      · have : len ≤ len * te.sz := Nat.le_mul_of_pos_right _ hspos
        simp [maxLen]
        omega
      · exact List.take_of_length_le (Nat.le_of_eq hcl), Parts.move ⟨hbel.size, fun k hk _ => hbel.block k hk⟩ hlv2 hp1, by
      have : len ≤ len * te.sz := Nat.le_mul_of_pos_right _ hspos
      rw [← hp3, hvl]
      omega⟩
  exact step_of_run hrun (hn _ _ _ hsim' ⟨(hn' _).symm, _, _, _, rfl⟩)

/-! ### Copies -/
theorem srcB_elems {S0 : Nat → Prop} {w0 : World} {nt : Nat} {μ : Nat → Value} {FS : Nat → Option Lv} {a : Act} {w : World} (h : Sim S0 w0 nt μ FS a w) {c : Cell} {v : Value} (hs : SeesIds st FS (cellIds [c])) (hc : CellRel μ (live S0 μ FS) w c v) {t : Ty}
    {p : (t : Ty) × List t.den} (he : srcB st t c = some p) {n : Nat} (hn : n ≤ p.2.length) : (Builtin.lenOf v).run P w = .ok p.2.length w ∧ ∃ news, (Builtin.firstCells p.1.sz n v).run P w = .ok news.toArray w ∧ Parts (live S0 μ FS) w p.1 (p.2.take n) news := by
  unfold srcB at he
  split at he
  · rename_i l
    injection he with he
    subst he
    have hv : [v] = [.string ⟨l.toArray⟩] := hc
    have hv := (List.cons.inj hv).1
    subst hv
    refine ⟨by simp [Builtin.lenOf, ByteArray.size], ((l.take n).map fun b : UInt8 => Value.int .u8 b.toNat), ?_, ?_⟩
    · simp only [Builtin.firstCells, Sem.run_pure]
      congr 1
      apply Array.ext'
      simp [ByteArray.extract, ByteArray.copySlice]
    · rw [← List.map_take]
      generalize l.take n = m
      induction m with
      | nil => exact rfl
      | cons b m ih => exact ⟨[.int .u8 b.toNat], _, rfl, rfl, ih⟩
  · obtain ⟨A, cp, h1, h2⟩ := src_elems h hs hc he
    subst h1
    refine ⟨by simp [Builtin.lenOf], ?_⟩
    cases A with
    | none =>
      have h0 : p.2.length = 0 := by
        rcases Nat.eq_zero_or_pos p.2.length with h0 | h0
        · exact h0
        · obtain ⟨ad, h3, _⟩ := h2 h0
          cases h3
      have : p.2.take n = [] := List.eq_nil_of_length_eq_zero (by rw [List.length_take]; omega)
      rw [this]
      exact ⟨[], by simp [Builtin.firstCells], rfl⟩
    | some ad =>
      rcases Nat.eq_zero_or_pos p.2.length with h0 | h0
      · have h3 : n = 0 := by omega
        subst h3
        refine ⟨[], ?_, by rw [List.take_zero]; exact rfl⟩
        have := run_loadCells_list (P := P) w ad [] (fun j v hj => by cases hj)
        simpa [Builtin.firstCells] using this
      · obtain ⟨ad', h3, h4⟩ := h2 h0
        injection h3 with h3
        subst h3
        obtain ⟨news, h5, h6⟩ := parts_of (xs := p.2.take n) (ad := ad) (fun i hi => by
          rw [List.length_take] at hi
          obtain ⟨es, h7, h8⟩ := h4 i (by omega)
          exact ⟨es, by rw [List.getElem_take]; exact h7, h8⟩)
        refine ⟨news, ?_, h5⟩
        have hl := Parts_len h5
        rw [List.length_take, Nat.min_eq_left hn] at hl
        have := run_loadCells_list (P := P) w ad news h6
        rw [hl] at this
        simpa [Builtin.firstCells] using this

theorem Parts_take {S : Nat → Prop} {w : World} {t : Ty} : ∀ (n : Nat) {xs : List t.den} {l : List Value}, Parts S w t xs l → Parts S w t (xs.take n) (l.take (n * t.sz))
  | 0, _, _, _ => by rw [Nat.zero_mul]; exact rfl
  | n + 1, [], _, h => by
    have h : _ = [] := h
    subst h
    rw [List.take_nil, List.take_nil]
    exact rfl
  | n + 1, x :: xs, _, ⟨es, r, h, h1, h2⟩ => by
    subst h
    have hl := Rd_len h1
    rw [show (n + 1) * t.sz = es.length + n * t.sz by rw [hl, Nat.add_mul]; omega, List.take_length_add_append, List.take_succ_cons]
    exact ⟨es, _, rfl, h1, Parts_take n h2⟩

theorem Parts_drop {S : Nat → Prop} {w : World} {t : Ty} : ∀ (n : Nat) {xs : List t.den} {l : List Value}, Parts S w t xs l → Parts S w t (xs.drop n) (l.drop (n * t.sz))
  | 0, _, _, h => by rw [Nat.zero_mul]; exact h
  | n + 1, [], _, h => by
    have h : _ = [] := h
    subst h
    rw [List.drop_nil, List.drop_nil]
    exact rfl
  | n + 1, x :: xs, _, ⟨es, r, h, h1, h2⟩ => by
    subst h
    have hl := Rd_len h1
    rw [show (n + 1) * t.sz = es.length + n * t.sz by rw [hl, Nat.add_mul]; omega, List.drop_length_add_append, List.drop_succ_cons]
    exact Parts_drop n h2

theorem over_same {FS : Nat → Option Lv} {n : Nat} {lv : Lv} (h : FS n = some lv) : over [(n, lv)] FS = FS := by
  funext l
  rw [over_one]
  by_cases e : l = n
  · rw [if_pos e, e, h]
  · rw [if_neg e]

theorem run_copy2 {c : Call} {x y : Operand} (hc : c.callee = .builtin .copy) (ha : c.args.toList = [x, y]) {t : TypeId} {rest : List TypeId} (hat : c.argTypes.toList = t :: rest) {e : TypeId} {ti te : TI} (hT : TOK P t ti) (hk : ti.k = .slice e) (hE : TOK P e te) {a : Act} {o : Oper} (ho : o.op = .call c) {w w' : World}
    {A : Option Addr} {dl dc m : Nat} {news : List Value} (hd : a.eval x = .slice A dl dc) (hlen : (Builtin.lenOf (a.eval y)).run P w = .ok m w) (hf : (Builtin.firstCells te.sz (min m dl) (a.eval y)).run P w = .ok news.toArray w)
    (hst : (match A with | some ad => storeCells ad news | none => pure ()).run P w = .ok () w') : (execOp a.eval o).run P w = .ok (.value (.int .i64 (min m dl : Nat))) w' := by
  obtain ⟨cs, hr⟩ := run_args2 (P := P) hc ha ho w
  have h0 : c.argTypes[0]? = some t := by rw [← Array.getElem?_toList, hat]; rfl
  rw [hr]
  simp only [builtin, Builtin.copy_, h0, List.getElem?_toArray, List.getElem?_cons_zero, List.getElem?_cons_succ, Sem.run_bind, run_underlying (slice_desc hT hk), Result.andThen_ok, hd, hlen, run_sizeOf hE]
  rw [show Nat.min m dl = min m dl from rfl, hf]
  simp only [Result.andThen_ok]
  cases A with
  | none =>
    simp only [Sem.run_pure] at hst
    injection hst with _ hst
    subst hst
    simp [goInt]
  | some ad =>
    simp only at hst
    simp [hst, goInt]

/-- What is laid into a row that is owned. -/
theorem copy_core {t e : TypeId} {ti te : TI} (hT : TOK P t ti) (hk : ti.k = .slice e) (hE : TOK P e te) {c : Call} {x y : Operand} (hc : c.callee = .builtin .copy) (ha : c.args.toList = [x, y]) {rest : List TypeId} (hat : c.argTypes.toList = t :: rest)
    {id lo : Nat} {e' : TypeId} {u : Ty} {xs ys : List u.den} (hlx : look st (2 * id + 1) = some (.row e' u xs)) {b : Cell} (hy : evC st y = some b) (hsrc : srcB st te.ty b = some ⟨u, ys⟩) (hsz : te.sz = u.sz) (hlo : lo ≤ xs.length)
    (hdst : ∀ (S0 : Nat → Prop) (w0 : World) (nt : Nat) (μ : Nat → Value) (FS : Nat → Option Lv) (a : Act) (w : World), (∀ l, l ∈ opReads (.call c) st → FS l = look st l) → Sim S0 w0 nt μ FS a w →
      FS (2 * id + 1) = some (.row e' u xs) ∧ ∃ A dc, a.eval x = .slice A (xs.length - lo) dc ∧ ∀ n, 0 < n → n ≤ xs.length - lo → ∃ g cap, A = some ⟨g, lo * u.sz, none⟩ ∧ μ id = .slice (some ⟨g, 0, none⟩) xs.length cap) :
    StepOK P (.call c) st new (.f (.c (.v (.int .i64) (((min ys.length (xs.length - lo) : Nat)) : Int)))) [(2 * id + 1, .row e' u (laid lo (min ys.length (xs.length - lo)) xs ys))] := by
  intro S0 w0 nt μ FS a w o ho hs _ hsim next Q hn
  obtain ⟨hFS, A, dc, hd, hA⟩ := hdst S0 w0 nt μ FS a w hs hsim
  obtain ⟨m1, m2⟩ := mem_args2 hc ha
  have hids := seesIds_of hs (x := y) m2 (evC_evO hy)
  obtain ⟨hlen, news, hf, hp⟩ := srcB_elems hsim (by simpa [tvIds, Fl.cells] using hids) (evC_rel hsim (sees_of hs m2) hy) hsrc (n := min ys.length (xs.length - lo)) (Nat.min_le_left _ _)
  rw [← hsz] at hf
  have hnl := Parts_len hp
  rw [List.length_take, Nat.min_eq_left (Nat.min_le_left _ _)] at hnl
  rcases Nat.eq_zero_or_pos (min ys.length (xs.length - lo)) with h0 | h0
  · have hnews : news = [] := List.eq_nil_of_length_eq_zero (by rw [hnl, h0, Nat.zero_mul])
    subst hnews
    have hrun := run_copy2 (P := P) hc ha hat hT hk hE ho (w' := w) hd hlen hf (by cases A <;> simp [storeCells])
    have hlaid : laid lo (min ys.length (xs.length - lo)) xs ys = xs := by
      unfold laid
      rw [h0]
      simp
    rw [hlaid] at hn
    rw [over_same hFS] at hn
    exact step_of_run hrun (hn _ _ μ hsim rfl)
  · obtain ⟨g, cap, hA, hm⟩ := hA _ h0 (Nat.min_le_right _ _)
    subst hA
    obtain ⟨inner, h3, h4, h5⟩ := hsim.obj id _ hFS
    have hil := Parts_len h4
    rw [hm] at h3
    obtain ⟨cur, hg, hcl⟩ : ∃ cur, w.heap[g]? = some (.cells cur e' (0, 0)) ∧ inner.length ≤ cur.size := by
      rcases h3.2 with ⟨hv, _⟩ | ⟨g', cap', cur, hv, _, hg, _, _, _, htake⟩
      · cases hv
      · have e1 : g = g' := by injection hv with hv; injection hv with hv; injection hv with hv
        subst e1
        refine ⟨cur, hg, ?_⟩
        rw [← htake, List.length_take, Array.length_toList]
        exact Nat.min_le_right _ _
    have hbound : lo * u.sz + news.length ≤ inner.length := by
      rw [hil, hnl, ← Nat.add_mul]
      exact Nat.mul_le_mul_right _ (by omega)
    have hst := storeCells_run (P := P) hg (lo * u.sz) news (Parts_one hp) (by omega)
    have hrun := run_copy2 (P := P) hc ha hat hT hk hE ho hd hlen hf hst
    have hset := own_set h3 hg (off := lo * u.sz) (es := news) hbound
    have hsim' := hsim.store (lv' := .row e' u (laid lo (min ys.length (xs.length - lo)) xs ys)) (w' := w.setRow g (cur.toList.take (lo * u.sz) ++ news ++ cur.toList.drop (lo * u.sz + news.length)).toArray) hFS rfl (g := g) (by rw [hm]; rfl) rfl rfl rfl
      (by simp [World.setRow]) (fun k hk => setRow_other w g k _ hk) (fun hag => by
        have hll : (laid lo (min ys.length (xs.length - lo)) xs ys).length = xs.length := by
          unfold laid
          rw [List.length_append, List.length_append, List.length_take, List.length_take, List.length_drop]
          omega
        have hpd : Parts (live S0 μ FS) w u (xs.drop (lo + min ys.length (xs.length - lo))) (inner.drop (lo * u.sz + news.length)) := by
          have := Parts_drop (lo + min ys.length (xs.length - lo)) h4
          rwa [Nat.add_mul, ← hnl] at this
        refine ⟨_, ?_, Parts.move hag (fun k _ hk => live_same hFS rfl k hk) (Parts_append (Parts_append (Parts_take lo h4) hp) hpd), by rw [hll]; exact h5⟩
        rw [hm, hll]
        exact hset)
    exact step_of_run hrun (hn _ _ μ hsim' rfl)

theorem ok_copy_own {t e : TypeId} {ti te : TI} (hT : TOK P t ti) (hk : ti.k = .slice e) (hE : TOK P e te) {c : Call} {x y : Operand} (hc : c.callee = .builtin .copy) (ha : c.args.toList = [x, y]) {rest : List TypeId} (hat : c.argTypes.toList = t :: rest)
    {id : Nat} (hx : evC st x = some (.own id)) {e' : TypeId} {u : Ty} {xs ys : List u.den} (hlx : look st (2 * id + 1) = some (.row e' u xs)) {b : Cell} (hy : evC st y = some b) (hsrc : srcB st te.ty b = some ⟨u, ys⟩) (hsz : te.sz = u.sz) :
    StepOK P (.call c) st new (.f (.c (.v (.int .i64) (((min ys.length xs.length : Nat)) : Int)))) [(2 * id + 1, .row e' u (laid 0 (min ys.length xs.length) xs ys))] := by
  refine copy_core (lo := 0) hT hk hE hc ha hat hlx hy hsrc hsz (Nat.zero_le _) fun S0 w0 nt μ FS a w hs hsim => ?_
  obtain ⟨m1, m2⟩ := mem_args2 hc ha
  have hid := seesIds_of hs (x := x) m1 (evC_evO hx) id (by simp [tvIds, Fl.cells, cellIds, Cell.id?])
  have hFS : FS (2 * id + 1) = some (.row e' u xs) := hid.trans hlx
  have hv := (evC_rel hsim (sees_of hs m1) hx).1
  obtain ⟨inner, h3, h4, h5⟩ := hsim.obj id _ hFS
  refine ⟨hFS, ?_⟩
  rcases h3.2 with ⟨h6, h7⟩ | ⟨g, cap, cur, h6, _⟩
  · refine ⟨none, 0, by rw [hv, h6, h7], fun n hn hn' => by omega⟩
  · exact ⟨_, cap, by rw [hv, h6]; rfl, fun n _ _ => ⟨g, cap, by rw [Nat.zero_mul], h6⟩⟩

theorem ok_copy_osl {t e : TypeId} {ti te : TI} (hT : TOK P t ti) (hk : ti.k = .slice e) (hE : TOK P e te) {c : Call} {x y : Operand} (hc : c.callee = .builtin .copy) (ha : c.args.toList = [x, y]) {rest : List TypeId} (hat : c.argTypes.toList = t :: rest)
    {id lo : Nat} {e' : TypeId} {u : Ty} {xs ys : List u.den} (hx : evC st x = some (.osl id lo u.sz)) (hlx : look st (2 * id + 1) = some (.row e' u xs)) {b : Cell} (hy : evC st y = some b) (hsrc : srcB st te.ty b = some ⟨u, ys⟩) (hsz : te.sz = u.sz) (hlo : lo ≤ xs.length) :
    StepOK P (.call c) st new (.f (.c (.v (.int .i64) (((min ys.length (xs.length - lo) : Nat)) : Int)))) [(2 * id + 1, .row e' u (laid lo (min ys.length (xs.length - lo)) xs ys))] := by
  refine copy_core hT hk hE hc ha hat hlx hy hsrc hsz hlo fun S0 w0 nt μ FS a w hs hsim => ?_
  obtain ⟨m1, m2⟩ := mem_args2 hc ha
  have hid := seesIds_of hs (x := x) m1 (evC_evO hx) id (by simp [tvIds, Fl.cells, cellIds, Cell.id?])
  have hFS : FS (2 * id + 1) = some (.row e' u xs) := hid.trans hlx
  obtain ⟨inner, h3, h4, h5⟩ := hsim.obj id _ hFS
  refine ⟨hFS, ?_⟩
  rcases evC_rel hsim (sees_of hs m1) hx with ⟨g, n, cc, oo, hm, hv, hoo⟩ | ⟨hm, hv⟩
  · rcases h3.2 with ⟨h6, h7⟩ | ⟨g', cap, cur, h6, _, _, hnc, _⟩
    · rw [hm] at h6; cases h6
    · rw [hm] at h6
      have e2 : n = xs.length := by injection h6
      have e3 : cc = cap := by injection h6
      subst e2 e3
      refine ⟨_, _, hv, fun k hk hk' => ⟨g, cc, by rw [hoo (by omega)], hm⟩⟩
  · rcases h3.2 with ⟨h6, h7⟩ | ⟨g', cap, cur, h6, _⟩
    · exact ⟨none, 0, by rw [hv, h7, Nat.zero_sub], fun n hn hn' => by omega⟩
    · rw [hm] at h6; cases h6

theorem AllRel_ints {k : IntKind} {μ : Nat → Value} {S : Nat → Prop} {w : World} : ∀ (l : List Int), AllRel μ S w (l.map fun x => Cell.v (.int k) x) (l.map (.int k))
  | [] => rfl
  | x :: l => ⟨_, _, rfl, rfl, AllRel_ints l⟩

theorem Parts_ints {k : IntKind} {S : Nat → Prop} {w : World} : ∀ {l : List Int} {vs : List Value}, Parts S w (.int k) l vs → vs = l.map (.int k)
  | [], _, h => h
  | x :: l, _, ⟨es, r, h, h1, h2⟩ => by
    have h1 : es = [Value.int k x] := h1
    subst h1
    rw [h, Parts_ints h2]
    rfl

theorem rowCells_eq {n : Nat} {l : List Int} (h : l.length = n) : rowCells n l = l.map fun x => Cell.v (.int .u8) x := by
  subst h
  unfold rowCells
  apply List.ext_getElem
  · simp
  · intro i h1 h2
    have hi : i < l.length := by simpa using h2
    simp [List.getD_eq_getElem?_getD, List.getElem?_eq_getElem hi]

/-- Bytes laid into an array. -/
theorem ok_copy_asl {t e : TypeId} {ti te : TI} (hT : TOK P t ti) (hk : ti.k = .slice e) (hE : TOK P e te) {c : Call} {x y : Operand} (hc : c.callee = .builtin .copy) (ha : c.args.toList = [x, y]) {rest : List TypeId} (hat : c.argTypes.toList = t :: rest)
    {id n : Nat} (hx : evC st x = some (.asl id 0 n)) {cs : List Cell} (hl : look st (2 * id + 1) = some (.box cs)) (hcl : cs.length = n) {xs : List Int} (hxs : cellRow .u8 cs = some xs) {b : Cell} (hy : evC st y = some b) {ys : List Int} (hsrc : srcB st te.ty b = some ⟨.int .u8, ys⟩) (hsz : te.sz = 1) :
    StepOK P (.call c) st new (.f (.c (.v (.int .i64) (((min ys.length n : Nat)) : Int)))) [(2 * id + 1, .box (rowCells n (laid 0 (min ys.length n) xs ys)))] := by
  intro S0 w0 nt μ FS a w o ho hs _ hsim next Q hn
  obtain ⟨m1, m2⟩ := mem_args2 hc ha
  have hidx := seesIds_of hs (x := x) m1 (evC_evO hx) id (by simp [tvIds, Fl.cells, cellIds, Cell.id?])
  have hFS : FS (2 * id + 1) = some (.box cs) := hidx.trans hl
  have hids := seesIds_of hs (x := y) m2 (evC_evO hy)
  obtain ⟨hlen, news, hf, hp⟩ := srcB_elems hsim (by simpa [tvIds, Fl.cells] using hids) (evC_rel hsim (sees_of hs m2) hy) hsrc (n := min ys.length n) (Nat.min_le_left _ _)
  obtain ⟨g, h1, h2⟩ := evC_rel hsim (sees_of hs m1) hx
  obtain ⟨g', vs, Ty', h3, hge, h4, h5⟩ := hsim.obj id (.box cs) hFS
  rw [h1] at h3
  have hg : g = g' := by injection h3 with h3; injection h3 with h3; injection h3
  subst hg
  have hvs := cellRow_rel h5 hxs
  have hnews : news = (ys.take (min ys.length n)).map (Value.int .u8) := Parts_ints hp
  have hxl : xs.length = n := by
    have := congrArg List.length hvs
    rw [List.length_map, AllRel_len h5] at this
    omega
  have hnl : news.length = min ys.length n := by rw [hnews, List.length_map, List.length_take]; omega
  have hvl : vs.length = n := by rw [hvs, List.length_map]; exact hxl
  have hone : ∀ u ∈ news, u.oneCell' = true := Parts_one hp
  have hst := storeCells_run (P := P) h4 0 news hone (by rw [hnl]; simp [hvl]; omega)
  rw [show (Ty.int .u8).sz = 1 from rfl, ← hsz] at hf
  have hrun := run_copy2 (P := P) hc ha hat hT hk hE ho h2 hlen hf hst
  have hll : (laid 0 (min ys.length n) xs ys).length = n := by
    unfold laid
    rw [List.length_append, List.length_append, List.length_take, List.length_take, List.length_drop]
    omega
  rw [rowCells_eq hll] at hn
  have hsim' := hsim.store (lv' := .box ((laid 0 (min ys.length n) xs ys).map fun x => Cell.v (.int .u8) x)) (w' := w.setRow g (vs.toArray.toList.take 0 ++ news ++ vs.toArray.toList.drop (0 + news.length)).toArray) hFS rfl (g := g) (by rw [h1]; rfl) rfl rfl rfl
    (by simp [World.setRow]) (fun k hk => setRow_other w g k _ hk) (fun _ => by
      refine ⟨g, (laid 0 (min ys.length n) xs ys).map (.int .u8), Ty', h1, hge, ?_, AllRel_ints _⟩
      have hz : vs.toArray.toList.take 0 ++ news ++ vs.toArray.toList.drop (0 + news.length) = (laid 0 (min ys.length n) xs ys).map (.int .u8) := by
        unfold laid
        rw [hnl, hnews, hvs]
        simp [List.map_drop, List.map_take]
      rw [hz]
      exact setRow_heap w g _ _ Ty' (0, 0) h4)
  exact step_of_run hrun (hn _ _ μ hsim' rfl)

/-! ### A literal struct -/
theorem fold_set {off : Nat} {v : Value} {cells : Array Value} (h : off + v.cells.size ≤ cells.size) :
    (v.cells.zipIdx.foldl (fun cs (x : Value × Nat) => cs.setIfInBounds (off + x.2) x.1) cells).toList = cells.toList.take off ++ v.cells.toList ++ cells.toList.drop (off + v.cells.size) := by
  obtain ⟨h1, h2⟩ := Great.foldl_set off v.cells.toList 0 cells
  rw [← Array.foldl_toList, Array.toList_zipIdx]
  apply List.ext_getElem?
  intro k
  rw [Array.getElem?_toList, h2 k]
  simp only [Nat.add_zero, Array.length_toList]
  have tl : (cells.toList.take off).length = off := by rw [List.length_take, Array.length_toList]; omega
  by_cases a1 : k < off
  · rw [if_neg (by omega), List.append_assoc, List.getElem?_append_left (by rw [tl]; exact a1), List.getElem?_take, if_pos a1, Array.getElem?_toList]
  · rw [List.append_assoc, List.getElem?_append_right (by rw [tl]; omega), tl]
    by_cases a2 : k - off < v.cells.size
    · rw [if_pos (by omega), List.getElem?_append_left (by rw [Array.length_toList]; exact a2)]
    · rw [if_neg (by omega), List.getElem?_append_right (by rw [Array.length_toList]; omega), List.getElem?_drop, Array.length_toList, Array.getElem?_toList, show off + v.cells.size + (k - off - v.cells.size) = k by omega]

theorem fills_rel {μ : Nat → Value} {S : Nat → Prop} {w : World} (f : Operand → Value) (pl : Nat → Option (Nat × Nat)) : ∀ {parts : List (Nat × Operand)} {xs : List Fl} {l : List (Nat × Nat × Fl)} {cs cs' : List Cell} {cells : Array Value},
    FlsRel μ S w xs ((parts.map (·.2)).map f) → places pl parts xs = some l → fills cs l = some cs' → AllRel μ S w cs cells.toList →
      ∃ cells', Instr.fill pl cells (parts.map fun x => (x.1, f x.2)) = some cells' ∧ AllRel μ S w cs' cells'.toList
  | [], [], _, cs, cs', cells, _, hp, hf, ha => by
    injection hp with hp
    subst hp
    injection hf with hf
    subst hf
    exact ⟨cells, rfl, ha⟩
  | [], _ :: _, _, _, _, _, _, hp, _, _ => by cases hp
  | _ :: _, [], _, _, _, _, _, hp, _, _ => by cases hp
  | p :: parts, x :: xs, _, cs, cs', cells, ⟨v, r, hv, h1, h2⟩, hp, hf, ha => by
    rw [List.map_cons, List.map_cons] at hv
    injection hv with hv1 hv2
    simp only [places] at hp
    obtain ⟨q, hq, hp⟩ := bind_some hp
    obtain ⟨l, hl, hp⟩ := bind_some hp
    injection hp with hp
    subst hp
    simp only [fills] at hf
    cases hb : (Nat.beq x.cells.length q.2 && Nat.ble (q.1 + q.2) cs.length) with
    | false => rw [hb] at hf; cases hf
    | true =>
      rw [hb] at hf
      simp only [cond_true] at hf
      rw [Bool.and_eq_true] at hb
      have e1 : x.cells.length = q.2 := Nat.eq_of_beq_eq_true hb.1
      have e2 := Nat.le_of_ble_eq_true hb.2
      have e3 : (f p.2).cells.size = q.2 := by rw [hv1, cells_size h1, e1]
      have e4 := AllRel_len ha
      rw [Array.length_toList] at e4
      have hcr := Fl.cells_rel h1
      rw [← hv1] at hcr
      have hset := fold_set (off := q.1) (v := f p.2) (cells := cells) (by omega)
      obtain ⟨cells', h3, h4⟩ := fills_rel f pl (cells := ((f p.2).cells.zipIdx.foldl (fun cs (x : Value × Nat) => cs.setIfInBounds (q.1 + x.2) x.1) cells)) (by rw [hv2]; exact h2) hl hf (by
        rw [hset, e3]
        exact AllRel_append (AllRel_append (AllRel_take _ ha) hcr) (AllRel_drop _ ha))
      refine ⟨cells', ?_, h4⟩
      rw [List.map_cons]
      unfold Instr.fill
      rw [hq]
      obtain ⟨q1, q2⟩ := q
      simp only at e1 e2 e3 ⊢
      rw [if_neg (by simp; omega)]
      exact h3

theorem szs_some (hTS : TypesOK P T) : ∀ {fs : List Field} {ps : List (Nat × Nat)}, szs T (fs.map fun f => (f.offset, f.type)) = some ps → fs.mapM (fun f => (P.info? f.type).map fun i => (f.offset, i.size)) = some ps
  | [], _, h => by
    injection h with h
    subst h
    rfl
  | f :: fs, _, h => by
    simp only [List.map_cons, szs] at h
    obtain ⟨ti, h1, h⟩ := bind_some h
    obtain ⟨l, h2, h⟩ := bind_some h
    injection h with h
    subst h
    obtain ⟨i, z, hi, hsz, _⟩ := (hTS _ _ h1).info
    simp only [List.mapM_cons, hi, szs_some hTS h2, Option.map_some, hsz]
    rfl

theorem ok_build_struct (hTS : TypesOK P T) {t : TypeId} {ti : TI} (hT : TOK P t ti) {fs : List (Nat × TypeId)} (hk : ti.k = .struct fs) {parts : Array (Nat × Operand)} {xs : List Fl} (hxs : evFs st (parts.toList.map (·.2)) = some xs) {ps : List (Nat × Nat)} (hps : szs T fs = some ps)
    {l : List (Nat × Nat × Fl)} (hl : places (fun i => ps[i]?) parts.toList xs = some l) {cs : List Cell} (hf : fills ti.zero l = some cs) : StepOK P (.build t parts) st new (.f (.agg cs)) [] :=
  stepOK_pure fun S0 w0 nt μ FS a w o ho hs hsim => by
    have hmem : ∀ y ∈ parts.toList.map (·.2), y ∈ (Op.build t parts).operands.toList := by
      intro y hy
      simpa [Op.operands] using hy
    have hrel := evFs_rel hsim (fun y hy => sees_of hs (hmem y hy)) hxs
    obtain ⟨i, z, hi, hsz, hby, hz, hz1, hz2⟩ := hT.info
    obtain ⟨fields, hu, hfs⟩ : ∃ fields : Array Field, P.underlying t = some (.struct fields) ∧ fields.toList.map (fun f => (f.offset, f.type)) = fs := by
      obtain ⟨d, hd, hkd⟩ := hT.desc
      unfold KOK at hkd
      rw [hk] at hkd
      obtain ⟨fields, rfl, hf, _⟩ := hkd
      exact ⟨fields, hd, hf⟩
    obtain ⟨cells, h1, h2⟩ := fills_rel a.eval _ hrel hl hf (hz1 μ (live S0 μ FS) w)
    refine ⟨.agg cells, ?_, cells.toList, rfl, h2⟩
    have hb : P.built t (parts.map fun (j, x) => (j, a.eval x)).toList = some cells := by
      unfold Program.built
      simp only [hi, hu, hz]
      have := szs_some hTS (fs := fields.toList) (ps := ps) (by rw [hfs]; exact hps)
      rw [this]
      simp only
      rw [Array.toList_map]
      simp only [List.getElem?_toArray]
      exact h1
    unfold execOp
    rw [ho]
    simp only [Sem.run_bind, run_build w t _ _ hb, Result.andThen_ok, Sem.run_pure]

theorem ok_build_array (hTS : TypesOK P T) {t e : TypeId} {ti te : TI} {m : Nat} (hT : TOK P t ti) (hk : ti.k = .array m e) (hE : TOK P e te) {parts : Array (Nat × Operand)} {xs : List Fl} (hxs : evFs st (parts.toList.map (·.2)) = some xs)
    {l : List (Nat × Nat × Fl)} (hl : places (fun i => some (i * te.sz, te.sz)) parts.toList xs = some l) {cs : List Cell} (hf : fills ti.zero l = some cs) : StepOK P (.build t parts) st new (.f (.agg cs)) [] :=
  stepOK_pure fun S0 w0 nt μ FS a w o ho hs hsim => by
    have hmem : ∀ y ∈ parts.toList.map (·.2), y ∈ (Op.build t parts).operands.toList := by
      intro y hy
      simpa [Op.operands] using hy
    have hrel := evFs_rel hsim (fun y hy => sees_of hs (hmem y hy)) hxs
    obtain ⟨i, z, hi, hsz, hby, hz, hz1, hz2⟩ := hT.info
    obtain ⟨ie, ze, hie, hsze, _⟩ := hE.info
    have hu := array_desc hT hk
    obtain ⟨cells, h1, h2⟩ := fills_rel a.eval _ hrel hl hf (hz1 μ (live S0 μ FS) w)
    refine ⟨.agg cells, ?_, cells.toList, rfl, h2⟩
    have hb : P.built t (parts.map fun (j, x) => (j, a.eval x)).toList = some cells := by
      unfold Program.built
      simp only [hi, hu, hz, hie, hsze]
      rw [Array.toList_map]
      exact h1
    unfold execOp
    rw [ho]
    simp only [Sem.run_bind, run_build w t _ _ hb, Result.andThen_ok, Sem.run_pure]

end Go.Ab
