/- Rows made, and made longer. -/
import Derived.Test.YtnifcbofkodjeaaWaAbI
set_option linter.unusedVariables false
set_option linter.unusedSimpArgs false
namespace Go.Ab
open Go.RowKit

variable {P : Program} {T : Nat → Option TI} {st : St} {new : Option Nat}

theorem row_elems {μ : Nat → Value} {S : Nat → Prop} {w : World} {base id : Nat} {e : TypeId} {t : Ty} {xs : List t.den} (h : ObjRel μ S w base id (.row e t xs)) :
    ∃ A c, μ id = .slice A xs.length c ∧ xs.length ≤ c ∧ (0 < xs.length → ∃ ad, A = some ad ∧ ∀ (i : Nat) (hi : i < xs.length), ∃ es, Rd S w t (xs[i]'hi) es ∧ At w (ad.add (i * t.sz)) es) := by
  obtain ⟨inner, h1, h2, h3⟩ := h
  rcases h1.2 with ⟨hv, hn⟩ | ⟨g, cap, cur, hv, _, hg, hnc, hcm, _⟩
  · rw [hv]
    exact ⟨none, 0, by rw [hn], by omega, fun hp => by omega⟩
  · have hc : ∀ j u, inner[j]? = some u → w.cell? ((⟨g, 0, none⟩ : Addr).add j) = some u := h1.cells (by rw [hv]; rfl)
    rw [hv]
    refine ⟨_, cap, rfl, hnc, fun _ => ⟨_, rfl, fun i hi => ?_⟩⟩
    obtain ⟨es, h4, h5⟩ := Parts_get h2 i hi
    refine ⟨es, h4, fun j u hu => ?_⟩
    rw [add_add]
    exact hc _ _ (h5 j u hu)

theorem rowCell_elems {S0 : Nat → Prop} {w0 : World} {nt : Nat} {μ : Nat → Value} {FS : Nat → Option Lv} {a : Act} {w : World} (h : Sim S0 w0 nt μ FS a w) {c : Cell} {v : Value} (hs : SeesIds st FS (cellIds [c])) (hc : CellRel μ (live S0 μ FS) w c v)
    {p : (t : Ty) × List t.den} (he : rowCell st c = some p) :
    ∃ A cp, v = .slice A p.2.length cp ∧ p.2.length ≤ cp ∧ (0 < p.2.length → ∃ ad, A = some ad ∧ ∀ (i : Nat) (hi : i < p.2.length), ∃ es, Rd (live S0 μ FS) w p.1 (p.2[i]'hi) es ∧ At w (ad.add (i * p.1.sz)) es) := by
  unfold rowCell at he
  split at he
  · injection he with he
    subst he
    obtain ⟨A, cp, h1, h2, h3, h4⟩ := hc
    refine ⟨A, cp, (List.cons.inj h1).1, h2, fun hp => ?_⟩
    obtain ⟨ad, h5, _, h6⟩ := h4 hp
    exact ⟨ad, h5, h6⟩
  · rename_i id
    split at he
    · rename_i e t xs hl
      injection he with he
      subst he
      obtain ⟨hv, _⟩ := hc
      rw [hv]
      exact row_elems (h.obj id _ ((hs id (by simp [cellIds, Cell.id?])).trans hl))
    · cases he
  · rename_i id lo s
    split at he
    · rename_i e t xs hl
      cases hb : Nat.beq s t.sz with
      | false => rw [hb] at he; cases he
      | true =>
        rw [hb] at he
        injection he with he
        subst he
        have hb := Nat.eq_of_beq_eq_true hb
        subst hb
        have hobj := h.obj id _ ((hs id (by simp [cellIds, Cell.id?])).trans hl)
        obtain ⟨A, cp, h1, h2, h3⟩ := row_elems hobj
        have hlen : List.length (xs.drop lo) = xs.length - lo := List.length_drop ..
        rcases hc with ⟨g, n, c, o, hm, hv, hoo⟩ | ⟨hm, hv⟩
        · rw [hm] at h1
          have e1 : A = some ⟨g, 0, none⟩ := by injection h1 with h1; exact h1.symm
          have e2 : n = xs.length := by injection h1
          have e3 : c = cp := by injection h1
          subst e1 e2 e3
          refine ⟨some ⟨g, o, none⟩, c - lo, by rw [hv]; simp only [hlen], by simp only [hlen]; omega, fun hp => ⟨_, rfl, fun i hi => ?_⟩⟩
          simp only [hlen] at hi hp
          have hoo := hoo (by omega)
          subst hoo
          obtain ⟨ad, h4, h5⟩ := h3 (by omega)
          injection h4 with h4
          subst h4
          obtain ⟨es, h6, h7⟩ := h5 (lo + i) (by omega)
          refine ⟨es, by simp only [List.getElem_drop]; exact h6, fun j u hu => ?_⟩
          have := h7 j u hu
          rw [add_plain, add_plain, Nat.zero_add] at this
          rw [add_plain, add_plain, ← this, Nat.add_mul]
        · rw [hm] at h1
          have e2 : 0 = xs.length := by injection h1
          have hx : xs = [] := List.eq_nil_of_length_eq_zero e2.symm
          subst hx
          refine ⟨none, 0, by rw [hv]; simp, by simp, fun hp => by simp at hp⟩
    · cases he
  · rename_i id off n
    split at he
    · rename_i cs hl
      obtain ⟨h1, he⟩ := chk_some he
      obtain ⟨l, h2, he⟩ := bind_some he
      injection he with he
      subst he
      obtain ⟨g, h3, h4, h5, h6⟩ := asl_rd h hc ((hs id (by simp [cellIds, Cell.id?])).trans hl) h1 h2
      exact ⟨some ⟨g, off, none⟩, n, h3, Nat.le_of_eq h4, fun _ => ⟨_, rfl, h6⟩⟩
    · cases he
  · cases he

theorem parts_of {S : Nat → Prop} {w : World} {t : Ty} : ∀ {xs : List t.den} {ad : Addr}, (∀ (i : Nat) (hi : i < xs.length), ∃ es, Rd S w t (xs[i]'hi) es ∧ At w (ad.add (i * t.sz)) es) →
    ∃ news, Parts S w t xs news ∧ ∀ j u, news[j]? = some u → w.cell? (ad.add j) = some u
  | [], _, _ => ⟨[], rfl, fun j u hj => by cases hj⟩
  | x :: xs, ad, h => by
    obtain ⟨es, h1, h2⟩ := h 0 (Nat.zero_lt_succ _)
    obtain ⟨news, h3, h4⟩ := parts_of (xs := xs) (ad := ad.add t.sz) (fun i hi => by
      obtain ⟨es, h5, h6⟩ := h (i + 1) (by simpa using hi)
      refine ⟨es, h5, ?_⟩
      rw [add_add, show t.sz + i * t.sz = (i + 1) * t.sz by rw [Nat.add_mul]; omega]
      exact h6)
    have hl := Rd_len h1
    refine ⟨es ++ news, ⟨es, news, rfl, h1, h3⟩, fun j u hj => ?_⟩
    rcases Nat.lt_or_ge j es.length with hlt | hge
    · rw [List.getElem?_append_left hlt] at hj
      have := h2 j u hj
      rw [add_add, Nat.zero_mul, Nat.zero_add] at this
      exact this
    · rw [List.getElem?_append_right hge] at hj
      have := h4 _ _ hj
      rw [add_add, show t.sz + (j - es.length) = j by omega] at this
      exact this

/-- 'append', whatever lies behind the second operand. -/
theorem append_run {t e : TypeId} {ti te : TI} (hT : TOK P t ti) (hk : ti.k = .slice e) (hE : TOK P e te) {S : Nat → Prop} {u : Ty} (hu : u.sz = te.sz) {w : World} {base : Nat} {v y : Value} {n : Nat} {inner : List Value} (hown : w.ownsRow base e te.sz v n inner) (hbase : base ≤ w.heap.size)
    {ys : List u.den} {A : Option Addr} {cp : Nat} (hy : y = .slice A ys.length cp) (hel : 0 < ys.length → ∃ ad, A = some ad ∧ ∀ (i : Nat) (hi : i < ys.length), ∃ es, Rd S w u (ys[i]'hi) es ∧ At w (ad.add (i * u.sz)) es)
    (h63 : n + ys.length ≤ 9223372036854775807) (hb : (n + ys.length) * te.bytes ≤ 140737488355328) (ty : TypeId) :
    ∃ v' w' news, (Builtin.append_ #[t, t] ty #[v, y]).run P w = .ok v' w' ∧ w'.ownsRow base e te.sz v' (n + ys.length) (inner ++ news) ∧ w.grownBy w' v.ownBlock ∧ (v'.ownBlock = v.ownBlock ∨ v'.ownBlock = some w.heap.size) ∧ Parts S w u ys news := by
  obtain ⟨i, z, hi, hsz, hby, hz, hz1, hz2⟩ := hE.info
  have ht := slice_desc hT hk
  have hzs : z.cells.size = te.sz := by
    have := Rd_len (hz2 (fun _ => False) w)
    rw [Array.length_toList] at this
    rw [this, hE.size]
  have hpos : 0 < te.sz := by rw [hE.size]; exact Ty.sz_pos _
  subst hy
  rcases Nat.eq_zero_or_pos ys.length with h0 | h0
  · have : ys = [] := List.eq_nil_of_length_eq_zero h0
    subst this
    cases A with
    | none =>
      refine ⟨v, w, [], ?_, by simpa using hown, ⟨rfl, rfl, rfl, Nat.le_refl _, fun _ _ _ => rfl⟩, .inl rfl, rfl⟩
      rcases hown.2 with ⟨rfl, rfl⟩ | ⟨g, cap, cur, rfl, _, _, hnc, _⟩
      · simp [Builtin.append_, run_underlying ht, sizeOf, typeInfo, hi, Builtin.lenOf, Builtin.firstCells]
      · simp [Builtin.append_, run_underlying ht, sizeOf, typeInfo, hi, Builtin.lenOf, Builtin.firstCells, hnc, storeCells]
    | some ad =>
      obtain ⟨v', w', hr, h1, h2, _, h3⟩ := run_append_own_at (P := P) w base t ty e i z te.sz te.bytes ht hi hz hsz hby hzs hpos v n inner hown ad 0 cp [] (by simp) (by simp) (by simp) (by simp [maxLen] at *; omega) (by simpa using hb) hbase
      exact ⟨v', w', [], hr, h1, h2, h3, rfl⟩
  · obtain ⟨ad, hA, hes⟩ := hel h0
    subst hA
    obtain ⟨news, h1, h2⟩ := parts_of hes
    obtain ⟨v', w', hr, h3, h4, _, h5⟩ := run_append_own_at (P := P) w base t ty e i z te.sz te.bytes ht hi hz hsz hby hzs hpos v n inner hown ad ys.length cp news (by rw [Parts_len h1, hu]) h2 (Parts_one h1) (by simp [maxLen] at *; omega) hb hbase
    exact ⟨v', w', news, hr, h3, h4, h5, h1⟩

theorem blk_own {A : Option Addr} {n c : Nat} : blk (.slice A n c) = (Value.slice A n c).ownBlock := by cases A <;> rfl

theorem ownsRow_slice {w : World} {base : Nat} {e : TypeId} {size n : Nat} {v : Value} {xs : List Value} (h : w.ownsRow base e size v n xs) : ∃ A m c, v = .slice A m c := by
  rcases h.2 with ⟨h, _⟩ | ⟨g, cap, cur, h, _⟩
  · exact ⟨_, _, _, h⟩
  · exact ⟨_, _, _, h⟩

theorem ownsRow_blk {w : World} {base : Nat} {e : TypeId} {size n : Nat} {v : Value} {xs : List Value} (h : w.ownsRow base e size v n xs) : blk v = v.ownBlock := by
  obtain ⟨A, m, c, rfl⟩ := ownsRow_slice h
  exact blk_own

theorem src_elems {S0 : Nat → Prop} {w0 : World} {nt : Nat} {μ : Nat → Value} {FS : Nat → Option Lv} {a : Act} {w : World} (h : Sim S0 w0 nt μ FS a w) {c : Cell} {v : Value} (hs : SeesIds st FS (cellIds [c])) (hc : CellRel μ (live S0 μ FS) w c v) {u : Ty}
    {p : (t : Ty) × List t.den} (he : srcRow st u c = some p) :
    ∃ A cp, v = .slice A p.2.length cp ∧ (0 < p.2.length → ∃ ad, A = some ad ∧ ∀ (i : Nat) (hi : i < p.2.length), ∃ es, Rd (live S0 μ FS) w p.1 (p.2[i]'hi) es ∧ At w (ad.add (i * p.1.sz)) es) := by
  unfold srcRow at he
  split at he
  · injection he with he
    subst he
    exact ⟨none, 0, hc, fun hp => by simp at hp⟩
  · obtain ⟨A, cp, h1, _, h2⟩ := rowCell_elems h hs hc he
    exact ⟨A, cp, h1, h2⟩

theorem run_append2 {c : Call} {x y : Operand} (hc : c.callee = .builtin .append) (ha : c.args.toList = [x, y]) {t : TypeId} (hat : c.argTypes.toList = [t, t]) {a : Act} {o : Oper} (ho : o.op = .call c) {w w' : World} {v' : Value}
    (h : (Builtin.append_ #[t, t] o.type #[a.eval x, a.eval y]).run P w = .ok v' w') : (execOp a.eval o).run P w = .ok (.value v') w' := by
  obtain ⟨cs, hr⟩ := run_args2 (P := P) hc ha ho w
  have hty : c.argTypes = #[t, t] := by apply Array.ext'; exact hat
  rw [hr, hty]
  simp only [builtin, Sem.run_bind, h, Result.andThen_ok, Sem.run_pure]

theorem ok_append_nil {t e : TypeId} {ti te : TI} (hT : TOK P t ti) (hk : ti.k = .slice e) (hE : TOK P e te) {c : Call} {x y : Operand} (hc : c.callee = .builtin .append) (ha : c.args.toList = [x, y]) (hat : c.argTypes.toList = [t, t])
    (hx : evC st x = some .nil) {b : Cell} (hy : evC st y = some b) {ys : List te.ty.den} (hrow : srcRow st te.ty b = some ⟨te.ty, ys⟩) {n : Nat} (hf : fresh st n = true)
    (h63 : ys.length ≤ 9223372036854775807) (hb : ys.length * te.bytes ≤ 140737488355328) : StepOK P (.call c) st (some n) (.f (.c (.own n))) [(2 * n + 1, .row e te.ty ys)] := by
  intro S0 w0 nt μ FS a w o ho hs hfr hsim next Q hn
  obtain ⟨m1, m2⟩ := mem_args2 hc ha
  have hfs := hfr n rfl hf (by simp)
  have h1 : a.eval x = .slice none 0 0 := evC_rel hsim (sees_of hs m1) hx
  have hids := seesIds_of hs (x := y) m2 (evC_evO hy)
  obtain ⟨A, cp, h2, h3⟩ := src_elems hsim (by simpa [tvIds, Fl.cells] using hids) (evC_rel hsim (sees_of hs m2) hy) hrow
  obtain ⟨v', w', news, hr, h4, h5, h6, h7⟩ := append_run hT hk hE (u := te.ty) hE.size.symm (v := .slice none 0 0) (World.ownsRow_nil w w.heap.size e te.sz) (Nat.le_refl _) h2 h3 (by simpa using h63) (by simpa using hb) o.type
  rw [← h1] at hr
  have hbel : Below w.heap.size w w' := ⟨h5.os, h5.tape, h5.output, h5.size, fun k hk => h5.block k hk (by simp [Value.ownBlock])⟩
  have hv : ∀ k, blk v' = some k → w.heap.size ≤ k := fun k hk => by
    rw [ownsRow_blk h4] at hk
    rcases h6 with h6 | h6
    · rw [h6] at hk; cases hk
    · rw [h6] at hk; injection hk with hk; omega
  have hmv : Parts (live S0 (upd μ n v') (over [(2 * n + 1, Lv.row e te.ty ys)] FS)) w' te.ty ys news := Parts.move ⟨hbel.size, fun k hk _ => hbel.block k hk⟩ (live_new hsim (new_old (n := n)) hv) h7
  have hn' : upd μ n v' n = v' := by unfold upd; rw [if_pos rfl]
  have hsim' := hsim.made hfs (lv := .row e te.ty ys) (v := v') new_even (new_old (n := n)) new_self hbel hv ⟨news, by
    rw [hn']
    have h4' := h4
    rw [Nat.zero_add, List.nil_append, hE.size] at h4'
    refine ⟨h4'.1, ?_⟩
    rcases h4'.2 with h | ⟨g, cap, cur, h, hge, r⟩
    · exact .inl h
    · exact .inr ⟨g, cap, cur, h, Nat.le_trans hsim.below.size hge, r⟩, hmv, h63⟩
  refine step_of_run (run_append2 hc ha hat ho hr) (hn v' w' _ hsim' ⟨hn'.symm, ?_⟩)
  exact ownsRow_slice h4

theorem ok_append_own {t e : TypeId} {ti te : TI} (hT : TOK P t ti) (hk : ti.k = .slice e) (hE : TOK P e te) {c : Call} {x y : Operand} (hc : c.callee = .builtin .append) (ha : c.args.toList = [x, y]) (hat : c.argTypes.toList = [t, t])
    {id : Nat} (hx : evC st x = some (.own id)) {xs : List te.ty.den} (hlx : look st (2 * id + 1) = some (.row e te.ty xs)) {b : Cell} (hy : evC st y = some b) {ys : List te.ty.den} (hrow : srcRow st te.ty b = some ⟨te.ty, ys⟩) {n : Nat} (hf : fresh st n = true)
    (h63 : xs.length + ys.length ≤ 9223372036854775807) (hb : (xs.length + ys.length) * te.bytes ≤ 140737488355328) :
    StepOK P (.call c) st (some n) (.f (.c (.own n))) [(2 * n + 1, .row e te.ty (xs ++ ys)), (2 * id + 1, .gone)] := by
  intro S0 w0 nt μ FS a w o ho hs hfr hsim next Q hn
  obtain ⟨m1, m2⟩ := mem_args2 hc ha
  have hfs := hfr n rfl hf (by simp)
  have h1 : a.eval x = μ id := (evC_rel hsim (sees_of hs m1) hx).1
  have hidx := seesIds_of hs (x := x) m1 (evC_evO hx) id (by simp [tvIds, Fl.cells, cellIds, Cell.id?])
  have hFS : FS (2 * id + 1) = some (.row e te.ty xs) := hidx.trans hlx
  have hne : id ≠ n := fun e' => by
    subst e'
    rw [hfs.1] at hFS
    cases hFS
  have hids := seesIds_of hs (x := y) m2 (evC_evO hy)
  obtain ⟨A, cp, h2, h3⟩ := src_elems hsim (by simpa [tvIds, Fl.cells] using hids) (evC_rel hsim (sees_of hs m2) hy) hrow
  obtain ⟨inner, ho1, ho2, ho3⟩ := hsim.obj id _ hFS
  rw [← hE.size] at ho1
  obtain ⟨v', w', news, hr, h4, h5, h6, h7⟩ := append_run hT hk hE (u := te.ty) hE.size.symm ho1 hsim.below.size h2 h3 h63 hb o.type
  rw [← h1] at hr
  have hob := ownsRow_blk ho1
  have hvb := ownsRow_blk h4
  have look1 : ∀ l, over [(2 * n + 1, Lv.row e te.ty (xs ++ ys)), (2 * id + 1, Lv.gone)] FS l = if l = 2 * n + 1 then some (.row e te.ty (xs ++ ys)) else if l = 2 * id + 1 then some .gone else FS l := fun l => by
    unfold over
    rw [look_cons, look_cons]
    by_cases e1 : l = 2 * n + 1
    · rw [if_pos e1, if_pos e1]
    · rw [if_neg e1, if_neg e1]
      by_cases e2 : l = 2 * id + 1
      · rw [if_pos e2, if_pos e2]
      · rw [if_neg e2, if_neg e2]
        rfl
  have surv : ∀ i z, i ≠ n → over [(2 * n + 1, Lv.row e te.ty (xs ++ ys)), (2 * id + 1, Lv.gone)] FS (2 * i + 1) = some z → z.isObj = true → i ≠ id ∧ FS (2 * i + 1) = some z := by
    intro i z hin hz hzo
    rw [look1, if_neg (by omega)] at hz
    by_cases e2 : i = id
    · rw [if_pos (by omega)] at hz
      injection hz with hz
      subst hz
      cases hzo
    · rw [if_neg (by omega)] at hz
      exact ⟨e2, hz⟩
  have hlive : ∀ k, (μ id).ownBlock = some k → live S0 μ FS k := fun k hk => .inr ⟨id, _, hFS, rfl, by rw [hob]; exact hk⟩
  have hlt : ∀ k, (μ id).ownBlock = some k → w0.heap.size ≤ k ∧ k < w.heap.size := fun k hk => (hsim.obj id _ hFS).lt rfl (by rw [hob]; exact hk)
  have hag : Agree (live S0 μ FS) w w' := ⟨h5.size, fun k hk hn => h5.block k hk (fun e' => hn (hlive k e'.symm))⟩
  have hn' : upd μ n v' n = v' := by unfold upd; rw [if_pos rfl]
  have hlv : ∀ k, k < w.heap.size → live S0 (upd μ n v') (over [(2 * n + 1, Lv.row e te.ty (xs ++ ys)), (2 * id + 1, Lv.gone)] FS) k → live S0 μ FS k := by
    rintro k hk (hl | ⟨i, z, hz, hzo, hzb⟩)
    · exact .inl hl
    · by_cases ei : i = n
      · subst ei
        rw [hn', hvb] at hzb
        rcases h6 with h6 | h6
        · exact hlive k (by rw [← h6]; exact hzb)
        · rw [h6] at hzb
          injection hzb with hzb
          omega
      · obtain ⟨_, h8⟩ := surv i z ei hz hzo
        unfold upd at hzb
        rw [if_neg ei] at hzb
        exact .inr ⟨i, z, h8, hzo, hzb⟩
  have hsim' := hsim.gen n (.row e te.ty (xs ++ ys)) (over [(2 * n + 1, Lv.row e te.ty (xs ++ ys)), (2 * id + 1, Lv.gone)] FS) (upd μ n v') w'
    (fun s => by rw [look1, if_neg (by omega), if_neg (by omega)]) (fun i hi => by
      rw [look1, if_neg (by omega)]
      by_cases e2 : i = id
      · exact .inr (by rw [if_pos (by omega)])
      · exact .inl (by rw [if_neg (by omega)])) (by rw [look1, if_pos rfl])
    (fun l z hl => upd_agree (hfs.2 l z hl)) (fun i z hi _ => by unfold upd; rw [if_neg hi]) hag
    (hsim.below.grown h5 hsim.below.size (fun k hk => (hlt k hk).1))
    (fun i z k hi hz hzo hk => by
      obtain ⟨h8, h9⟩ := surv i z hi hz hzo
      refine h5.block k ((hsim.obj i z h9).lt hzo hk).2 (fun e' => ?_)
      exact hsim.inj i id z _ k h9 hFS hzo rfl h8 hk (by rw [hob]; exact e'.symm))
    (fun k hk hlt => by
      rw [hn', hvb] at hk
      rcases h6 with h6 | h6
      · exact hlive k (by rw [← h6]; exact hk)
      · rw [h6] at hk
        injection hk with hk
        omega)
    (fun i z k hi hz hzo hk hk' => by
      obtain ⟨h8, h9⟩ := surv i z hi hz hzo
      rw [hn', hvb] at hk
      rcases h6 with h6 | h6
      · exact hsim.inj i id z _ k h9 hFS hzo rfl h8 hk' (by rw [hob, ← h6]; exact hk)
      · rw [h6] at hk
        injection hk with hk
        have := ((hsim.obj i z h9).lt hzo hk').2
        omega)
    ⟨inner ++ news, by
      rw [hn', List.length_append, ← hE.size]
      exact h4, Parts_append (Parts.move hag hlv ho2) (Parts.move hag hlv h7), by rw [List.length_append]; exact h63⟩
  exact step_of_run (run_append2 hc ha hat ho hr) (hn v' w' _ hsim' ⟨hn'.symm, ownsRow_slice h4⟩)

end Go.Ab
