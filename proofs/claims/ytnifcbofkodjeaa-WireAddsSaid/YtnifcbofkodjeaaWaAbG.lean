/- Fields, elements, pieces, numbers, texts. -/
import Derived.Test.YtnifcbofkodjeaaWaAbF
import Derived.Laws.BytesArg
import Derived.Lib.Strings
set_option linter.unusedVariables false
set_option linter.unusedSimpArgs false
namespace Go.Ab
open Go.RowKit

variable {P : Program} {T : Nat → Option TI} {st : St} {new : Option Nat}

theorem struct_desc {t : TypeId} {ti : TI} (hT : TOK P t ti) {fs : List (Nat × TypeId)} (hk : ti.k = .struct fs) : ∃ fields : Array Field, P.underlying t = some (.struct fields) ∧ (∀ (j : Nat) (p : Nat × TypeId), fs[j]? = some p → ∃ f : Field, fields[j]? = some f ∧ f.offset = p.1 ∧ f.type = p.2) ∧ fields.size = fs.length := by
  obtain ⟨d, hd, hkd⟩ := hT.desc
  unfold KOK at hkd
  rw [hk] at hkd
  obtain ⟨fields, rfl, hf, _⟩ := hkd
  refine ⟨fields, hd, fun j p hp => ?_, ?_⟩
  · rw [← hf, List.getElem?_map] at hp
    cases hfj : fields.toList[j]? with
    | none => rw [hfj] at hp; cases hp
    | some f =>
      rw [hfj] at hp
      injection hp with hp
      subst hp
      exact ⟨f, by simpa using hfj, rfl, rfl⟩
  · rw [← hf, List.length_map, Array.length_toList]

theorem slice_desc {t : TypeId} {ti : TI} (hT : TOK P t ti) {e : TypeId} (hk : ti.k = .slice e) : P.underlying t = some (.slice e) := by
  obtain ⟨d, hd, hkd⟩ := hT.desc
  unfold KOK at hkd
  rw [hk] at hkd
  rw [hd, hkd]

theorem array_desc {t : TypeId} {ti : TI} (hT : TOK P t ti) {n : Nat} {e : TypeId} (hk : ti.k = .array n e) : P.underlying t = some (.array n e) := by
  obtain ⟨d, hd, hkd⟩ := hT.desc
  unfold KOK at hkd
  rw [hk] at hkd
  rw [hd, hkd]

theorem one_desc {t : TypeId} {ti : TI} (hT : TOK P t ti) (hk : ti.k = .one) : (∀ k, ti.ty = .int k → P.underlying t = some (.int k)) ∧ (ti.ty = .bool → P.underlying t = some .bool) ∧ (ti.ty = .str → P.underlying t = some .string) := by
  obtain ⟨d, hd, hkd⟩ := hT.desc
  unfold KOK at hkd
  rw [hk] at hkd
  refine ⟨fun k h => ?_, fun h => ?_, fun h => ?_⟩ <;> rw [h] at hkd <;> rw [hd, hkd]

theorem run_fieldAt {s : TypeId} {fields : Array Field} (hd : P.underlying s = some (.struct fields)) {j : Nat} {f : Field} (hf : fields[j]? = some f) {ft : TI} (hT : TOK P f.type ft) (hz : ft.sz ≠ 0) (ad : Addr) (w : World) :
    (Instr.fieldAt s (.pointer (some ad)) j).run P w = .ok (.pointer (some (ad.add f.offset))) w := by
  unfold Instr.fieldAt
  simp only [Sem.run_bind, run_underlying hd, Result.andThen_ok, hf, Instr.sureAddr, Sem.run_pure, fieldPlace, run_sizeOf hT, hz, if_false]

theorem ok_fieldAddr_ptr {s : TypeId} {si ti : TI} {fs : List (Nat × TypeId)} (hS : TOK P s si) (hk : si.k = .struct fs) {x : Operand} {j : Nat} {fd : Nat × TypeId} (hf : fs[j]? = some fd) (hT : TOK P fd.2 ti) (hz : ti.sz ≠ 0) {id off : Nat}
    (hx : evC st x = some (.ptr id off)) : StepOK P (.fieldAddr s x j) st new (.f (.c (.ptr id (off + fd.1)))) [] :=
  stepOK_pure fun S0 w0 nt μ FS a w o ho hs hsim => by
    obtain ⟨g, h1, h2⟩ := evC_rel hsim (sees_of hs (by simp [Op.operands])) hx
    obtain ⟨fields, hd, hfs, _⟩ := struct_desc hS hk
    obtain ⟨f, h3, h4, h5⟩ := hfs j fd hf
    rw [← h5] at hT
    refine ⟨.pointer (some ⟨g, off + fd.1, none⟩), ?_, g, h1, rfl⟩
    unfold execOp
    rw [ho]
    simp only [h2, Sem.run_bind, run_fieldAt hd h3 hT hz, Result.andThen_ok, Sem.run_pure, add_plain, h4]

theorem ok_fieldAddr_own {s : TypeId} {si ti : TI} {fs : List (Nat × TypeId)} (hS : TOK P s si) (hk : si.k = .struct fs) {x : Operand} {j : Nat} {fd : Nat × TypeId} (hf : fs[j]? = some fd) (hT : TOK P fd.2 ti) (hz : ti.sz ≠ 0) {id i off z : Nat}
    (hx : evC st x = some (.eptr id i off z)) : StepOK P (.fieldAddr s x j) st new (.f (.c (.eptr id i (off + fd.1) z))) [] :=
  stepOK_pure fun S0 w0 nt μ FS a w o ho hs hsim => by
    obtain ⟨g, n, c, h1, h2⟩ := evC_rel hsim (sees_of hs (by simp [Op.operands])) hx
    obtain ⟨fields, hd, hfs, _⟩ := struct_desc hS hk
    obtain ⟨f, h3, h4, h5⟩ := hfs j fd hf
    rw [← h5] at hT
    refine ⟨.pointer (some ⟨g, i * z + (off + fd.1), none⟩), ?_, g, n, c, h1, rfl⟩
    unfold execOp
    rw [ho]
    simp only [h2, Sem.run_bind, run_fieldAt hd h3 hT hz, Result.andThen_ok, Sem.run_pure, add_plain, h4, Nat.add_assoc]

theorem proj_rd {S : Nat → Prop} {w : World} : ∀ (n j : Nat) (t : Ty) {x : t.den} {r : Nat × (u : Ty) × u.den} {es : List Value}, proj j n t x = some r → Rd S w t x es → ∃ e1 e2 e3, es = e1 ++ e2 ++ e3 ∧ e1.length = r.1 ∧ Rd S w r.2.1 r.2.2 e2
  | 0, j, t, x, r, es, h, _ => by cases j <;> cases h
  | 1, 0, t, x, r, es, h, hr => by
    injection h with h
    subst h
    exact ⟨[], es, [], by simp, rfl, hr⟩
  | 1, j + 1, t, x, r, es, h, _ => by cases t <;> cases h
  | n + 2, 0, .pair a b, x, r, es, h, ⟨c1, c2, hc, h1, h2⟩ => by
    injection h with h
    subst h
    exact ⟨[], c1, c2, by rw [hc]; rfl, rfl, h1⟩
  | n + 2, 0, .int _, x, r, es, h, _ => by cases h
  | n + 2, 0, .bool, x, r, es, h, _ => by cases h
  | n + 2, 0, .str, x, r, es, h, _ => by cases h
  | n + 2, 0, .sl _, x, r, es, h, _ => by cases h
  | n + 2, j + 1, .pair a b, x, r, es, h, ⟨c1, c2, hc, h1, h2⟩ => by
    simp only [proj] at h
    obtain ⟨r', h3, h⟩ := bind_some h
    injection h with h
    subst h
    obtain ⟨e1, e2, e3, he, hl, hr⟩ := proj_rd (n + 1) j b h3 h2
    exact ⟨c1 ++ e1, e2, e3, by rw [hc, he]; simp only [List.append_assoc], by rw [List.length_append, Rd_len h1, hl], hr⟩
  | n + 2, j + 1, .int _, x, r, es, h, _ => by cases h
  | n + 2, j + 1, .bool, x, r, es, h, _ => by cases h
  | n + 2, j + 1, .str, x, r, es, h, _ => by cases h
  | n + 2, j + 1, .sl _, x, r, es, h, _ => by cases h

theorem at_mid {w : World} {ad : Addr} {e1 e2 e3 : List Value} (h : At w ad (e1 ++ e2 ++ e3)) : At w (ad.add e1.length) e2 := by
  intro j v hv
  rw [add_add]
  refine h _ v ?_
  have hj : j < e2.length := by
    rcases Nat.lt_or_ge j e2.length with h | h
    · exact h
    · rw [List.getElem?_eq_none h] at hv; cases hv
  rw [List.append_assoc, List.getElem?_append_right (Nat.le_add_right _ _), Nat.add_sub_cancel_left, List.getElem?_append_left hj]
  exact hv

theorem ok_fieldAddr_ref {s : TypeId} {si ti : TI} {fs : List (Nat × TypeId)} (hS : TOK P s si) (hk : si.k = .struct fs) {x : Operand} {j : Nat} {fd : Nat × TypeId} (hf : fs[j]? = some fd) (hT : TOK P fd.2 ti) (hz : ti.sz ≠ 0) {t : Ty} {y : t.den}
    (hx : evC st x = some (.ref t y)) {r : Nat × (u : Ty) × u.den} (hr : proj j fs.length t y = some r) (ho' : r.1 = fd.1) : StepOK P (.fieldAddr s x j) st new (.f (.c (.ref r.2.1 r.2.2))) [] :=
  stepOK_pure fun S0 w0 nt μ FS a w o ho hs hsim => by
    obtain ⟨ad, es, h1, h2, h3, h4⟩ := evC_rel hsim (sees_of hs (by simp [Op.operands])) hx
    obtain ⟨fields, hd, hfs, _⟩ := struct_desc hS hk
    obtain ⟨f, h5, h6, h7⟩ := hfs j fd hf
    rw [← h7] at hT
    obtain ⟨e1, e2, e3, he, hl, hrd⟩ := proj_rd _ _ _ hr h2
    subst he
    refine ⟨.pointer (some (ad.add fd.1)), ?_, ad.add fd.1, e2, rfl, hrd, by rw [← ho', ← hl]; exact at_mid h3, by rw [add_block]; exact h4⟩
    unfold execOp
    rw [ho]
    simp only [h1, Sem.run_bind, run_fieldAt hd h5 hT hz, Result.andThen_ok, Sem.run_pure, h6]

theorem run_part {t : TypeId} {ti : TI} (hT : TOK P t ti) {μ : Nat → Value} {S : Nat → Prop} {w : World} {cs : List Cell} {off : Nat} {x : Fl} {vs : List Value} (hp : pick ti cs off = some x) (ha : AllRel μ S w cs vs) (w' : World) :
    ∃ v, (part t vs.toArray off).run P w' = .ok v w' ∧ FlRel μ S w x v := by
  unfold part
  rcases pick_rel hp ha with ⟨hk, hl, _, hr⟩ | ⟨hk, v, hv, hr, _⟩
  · refine ⟨_, ?_, hr⟩
    simp only [Sem.run_bind, run_isAgg hT, Result.andThen_ok, hk, if_true, run_sizeOf hT, Sem.run_pure]
    congr 2
    rw [List.extract_toArray, List.extract_eq_take_drop]
    congr 2
    omega
  · refine ⟨v, ?_, hr⟩
    simp only [Sem.run_bind, run_isAgg hT, Result.andThen_ok, hk, Bool.false_eq_true, if_false]
    rw [List.getElem?_toArray, hv]
    rfl

theorem ok_field {s : TypeId} {si ti : TI} {fs : List (Nat × TypeId)} (hS : TOK P s si) (hk : si.k = .struct fs) {x : Operand} {j : Nat} {fd : Nat × TypeId} (hf : fs[j]? = some fd) (hT : TOK P fd.2 ti) {cs : List Cell} (hx : evF st x = some (.agg cs)) {r : Fl}
    (hr : pick ti cs fd.1 = some r) : StepOK P (.field s x j) st new (.f r) [] :=
  stepOK_pure fun S0 w0 nt μ FS a w o ho hs hsim => by
    obtain ⟨vs, h1, h2⟩ := evF_rel hsim (sees_of hs (by simp [Op.operands])) hx
    obtain ⟨fields, hd, hfs, _⟩ := struct_desc hS hk
    obtain ⟨f, h3, h4, h5⟩ := hfs j fd hf
    obtain ⟨v, h6, h7⟩ := run_part hT hr h2 w
    refine ⟨v, ?_, h7⟩
    unfold execOp
    rw [ho]
    simp only [h1, Instr.field, Sem.run_bind, run_underlying hd, Result.andThen_ok, h3, asAgg, Sem.run_pure, h4, h5, h6]

theorem run_indexAt_slice {t e : TypeId} {te : TI} (hd : P.underlying t = some (.slice e)) (hT : TOK P e te) {k : IntKind} {i : Int} {ad : Addr} {n c : Nat} (h0 : 0 ≤ i) (h1 : i < n) (w : World) :
    (Instr.indexAt t (.slice (some ad) n c) (.int k i)).run P w = .ok (.pointer (some (ad.add (i.toNat * te.sz)))) w := by
  unfold Instr.indexAt
  simp only [asIntOf, Sem.run_bind, Sem.run_pure, Result.andThen_ok, run_underlying hd]
  rw [if_pos ⟨h0, h1⟩]
  simp only [Sem.run_bind, run_sizeOf hT, Result.andThen_ok, Sem.run_pure]

theorem ok_indexAddr_ro {t e : TypeId} {ti te : TI} (hT : TOK P t ti) (hk : ti.k = .slice e) (hE : TOK P e te) {x ix : Operand} {u : Ty} {xs : List u.den} {i : Int} (hx : evC st x = some (.v (.sl u) xs)) (hi : evI st ix = some i) (hsz : te.sz = u.sz) (h0 : 0 ≤ i) (h1 : i < (xs.length : Int)) :
    StepOK P (.indexAddr t x ix) st new (.f (.c (.ref u (xs.getD i.toNat u.dflt)))) [] :=
  stepOK_pure fun S0 w0 nt μ FS a w o ho hs hsim => by
    have hlt : i.toNat < xs.length := by omega
    obtain ⟨A, c, h2, h3, h4, h5⟩ := evC_rel hsim (sees_of hs (by simp [Op.operands])) hx
    obtain ⟨k, h6⟩ := evI_rel hsim (sees_of hs (by simp [Op.operands])) hi
    obtain ⟨ad, hA, h7, h8⟩ := h5 (show 0 < xs.length by omega)
    obtain ⟨es, h9, h10⟩ := h8 i.toNat hlt
    have hv : a.eval x = .slice A xs.length c := (List.cons.inj h2).1
    subst hA
    refine ⟨.pointer (some (ad.add (i.toNat * te.sz))), ?_, ad.add (i.toNat * te.sz), es, rfl, by rw [getD_eq hlt]; exact h9, by rw [hsz]; exact h10, by rw [add_block]; exact h7⟩
    unfold execOp
    rw [ho]
    simp only [hv, h6, Sem.run_bind, run_indexAt_slice (slice_desc hT hk) hE h0 h1, Result.andThen_ok, Sem.run_pure]

theorem ok_indexAddr_own {t e : TypeId} {ti te : TI} (hT : TOK P t ti) (hk : ti.k = .slice e) (hE : TOK P e te) {x ix : Operand} {id : Nat} {e' : TypeId} {u : Ty} {xs : List u.den} {i : Int} (hx : evC st x = some (.own id)) (hl : look st (2 * id + 1) = some (.row e' u xs)) (hi : evI st ix = some i)
    (hsz : te.sz = u.sz) (h0 : 0 ≤ i) (h1 : i < (xs.length : Int)) : StepOK P (.indexAddr t x ix) st new (.f (.c (.eptr id i.toNat 0 u.sz))) [] :=
  stepOK_pure fun S0 w0 nt μ FS a w o ho hs hsim => by
    obtain ⟨h2, _⟩ := evC_rel hsim (sees_of hs (by simp [Op.operands])) hx
    obtain ⟨k, h6⟩ := evI_rel hsim (sees_of hs (by simp [Op.operands])) hi
    have hid := seesIds_of hs (x := x) (by simp [Op.operands]) (evC_evO hx) id (by simp [tvIds, Fl.cells, cellIds, Cell.id?])
    obtain ⟨inner, h3, h4, h5⟩ := hsim.obj id _ (by rw [hid]; exact hl)
    rcases h3.2 with ⟨hv, hn⟩ | ⟨g, cap, cur, hv, _⟩
    · omega
    · refine ⟨.pointer (some ⟨g, i.toNat * u.sz + 0, none⟩), ?_, g, _, _, hv, rfl⟩
      unfold execOp
      rw [ho]
      simp only [h2, hv, h6, Sem.run_bind, run_indexAt_slice (slice_desc hT hk) hE h0 h1, Result.andThen_ok, Sem.run_pure, hsz, add_plain, Nat.zero_add, Nat.add_zero]

theorem ok_indexAddr_arr {t e : TypeId} {ti te : TI} {n : Nat} (hT : TOK P t ti) (hk : ti.k = .array n e) (hE : TOK P e te) {x ix : Operand} {id off : Nat} {i : Int} (hx : evC st x = some (.ptr id off)) (hi : evI st ix = some i) (h0 : 0 ≤ i) (h1 : i < (n : Int)) :
    StepOK P (.indexAddr t x ix) st new (.f (.c (.ptr id (off + i.toNat * te.sz)))) [] :=
  stepOK_pure fun S0 w0 nt μ FS a w o ho hs hsim => by
    obtain ⟨g, h2, h3⟩ := evC_rel hsim (sees_of hs (by simp [Op.operands])) hx
    obtain ⟨k, h6⟩ := evI_rel hsim (sees_of hs (by simp [Op.operands])) hi
    refine ⟨.pointer (some ⟨g, off + i.toNat * te.sz, none⟩), ?_, g, h2, rfl⟩
    unfold execOp
    rw [ho]
    simp only [h3, h6, Instr.indexAt, asIntOf, Sem.run_bind, Sem.run_pure, Result.andThen_ok, run_underlying (array_desc hT hk), Instr.sureAddr]
    rw [if_pos ⟨h0, h1⟩]
    simp only [Sem.run_bind, run_sizeOf hE, Result.andThen_ok, Sem.run_pure, add_plain]

theorem ok_index_str {t : TypeId} {ti : TI} (hT : TOK P t ti) (hk : ti.k = .one) (hty : ti.ty = .str) {x ix : Operand} {l : List UInt8} {i : Int} (hx : evF st x = some (.c (.v .str l))) (hi : evI st ix = some i) (h0 : 0 ≤ i) (h1 : i < (l.length : Int)) :
    StepOK P (.index t x ix) st new (.f (.c (.v (.int .u8) (((l.getD i.toNat 0).toNat : Nat) : Int)))) [] :=
  stepOK_pure fun S0 w0 nt μ FS a w o ho hs hsim => by
    have hlt : i.toNat < l.length := by omega
    have h2 : [a.eval x] = [.string ⟨l.toArray⟩] := evF_rel hsim (sees_of hs (by simp [Op.operands])) hx
    have hv := (List.cons.inj h2).1
    obtain ⟨k, h6⟩ := evI_rel hsim (sees_of hs (by simp [Op.operands])) hi
    refine ⟨_, ?_, rfl⟩
    unfold execOp
    rw [ho]
    simp only [hv, h6, Instr.index, asIntOf, Sem.run_bind, Sem.run_pure, Result.andThen_ok, run_underlying ((one_desc hT hk).2.2 hty), if_pos h0]
    have : (⟨l.toArray⟩ : ByteArray)[i.toNat]? = some (l[i.toNat]'hlt) := by
      rw [getElem?_pos (⟨l.toArray⟩ : ByteArray) i.toNat hlt]
      rfl
    rw [this, getD_eq hlt]
    rfl

theorem ok_index_arr {t e : TypeId} {ti te : TI} {n : Nat} (hT : TOK P t ti) (hk : ti.k = .array n e) (hE : TOK P e te) {x ix : Operand} {cs : List Cell} {i : Int} {r : Fl} (hx : evF st x = some (.agg cs)) (hi : evI st ix = some i) (h0 : 0 ≤ i) (h1 : i < (n : Int))
    (hr : pick te cs (i.toNat * te.sz) = some r) : StepOK P (.index t x ix) st new (.f r) [] :=
  stepOK_pure fun S0 w0 nt μ FS a w o ho hs hsim => by
    obtain ⟨vs, h2, h3⟩ := evF_rel hsim (sees_of hs (by simp [Op.operands])) hx
    obtain ⟨k, h6⟩ := evI_rel hsim (sees_of hs (by simp [Op.operands])) hi
    obtain ⟨v, h4, h5⟩ := run_part hE hr h3 w
    refine ⟨v, ?_, h5⟩
    unfold execOp
    rw [ho]
    simp only [h2, h6, Instr.index, asIntOf, Sem.run_bind, Sem.run_pure, Result.andThen_ok, run_underlying (array_desc hT hk)]
    rw [if_pos ⟨h0, h1⟩]
    simp only [Sem.run_bind, run_sizeOf hE, Result.andThen_ok, h4, Sem.run_pure]

/-! ### Pieces -/
theorem optI_rel {S0 : Nat → Prop} {w0 : World} {nt : Nat} {μ : Nat → Value} {FS : Nat → Option Lv} {a : Act} {w : World} (h : Sim S0 w0 nt μ FS a w) {o : Option Operand} {d n : Int} (hs : ∀ x, o = some x → Sees st FS x) (he : optI st o d = some n) :
    (o = none ∧ n = d) ∨ ∃ k, o.map a.eval = some (.int k n) := by
  cases o with
  | none =>
    injection he with he
    exact .inl ⟨rfl, he.symm⟩
  | some x =>
    obtain ⟨k, hk⟩ := evI_rel h (hs x rfl) he
    exact .inr ⟨k, by rw [Option.map_some, hk]⟩

theorem run_bounds {lo hi : Option Value} {n c : Nat} {p q : Int} (isSlice : Bool) (hlo : (lo = none ∧ p = 0) ∨ ∃ k, lo = some (.int k p)) (hhi : (hi = none ∧ q = (n : Int)) ∨ ∃ k, hi = some (.int k q)) (h0 : 0 ≤ p) (h1 : p ≤ q) (h2 : q ≤ n) (hc : n ≤ c) (w : World) :
    (Instr.sliceBounds isSlice n c lo hi none).run P w = .ok (p.toNat, q.toNat, c) w := by
  unfold Instr.sliceBounds
  have hb : ∀ (k : IntKind) (r : Int) (y : Nat) (code : BoundsCode), 0 ≤ r → r ≤ y → (Instr.sliceBound (.int k r) y code).run P w = .ok r.toNat w := by
    intro k r y code hr hy
    unfold Instr.sliceBound
    simp only [asIntOf, Sem.run_bind, Sem.run_pure, Result.andThen_ok]
    rw [if_pos ⟨hr, hy⟩]
    rfl
  rcases hhi with ⟨rfl, rfl⟩ | ⟨k, rfl⟩
  · rcases hlo with ⟨rfl, rfl⟩ | ⟨k', rfl⟩
    · simp [Sem.run_bind, Sem.run_pure, Result.andThen_ok]
    · simp only [Sem.run_bind, Sem.run_pure, Result.andThen_ok, hb k' p n _ h0 (by omega)]
      simp
  · rcases hlo with ⟨rfl, rfl⟩ | ⟨k', rfl⟩
    · simp only [Sem.run_bind, Sem.run_pure, Result.andThen_ok, hb k q c _ (by omega) (by omega)]
      simp
    · simp only [Sem.run_bind, Sem.run_pure, Result.andThen_ok, hb k q c _ (by omega) (by omega), hb k' p q.toNat _ h0 (by omega)]

theorem mem_lo {t : TypeId} {x y : Operand} {lo hi : Option Operand} (h : lo = some y) : y ∈ (Op.slice t x lo hi none).operands.toList := by
  subst h
  simp [Op.operands]
theorem mem_hi {t : TypeId} {x y : Operand} {lo hi : Option Operand} (h : hi = some y) : y ∈ (Op.slice t x lo hi none).operands.toList := by
  subst h
  simp [Op.operands]

theorem ok_slice_str {t : TypeId} {ti : TI} (hT : TOK P t ti) (hk : ti.k = .one) (hty : ti.ty = .str) {x : Operand} {lo hi : Option Operand} {l : List UInt8} {p q : Int} (hx : evC st x = some (.v .str l)) (hlo : optI st lo 0 = some p) (hhi : optI st hi (l.length : Int) = some q)
    (h0 : 0 ≤ p) (h1 : p ≤ q) (h2 : q ≤ (l.length : Int)) : StepOK P (.slice t x lo hi none) st new (.f (.c (.v .str ((l.take q.toNat).drop p.toNat)))) [] :=
  stepOK_pure fun S0 w0 nt μ FS a w o ho hs hsim => by
    have h3 : [a.eval x] = [.string ⟨l.toArray⟩] := evC_rel hsim (sees_of hs (by simp [Op.operands])) hx
    have hv := (List.cons.inj h3).1
    have e1 := optI_rel hsim (fun y hy => sees_of hs (mem_lo hy)) hlo
    have e2 := optI_rel hsim (fun y hy => sees_of hs (mem_hi hy)) hhi
    have f1 : (lo.map a.eval = none ∧ p = 0) ∨ ∃ k, lo.map a.eval = some (.int k p) := by rcases e1 with ⟨rfl, e⟩ | e; exact .inl ⟨rfl, e⟩; exact .inr e
    have f2 : (hi.map a.eval = none ∧ q = (l.length : Int)) ∨ ∃ k, hi.map a.eval = some (.int k q) := by rcases e2 with ⟨rfl, e⟩ | e; exact .inl ⟨rfl, e⟩; exact .inr e
    refine ⟨_, ?_, rfl⟩
    unfold execOp
    rw [ho]
    have hsz : (⟨l.toArray⟩ : ByteArray).size = l.length := rfl
    simp only [hv, Option.map_none, Instr.sliceAt, Instr.slice, Sem.run_bind, run_underlying ((one_desc hT hk).2.2 hty), Result.andThen_ok, Sem.run_pure, Option.isSome_none, Bool.false_eq_true, if_false, hsz, run_bounds (P := P) false f1 f2 h0 h1 h2 (Nat.le_refl _) w]
    congr 3
    have : ∀ s s' : ByteArray, s.data.toList = s'.data.toList → s = s' := fun s s' h => by
      cases s; cases s'
      simp only [ByteArray.mk.injEq]
      exact Array.ext' h
    apply this
    rw [Lib.extract_data]
    show (l.drop p.toNat).take (q.toNat - p.toNat) = (l.take q.toNat).drop p.toNat
    rw [List.drop_take]

theorem rd_piece {S : Nat → Prop} {w : World} {u : Ty} {xs : List u.den} {A : Option Addr} {c : Nat} (h : Rd S w (.sl u) xs [.slice A xs.length c]) {p q : Nat} (h1 : p ≤ q) (h2 : q ≤ xs.length) :
    Rd S w (.sl u) ((xs.take q).drop p) [.slice (if c = p then A else A.map (·.add (p * u.sz))) (q - p) (c - p)] := by
  obtain ⟨A', c', h3, h4, h5, h6⟩ := h
  have h3 := (List.cons.inj h3).1
  injection h3 with hA _ hc
  subst hA
  subst hc
  have hlen : ((xs.take q).drop p).length = q - p := by rw [List.length_drop, List.length_take]; omega
  refine ⟨_, c - p, by rw [hlen], by rw [hlen]; omega, by rw [hlen]; omega, fun hp => ?_⟩
  rw [hlen] at hp
  obtain ⟨ad, hA, hn, h7⟩ := h6 (show 0 < xs.length by omega)
  subst hA
  rw [if_neg (by omega)]
  refine ⟨ad.add (p * u.sz), rfl, by rw [add_block]; exact hn, fun i hi => ?_⟩
  have hi' : p + i < xs.length := by
    have hi : i < ((xs.take q).drop p).length := hi
    omega
  obtain ⟨es, h8, h9⟩ := h7 (p + i) hi'
  refine ⟨es, ?_, by rw [add_add, ← Nat.add_mul]; exact h9⟩
  have : ((xs.take q).drop p)[i]'hi = xs[p + i]'hi' := by
    rw [List.getElem_drop, List.getElem_take]
  rw [this]
  exact h8

theorem ok_slice_ro {t e : TypeId} {ti te : TI} (hT : TOK P t ti) (hk : ti.k = .slice e) (hE : TOK P e te) {x : Operand} {lo hi : Option Operand} {u : Ty} {xs : List u.den} {p q : Int} (hx : evC st x = some (.v (.sl u) xs)) (hlo : optI st lo 0 = some p) (hhi : optI st hi (xs.length : Int) = some q)
    (hsz : te.sz = u.sz) (h0 : 0 ≤ p) (h1 : p ≤ q) (h2 : q ≤ (xs.length : Int)) : StepOK P (.slice t x lo hi none) st new (.f (.c (.v (.sl u) ((xs.take q.toNat).drop p.toNat)))) [] :=
  stepOK_pure fun S0 w0 nt μ FS a w o ho hs hsim => by
    have h3 : Rd _ w (.sl u) xs [a.eval x] := evC_rel hsim (sees_of hs (by simp [Op.operands])) hx
    obtain ⟨A, c, h4, h5, _⟩ := id h3
    have hv := (List.cons.inj h4).1
    have e1 := optI_rel hsim (fun y hy => sees_of hs (mem_lo hy)) hlo
    have e2 := optI_rel hsim (fun y hy => sees_of hs (mem_hi hy)) hhi
    have f1 : (lo.map a.eval = none ∧ p = 0) ∨ ∃ k, lo.map a.eval = some (.int k p) := by rcases e1 with ⟨rfl, e⟩ | e; exact .inl ⟨rfl, e⟩; exact .inr e
    have f2 : (hi.map a.eval = none ∧ q = (xs.length : Int)) ∨ ∃ k, hi.map a.eval = some (.int k q) := by rcases e2 with ⟨rfl, e⟩ | e; exact .inl ⟨rfl, e⟩; exact .inr e
    rw [hv] at h3
    refine ⟨_, ?_, rd_piece h3 (p := p.toNat) (q := q.toNat) (by omega) (by omega)⟩
    unfold execOp
    rw [ho]
    simp only [hv, Option.map_none, Instr.sliceAt, Instr.slice, Sem.run_bind, run_underlying (slice_desc hT hk), Result.andThen_ok, Sem.run_pure, run_bounds (P := P) true f1 f2 h0 h1 h2 h5 w, run_sizeOf hE, hsz]

theorem ok_slice_own {t e : TypeId} {ti te : TI} (hT : TOK P t ti) (hk : ti.k = .slice e) (hE : TOK P e te) {x : Operand} {lo hi : Option Operand} {id : Nat} {e' : TypeId} {u : Ty} {xs : List u.den} {p q : Int} (hx : evC st x = some (.own id)) (hl : look st (2 * id + 1) = some (.row e' u xs))
    (hlo : optI st lo 0 = some p) (hhi : optI st hi (xs.length : Int) = some q) (hsz : te.sz = u.sz) (h0 : 0 ≤ p) (h1 : p ≤ q) (h2 : q ≤ (xs.length : Int)) :
    StepOK P (.slice t x lo hi none) st new (.f (.c (.v (.sl u) ((xs.take q.toNat).drop p.toNat)))) [(2 * id + 1, .gone)] := by
  intro S0 w0 nt μ FS a w o ho hs _ hsim next Q hn
  obtain ⟨hv, _⟩ := evC_rel hsim (sees_of hs (by simp [Op.operands])) hx
  have hid := seesIds_of hs (x := x) (by simp [Op.operands]) (evC_evO hx) id (by simp [tvIds, Fl.cells, cellIds, Cell.id?])
  have hFS : FS (2 * id + 1) = some (.row e' u xs) := by rw [hid]; exact hl
  have hsim' : Sim S0 w0 nt μ (over [(2 * id + 1, .gone)] FS) a w := hsim.gives new_even (fun i => by
    by_cases hi : i = id
    · subst hi; exact .inr new_self
    · exact new_old i hi)
  have hsub : ∀ k, live S0 μ (over [(2 * id + 1, .gone)] FS) k → live S0 μ FS k := fun k hk => live_same hFS rfl k hk
  have haway : ∀ k, blk (μ id) = some k → ¬ live S0 μ (over [(2 * id + 1, .gone)] FS) k := by
    rintro k hk (hl' | ⟨i, y, hy, hyo, hb⟩)
    · have := hsim.low k hl'
      have := ((hsim.obj id _ hFS).lt rfl hk).1
      omega
    · by_cases hi : i = id
      · subst hi
        rw [new_self] at hy
        injection hy with hy
        subst hy
        cases hyo
      · rw [over_one, if_neg (by omega)] at hy
        exact hsim.inj i id y _ k hy hFS hyo rfl hi hb hk
  have h3 := row_rd (hsim.obj id _ hFS) hsub haway
  rw [← hv] at h3
  have h3' := h3
  obtain ⟨A, c, h4, h5, _⟩ := h3'
  have hv' := (List.cons.inj h4).1
  have e1 := optI_rel hsim (fun y hy => sees_of hs (mem_lo hy)) hlo
  have e2 := optI_rel hsim (fun y hy => sees_of hs (mem_hi hy)) hhi
  have f1 : (lo.map a.eval = none ∧ p = 0) ∨ ∃ k, lo.map a.eval = some (.int k p) := by rcases e1 with ⟨rfl, e⟩ | e; exact .inl ⟨rfl, e⟩; exact .inr e
  have f2 : (hi.map a.eval = none ∧ q = (xs.length : Int)) ∨ ∃ k, hi.map a.eval = some (.int k q) := by rcases e2 with ⟨rfl, e⟩ | e; exact .inl ⟨rfl, e⟩; exact .inr e
  rw [hv'] at h3
  refine step_of_run ?_ (hn _ _ μ hsim' (show TVRel _ _ _ (.f (.c (.v (.sl u) _))) _ from rd_piece h3 (p := p.toNat) (q := q.toNat) (by omega) (by omega)))
  unfold execOp
  rw [ho]
  simp only [hv', Option.map_none, Instr.sliceAt, Instr.slice, Sem.run_bind, run_underlying (slice_desc hT hk), Result.andThen_ok, Sem.run_pure, run_bounds (P := P) true f1 f2 h0 h1 h2 h5 w, run_sizeOf hE, hsz]

theorem ok_slice_osl {t e : TypeId} {ti te : TI} (hT : TOK P t ti) (hk : ti.k = .slice e) (hE : TOK P e te) {x : Operand} {lo : Option Operand} {id : Nat} {e' : TypeId} {u : Ty} {xs : List u.den} {p : Int} (hx : evC st x = some (.own id)) (hl : look st (2 * id + 1) = some (.row e' u xs))
    (hlo : optI st lo 0 = some p) (hsz : te.sz = u.sz) (h0 : 0 ≤ p) (h1 : p ≤ (xs.length : Int)) :
    StepOK P (.slice t x lo none none) st new (.f (.c (.osl id p.toNat u.sz))) [] :=
  stepOK_pure fun S0 w0 nt μ FS a w o ho hs hsim => by
    obtain ⟨hv, _⟩ := evC_rel hsim (sees_of hs (by simp [Op.operands])) hx
    have hid := seesIds_of hs (x := x) (by simp [Op.operands]) (evC_evO hx) id (by simp [tvIds, Fl.cells, cellIds, Cell.id?])
    have hFS : FS (2 * id + 1) = some (.row e' u xs) := by rw [hid]; exact hl
    obtain ⟨inner, h2, h3, h4⟩ := hsim.obj id _ hFS
    have e1 := optI_rel hsim (fun y hy => sees_of hs (mem_lo hy)) hlo
    have f1 : (lo.map a.eval = none ∧ p = 0) ∨ ∃ k, lo.map a.eval = some (.int k p) := by rcases e1 with ⟨rfl, e⟩ | e; exact .inl ⟨rfl, e⟩; exact .inr e
    rcases h2.2 with ⟨h5, h6⟩ | ⟨g, cap, cur, h5, _, h6, h7, h8, _⟩
    · have hp : p = 0 := by omega
      subst hp
      refine ⟨.slice none 0 0, ?_, .inr ⟨h5, rfl⟩⟩
      have hb := run_bounds (P := P) (n := 0) (c := 0) (q := 0) true f1 (.inl ⟨rfl, rfl⟩) h0 (Int.le_refl _) (Int.le_refl _) (Nat.le_refl _) w
      unfold execOp
      rw [ho]
      simp only [hv, h5, Option.map_none, Instr.sliceAt, Instr.slice, Sem.run_bind, run_underlying (slice_desc hT hk), Result.andThen_ok, Sem.run_pure, hb, run_sizeOf hE, hsz]
      rfl
    · refine ⟨.slice (some (if cap = p.toNat then ⟨g, 0, none⟩ else (⟨g, 0, none⟩ : Addr).add (p.toNat * u.sz))) (xs.length - p.toNat) (cap - p.toNat), ?_, .inl ⟨g, xs.length, cap, if cap = p.toNat then 0 else p.toNat * u.sz, h5, ?_, fun hne => by rw [if_neg (fun e => hne e.symm)]⟩⟩
      · have hb := run_bounds (P := P) (n := xs.length) (c := cap) (q := xs.length) true f1 (.inl ⟨rfl, rfl⟩) h0 h1 (Int.le_refl _) h7 w
        unfold execOp
        rw [ho]
        simp only [hv, h5, Option.map_none, Instr.sliceAt, Instr.slice, Sem.run_bind, run_underlying (slice_desc hT hk), Result.andThen_ok, Sem.run_pure, hb, run_sizeOf hE, hsz, Int.toNat_natCast]
        by_cases e : cap = p.toNat
        · rw [if_pos e, if_pos e]
        · rw [if_neg e, if_neg e]
          rfl
      · by_cases e : cap = p.toNat
        · rw [if_pos e, if_pos e]
        · rw [if_neg e, if_neg e, add_plain, Nat.zero_add]

theorem ok_slice_arr {t e : TypeId} {ti te : TI} {n : Nat} (hT : TOK P t ti) (hk : ti.k = .array n e) (hE : TOK P e te) {x : Operand} {id off : Nat} (hx : evC st x = some (.ptr id off)) : StepOK P (.slice t x none none none) st new (.f (.c (.asl id off n))) [] :=
  stepOK_pure fun S0 w0 nt μ FS a w o ho hs hsim => by
    obtain ⟨g, h1, h2⟩ := evC_rel hsim (sees_of hs (by simp [Op.operands])) hx
    refine ⟨.slice (some ⟨g, off, none⟩) n n, ?_, g, h1, rfl⟩
    have hb := run_bounds (P := P) (n := n) (c := n) (p := 0) (q := n) false (lo := none) (hi := none) (.inl ⟨rfl, rfl⟩) (.inl ⟨rfl, rfl⟩) (Int.le_refl _) (by omega) (Int.le_refl _) (Nat.le_refl _) w
    unfold execOp
    rw [ho]
    simp only [h2, Option.map_none, Instr.sliceAt, Instr.sureAddr, Sem.run_bind, run_underlying (array_desc hT hk), Result.andThen_ok, Sem.run_pure, hb, run_sizeOf hE, Int.toNat_natCast, Int.toNat_zero, Nat.zero_mul, Nat.sub_zero]
    by_cases e : n = 0
    · rw [if_pos e]
    · rw [if_neg e]
      rfl

theorem ok_extract {x : Operand} {j : Nat} {l : List Fl} {y : Fl} (hx : evO st x = some (.tup l)) (hj : l[j]? = some y) : StepOK P (.extract x j) st new (.f y) [] :=
  stepOK_pure fun S0 w0 nt μ FS a w o ho hs hsim => by
    obtain ⟨vs, h1, h2⟩ := evO_rel hsim (sees_of hs (by simp [Op.operands])) hx
    have key : ∀ (j : Nat) {l : List Fl} {vs : List Value} {y : Fl}, FlsRel μ (live S0 μ FS) w l vs → l[j]? = some y → ∃ v, vs[j]? = some v ∧ FlRel μ (live S0 μ FS) w y v := by
      intro j
      induction j with
      | zero =>
        intro l vs y h hj
        cases l with
        | nil => cases hj
        | cons z l =>
          obtain ⟨v, r, hv, h1, _⟩ := h
          subst hv
          simp at hj
          subst hj
          exact ⟨v, rfl, h1⟩
      | succ j ih =>
        intro l vs y h hj
        cases l with
        | nil => cases hj
        | cons z l =>
          obtain ⟨v, r, hv, _, h2⟩ := h
          subst hv
          exact ih h2 (by simpa using hj)
    obtain ⟨v, h3, h4⟩ := key j h2 hj
    refine ⟨v, ?_, h4⟩
    unfold execOp
    rw [ho]
    simp only [h1, Instr.extract, List.getElem?_toArray, h3, Sem.run_bind, Sem.run_pure, Result.andThen_ok]

end Go.Ab
