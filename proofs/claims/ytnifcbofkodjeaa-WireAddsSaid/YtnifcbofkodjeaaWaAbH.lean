/- Numbers, texts, comparisons, conversions; lengths; calls. -/
import Derived.Test.YtnifcbofkodjeaaWaAbG
import Derived.Laws.StructEq
set_option linter.unusedVariables false
set_option linter.unusedSimpArgs false
namespace Go.Ab
open Go.RowKit

variable {P : Program} {T : Nat → Option TI} {st : St} {new : Option Nat}

theorem toList_mk (l : List UInt8) : (⟨l.toArray⟩ : ByteArray).toList = l := by rw [ByteArray.toList_eq]

theorem intOp_run {op : BinOp} {k : IntKind} {a b : Int} {c : Cell} (h : intOp op k a b = some c) (t : TypeId) (w : World) : ∃ v, (binOp op t (.int k a) (.int k b)).run P w = .ok v w ∧ ∀ μ S, CellRel μ S w c v := by
  unfold intOp at h
  cases op <;> first
    | (cases h; done)
    | (injection h with h
       subst h
       simp only [binOp, Op.intArith, Op.intBits, Op.intCmp, ne_eq, not_true_eq_false, if_false]
       exact ⟨_, rfl, fun _ _ => rfl⟩)

theorem eqGuard_str (op : BinOp) (t : TypeId) (x y : Operand) (a b : ByteArray) : eqGuard op t x y (.string a) (.string b) = pure () := by cases op <;> rfl

theorem strOp_ok {R : Type} {op : BinOp} {a b : List UInt8} {K : Cell → Option R} {r : R} (h : strOp op a b K = some r) (t : TypeId) : ∃ c, K c = some r ∧ ∀ w : World, ∃ v, (binOp op t (.string ⟨a.toArray⟩) (.string ⟨b.toArray⟩)).run P w = .ok v w ∧ ∀ μ S, CellRel μ S w c v := by
  unfold strOp at h
  cases op <;> first
    | (cases h; done)
    | (obtain ⟨h1, h⟩ := chk_some h
       refine ⟨_, h, fun w => ⟨.string ⟨(a ++ b).toArray⟩, ?_, fun _ _ => rfl⟩⟩
       have h1 := of_decide_eq_true h1
       have hs : ∀ l : List UInt8, (⟨l.toArray⟩ : ByteArray).size = l.length := fun _ => rfl
       have hap : (⟨a.toArray⟩ ++ ⟨b.toArray⟩ : ByteArray) = ⟨(a ++ b).toArray⟩ := by
         apply ByteArray.ext
         rw [ByteArray.data_append]
         simp
       simp only [binOp, Op.stringOp, hs]
       rw [if_neg (by simp [IntKind.max, IntKind.signed, IntKind.bits]; omega), hap]
       rfl)
    | (refine ⟨_, h, fun w => ?_⟩
       simp only [binOp, Op.stringOp, toList_mk]
       exact ⟨_, rfl, fun _ _ => rfl⟩)

theorem eqFields_run (hTS : TypesOK P T) {μ : Nat → Value} {S : Nat → Prop} {w : World} {xs ys : List Value} (d : Nat) : ∀ (fields : List Field) (i : Nat) {cs ds : List Cell} {b : Bool},
    (∀ f ∈ fields, f.name ≠ "_") → AllRel μ S w cs (xs.drop i) → AllRel μ S w ds (ys.drop i) → eqCells T (fields.map fun f => (f.offset, f.type)) i cs ds = some b →
    (Op.eqFields (d + 1) xs.toArray ys.toArray fields).run P w = .ok b w
  | [], i, cs, ds, b, _, _, _, he => by
    cases cs <;> cases ds <;> first | (cases he; done) | (injection he with he; subst he; rfl)
  | f :: fields, i, cs, ds, b, hn, hx, hy, he => by
    cases cs with
    | nil => cases he
    | cons c cs =>
      cases ds with
      | nil => cases c <;> cases he
      | cons c' ds =>
        cases c with
        | v t x =>
          cases c' with
          | v t' y =>
            obtain ⟨u, r, hu, hc, hcs⟩ := hx
            obtain ⟨u', r', hu', hc', hds⟩ := hy
            have hc : Rd S w t x [u] := hc
            have hc' : Rd S w t' y [u'] := hc'
            obtain ⟨ti, hT, he⟩ := bind_some (show (T f.type).bind _ = some b from he)
            have hTT := hTS _ _ hT
            have hcond : (Nat.beq f.offset i && ti.k.isOne) = true := by
              cases hb : (Nat.beq f.offset i && ti.k.isOne) with
              | true => rfl
              | false => rw [hb] at he; cases he
            rw [hcond] at he
            simp only [Bool.and_eq_true] at hcond
            have ho : f.offset = i := Nat.eq_of_beq_eq_true hcond.1
            have hk : ti.k = .one := by
              cases hk : ti.k <;> rw [hk] at hcond <;> first | rfl | cases hcond.2
            have hone := one_desc hTT hk
            have hxi : xs[i]? = some u := by
              have : (xs.drop i)[0]? = some u := by rw [hu]; rfl
              rwa [List.getElem?_drop, Nat.add_zero] at this
            have hyi : ys[i]? = some u' := by
              have : (ys.drop i)[0]? = some u' := by rw [hu']; rfl
              rwa [List.getElem?_drop, Nat.add_zero] at this
            have hr : r = xs.drop (i + 1) := by rw [← List.tail_drop, hu]; rfl
            have hr' : r' = ys.drop (i + 1) := by rw [← List.tail_drop, hu']; rfl
            have hpart : ∀ (zs : List Value) (z : Value), zs[i]? = some z → (part f.type zs.toArray f.offset).run P w = .ok z w := by
              intro zs z hz
              unfold part
              have hagg : ti.k.agg = false := by rw [hk]; rfl
              simp only [Sem.run_bind, run_isAgg hTT, Result.andThen_ok, hagg, Bool.false_eq_true, if_false]
              rw [List.getElem?_toArray, ho, hz]
              rfl
            have fin : ∀ e b', (Op.equalIn (d + 1) f.type u u').run P w = .ok e w → eqCells T (fields.map fun f => (f.offset, f.type)) (i + 1) cs ds = some b' → (Op.eqFields (d + 1) xs.toArray ys.toArray (f :: fields)).run P w = .ok (e && b') w := by
              intro e b' he' hb'
              have ih := eqFields_run hTS d fields (i + 1) (fun g hg => hn g (List.mem_cons_of_mem _ hg)) (by rw [← hr]; exact hcs) (by rw [← hr']; exact hds) hb'
              rw [Op.eqFields]
              simp only [if_pos (hn f List.mem_cons_self), Sem.run_bind, hpart xs u hxi, hpart ys u' hyi, he', Result.andThen_ok]
              cases e
              · simp
              · simpa using ih
            cases hty : ti.ty with
            | int k0 =>
              rw [hty] at he
              cases t with
              | int k =>
                cases t' with
                | int k' =>
                  by_cases hkk : k = k'
                  · subst hkk
                    simp only [decide_true, cond_true] at he
                    obtain ⟨b', hb', he⟩ := bind_some he
                    injection he with he
                    subst he
                    obtain rfl := (List.cons.inj hc).1
                    obtain rfl := (List.cons.inj hc').1
                    exact fin _ _ (run_equalIn_int w d f.type k k0 x y (hone.1 k0 hty)) hb'
                  · simp only [decide_eq_false hkk, cond_true, cond_false] at he
                    cases he
                | _ => cases he
              | _ => cases he
            | bool =>
              rw [hty] at he
              cases t <;> cases t' <;> first
                | (cases he; done)
                | (simp only [cond_true] at he
                   obtain ⟨b', hb', he⟩ := bind_some he
                   injection he with he
                   subst he
                   obtain rfl := (List.cons.inj hc).1
                   obtain rfl := (List.cons.inj hc').1
                   exact fin _ _ (run_equalIn_bool' w d f.type x y (hone.2.1 hty)) hb')
            | str =>
              rw [hty] at he
              cases t <;> cases t' <;> first
                | (cases he; done)
                | (simp only [cond_true] at he
                   obtain ⟨b', hb', he⟩ := bind_some he
                   injection he with he
                   subst he
                   obtain rfl := (List.cons.inj hc).1
                   obtain rfl := (List.cons.inj hc').1
                   exact fin _ _ (by rw [run_equalIn_string w d f.type _ _ (hone.2.2 hty), toList_mk, toList_mk]) hb')
            | sl _ => rw [hty] at he; cases t <;> cases t' <;> cases he
            | pair _ _ => rw [hty] at he; cases t <;> cases t' <;> cases he
            | refp _ => rw [hty] at he; cases t <;> cases t' <;> cases he
            | fn _ _ => rw [hty] at he; cases t <;> cases t' <;> cases he
            | nul _ => rw [hty] at he; cases t <;> cases t' <;> cases he
          | _ => cases he
        | _ => cases he


theorem run_shl (t : TypeId) (k k' : IntKind) (m n : Int) (h : 0 ≤ n) (w : World) : (binOp .shl t (.int k m) (.int k' n)).run P w = .ok (.int k (k.wrap (m * 2 ^ (min n.toNat k.bits)))) w := by
  simp only [binOp, Op.shift, if_neg (show ¬ (n < 0) by omega)]
  rfl
theorem run_shr (t : TypeId) (k k' : IntKind) (m n : Int) (h : 0 ≤ n) (w : World) : (binOp .shr t (.int k m) (.int k' n)).run P w = .ok (.int k (m.fdiv (2 ^ (min n.toNat k.bits)))) w := by
  simp only [binOp, Op.shift, if_neg (show ¬ (n < 0) by omega)]
  rfl
theorem run_quo (t : TypeId) (k : IntKind) (m n : Int) (h : n ≠ 0) (w : World) : (binOp .quo t (.int k m) (.int k n)).run P w = .ok (.int k (k.wrap (m.tdiv n))) w := by
  simp only [binOp, Op.intDiv, if_neg h, ne_eq, not_true_eq_false, if_false]
  rfl
theorem run_rem (t : TypeId) (k : IntKind) (m n : Int) (h : n ≠ 0) (w : World) : (binOp .rem t (.int k m) (.int k n)).run P w = .ok (.int k (m.tmod n)) w := by
  simp only [binOp, Op.intDiv, if_neg h, ne_eq, not_true_eq_false, if_false]
  rfl

/-! ### '==' of arrays of numbers -/
theorem eqArr_ints {k : IntKind} {μ : Nat → Value} {S : Nat → Prop} {w : World} : ∀ {cs ds : List Cell} {us vs : List Value} {b : Bool}, AllRel μ S w cs us → AllRel μ S w ds vs → eqArr k cs ds = some b →
    ∃ xs ys : List Int, us = xs.map (.int k) ∧ vs = ys.map (.int k) ∧ b = (xs == ys)
  | [], [], _, _, _, hx, hy, he => by
    have hx : _ = [] := hx
    have hy : _ = [] := hy
    subst hx hy
    injection he with he
    subst he
    exact ⟨[], [], rfl, rfl, rfl⟩
  | [], d :: ds, _, _, _, _, _, he => by cases he
  | c :: cs, [], _, _, _, _, _, he => by
    unfold eqArr at he
    split at he
    · rename_i h _; cases h
    · rename_i h; cases h
    · cases he
  | c :: cs, d :: ds, _, _, b, ⟨u, r, hu, h1, h2⟩, ⟨v, s, hv, h3, h4⟩, he => by
    subst hu hv
    unfold eqArr at he
    split at he
    · rename_i h _; cases h
    · rename_i a x cs' a' y ds' e1 e2
      injection e1 with e1 e3
      injection e2 with e2 e4
      subst e1 e2 e3 e4
      cases hb : (decide (a = k) && decide (a' = k)) with
      | false => rw [hb] at he; cases he
      | true =>
        rw [hb] at he
        rw [Bool.and_eq_true] at hb
        have ha := of_decide_eq_true hb.1
        have ha' := of_decide_eq_true hb.2
        subst ha
        subst ha'
        obtain ⟨c, h5, he⟩ := bind_some he
        injection he with he
        obtain ⟨xs, ys, h6, h7, h8⟩ := eqArr_ints h2 h4 h5
        have h1 : [u] = [Value.int a' x] := h1
        have h3 : [v] = [Value.int a' y] := h3
        refine ⟨x :: xs, y :: ys, by rw [(List.cons.inj h1).1, h6]; rfl, by rw [(List.cons.inj h3).1, h7]; rfl, ?_⟩
        rw [← he, h8]
        rfl
    · cases he

theorem all_range_ints (xs ys : List Int) (h : xs.length = ys.length) : ((List.range xs.length).all fun i => xs.getD i 0 == ys.getD i 0) = (xs == ys) := by
  rw [Bool.eq_iff_iff, List.all_eq_true, beq_iff_eq]
  constructor
  · intro hh
    refine List.ext_getElem h fun i h1 h2 => ?_
    have := hh i (List.mem_range.2 h1)
    rw [beq_iff_eq, List.getD_eq_getElem?_getD, List.getD_eq_getElem?_getD, List.getElem?_eq_getElem h1, List.getElem?_eq_getElem h2] at this
    exact this
  · intro e i _
    rw [e]
    simp

theorem eqArr_run {t e : TypeId} {te : TI} (hE : TOK P e te) (hk : te.k = .one) {k : IntKind} (hty : te.ty = .int k) {n : Nat} (hd : P.underlying t = some (.array n e)) (d : Nat) {μ : Nat → Value} {S : Nat → Prop} {w : World} {cs ds : List Cell} {us vs : List Value} {b : Bool}
    (hx : AllRel μ S w cs us) (hy : AllRel μ S w ds vs) (hl1 : cs.length = n) (hl2 : ds.length = n) (he : eqArr k cs ds = some b) : (Op.equalIn (d + 2) t (.agg us.toArray) (.agg vs.toArray)).run P w = .ok b w := by
  obtain ⟨xs, ys, h1, h2, h3⟩ := eqArr_ints hx hy he
  have hxl : xs.length = n := by
    have := congrArg List.length h1
    rw [List.length_map, AllRel_len hx] at this
    omega
  have hyl : ys.length = n := by
    have := congrArg List.length h2
    rw [List.length_map, AllRel_len hy] at this
    omega
  have hsz : te.sz = 1 := by rw [hE.size, hty]; rfl
  have hpart : ∀ (zs : List Int) (i : Nat) (z : Int), zs[i]? = some z → (part e (zs.map (Value.int k)).toArray (i * te.sz)).run P w = .ok (.int k z) w := by
    intro zs i z hz
    unfold part
    have hagg : te.k.agg = false := by rw [hk]; rfl
    simp only [Sem.run_bind, run_isAgg hE, Result.andThen_ok, hagg, Bool.false_eq_true, if_false]
    rw [List.getElem?_toArray, hsz, Nat.mul_one, List.getElem?_map, hz]
    rfl
  subst h1 h2 h3
  rw [← all_range_ints xs ys (hxl.trans hyl.symm), hxl, List.range_eq_range', Op.equalIn]
  simp only [Sem.run_bind, run_underlying hd, Result.andThen_ok, run_sizeOf hE, Std.Legacy.Range.forIn_eq_forIn_range', Std.Legacy.Range.size, Nat.sub_zero, Nat.add_sub_cancel, Nat.div_one]
  have hl : ∀ i ∈ List.range' 0 n 1, i < n := fun i hi => by simpa using (List.mem_range'_1.1 hi).2
  generalize List.range' 0 n 1 = l at hl ⊢
  induction l with
  | nil => simp
  | cons i l ih =>
    have hi : i < n := hl i (by simp)
    have px := hpart xs i (xs.getD i 0) (by rw [List.getD_eq_getElem?_getD, List.getElem?_eq_getElem (by omega)]; rfl)
    have py := hpart ys i (ys.getD i 0) (by rw [List.getD_eq_getElem?_getD, List.getElem?_eq_getElem (by omega)]; rfl)
    have pe : (Op.equalIn (d + 1) e (.int k (xs.getD i 0)) (.int k (ys.getD i 0))).run P w = .ok (xs.getD i 0 == ys.getD i 0) w := run_equalIn_int w d e k k _ _ ((one_desc hE hk).1 k hty)
    simp only [List.forIn_cons, Sem.run_bind, px, py, pe, Result.andThen_ok, List.all_cons]
    cases hb : (xs.getD i 0 == ys.getD i 0)
    · simp
    · simp only [Bool.not_true, Bool.false_eq_true, if_false, Sem.run_pure, Result.andThen_ok, Bool.true_and]
      exact ih fun j hj => hl j (by simp [hj])

theorem binK_ok {R : Type} (hTS : TypesOK P T) {op : BinOp} {t t' : TypeId} {x y : Operand} {p q : Fl} {K : Cell → Option R} {r : R} (h : binK T op t p q K = some r) :
    ∃ c, K c = some r ∧ ∀ (μ : Nat → Value) (S : Nat → Prop) (w : World) (a : Act), FlRel μ S w p (a.eval x) → FlRel μ S w q (a.eval y) →
      ∃ v, (do eqGuard op t x y (a.eval x) (a.eval y); binOp op t (a.eval x) (a.eval y) : Sem Value).run P w = .ok v w ∧ CellRel μ S w c v := by
  have ints : ∀ {k k' : IntKind} {m n : Int} {c : Cell}, (∀ w : World, ∃ v, (binOp op t (.int k m) (.int k' n)).run P w = .ok v w ∧ ∀ μ S, CellRel μ S w c v) →
      ∀ (μ : Nat → Value) (S : Nat → Prop) (w : World) (a : Act), FlRel μ S w (.c (.v (.int k) m)) (a.eval x) → FlRel μ S w (.c (.v (.int k') n)) (a.eval y) →
      ∃ v, (do eqGuard op t x y (a.eval x) (a.eval y); binOp op t (a.eval x) (a.eval y) : Sem Value).run P w = .ok v w ∧ CellRel μ S w c v := by
    intro k k' m n c hb μ S w a hx hy
    have hx : [a.eval x] = [.int k m] := hx
    have hy : [a.eval y] = [.int k' n] := hy
    rw [(List.cons.inj hx).1, (List.cons.inj hy).1]
    obtain ⟨v, h1, h2⟩ := hb w
    refine ⟨v, ?_, h2 μ S⟩
    simp only [Sem.run_bind, eqGuard_at_int, Sem.run_pure, Result.andThen_ok, h1]
  unfold binK at h
  split at h
  · rename_i k m k' n
    split at h
    · obtain ⟨h1, h⟩ := chk_some h
      have h1 := of_decide_eq_true h1
      exact ⟨_, h, ints fun w => ⟨_, run_shl t k k' m n h1 w, fun _ _ => rfl⟩⟩
    · obtain ⟨h1, h⟩ := chk_some h
      have h1 := of_decide_eq_true h1
      exact ⟨_, h, ints fun w => ⟨_, run_shr t k k' m n h1 w, fun _ _ => rfl⟩⟩
    · obtain ⟨h1, h⟩ := chk_some h
      obtain ⟨h2, h⟩ := chk_some h
      have h1 := of_decide_eq_true h1
      have h2 := of_decide_eq_true h2
      subst h1
      exact ⟨_, h, ints fun w => ⟨_, run_quo t k m n h2 w, fun _ _ => rfl⟩⟩
    · obtain ⟨h1, h⟩ := chk_some h
      obtain ⟨h2, h⟩ := chk_some h
      have h1 := of_decide_eq_true h1
      have h2 := of_decide_eq_true h2
      subst h1
      exact ⟨_, h, ints fun w => ⟨_, run_rem t k m n h2 w, fun _ _ => rfl⟩⟩
    · obtain ⟨h1, h⟩ := chk_some h
      have h1 := of_decide_eq_true h1
      subst h1
      obtain ⟨c, h2, h⟩ := bind_some h
      exact ⟨c, h, ints fun w => intOp_run h2 t w⟩
  · rename_i m n
    obtain ⟨c, h1, h2⟩ := strOp_ok (P := P) h t
    refine ⟨c, h1, fun μ S w a hx hy => ?_⟩
    have hx : [a.eval x] = [.string ⟨m.toArray⟩] := hx
    have hy : [a.eval y] = [.string ⟨n.toArray⟩] := hy
    rw [(List.cons.inj hx).1, (List.cons.inj hy).1]
    obtain ⟨v, h3, h4⟩ := h2 w
    refine ⟨v, ?_, h4 μ S⟩
    simp only [Sem.run_bind, eqGuard_str, Sem.run_pure, Result.andThen_ok, h3]
  · rename_i m n
    split at h
    · rename_i sz bytes zero hT
      have hu := (one_desc (hTS _ _ hT) rfl).2.1 rfl
      split at h
      · refine ⟨_, h, fun μ S w a hx hy => ?_⟩
        have hx : [a.eval x] = [.bool m] := hx
        have hy : [a.eval y] = [.bool n] := hy
        rw [(List.cons.inj hx).1, (List.cons.inj hy).1]
        refine ⟨.bool (m == n), ?_, rfl⟩
        simp only [Sem.run_bind, eqGuard_at_bool, Sem.run_pure, Result.andThen_ok, binOp, Op.equal, Op.maxDepth, run_equalIn_bool' w 9999 t m n hu]
      · refine ⟨_, h, fun μ S w a hx hy => ?_⟩
        have hx : [a.eval x] = [.bool m] := hx
        have hy : [a.eval y] = [.bool n] := hy
        rw [(List.cons.inj hx).1, (List.cons.inj hy).1]
        refine ⟨.bool (!(m == n)), ?_, rfl⟩
        simp only [Sem.run_bind, eqGuard_at_bool, Sem.run_pure, Result.andThen_ok, binOp, Op.equal, Op.maxDepth, run_equalIn_bool' w 9999 t m n hu]
      · cases h
    · cases h
  · rename_i xs ys
    have agg : ∀ {b : Bool}, eqAgg T t xs ys = some b → ∀ (μ : Nat → Value) (S : Nat → Prop) (w : World) (a : Act), FlRel μ S w (.agg xs) (a.eval x) → FlRel μ S w (.agg ys) (a.eval y) →
        ∃ us vs : Array Value, a.eval x = .agg us ∧ a.eval y = .agg vs ∧ (Op.equalIn 10000 t (.agg us) (.agg vs)).run P w = .ok b w ∧ (eqGuard op t x y (.agg us) (.agg vs)).run P w = .ok () w := by
      intro b he μ S w a ⟨us, hx, hxr⟩ ⟨vs, hy, hyr⟩
      unfold eqAgg at he
      split at he
      · rename_i fs sz bytes ty zero hT
        have hTT := hTS _ _ hT
        obtain ⟨d, hd, hkd⟩ := hTT.desc
        obtain ⟨fields, hdf, hf, hnm⟩ : ∃ fields : Array Field, d = .struct fields ∧ fields.toList.map (fun f => (f.offset, f.type)) = fs ∧ (∀ f ∈ fields.toList, f.name ≠ "_") := hkd
        subst hdf
        obtain ⟨hs1, hs2⟩ := hTT.stood fs rfl
        refine ⟨us.toArray, vs.toArray, hx, hy, ?_, run_eqGuard_agg w op t x y _ _ hs2⟩
        have hfo : P.fieldsOf t = fields := by simp [Program.fieldsOf, hd]
        rw [run_equalIn_struct (P := P) w 9999 t _ _ (by rw [hfo]; exact hd) hs1, hfo]
        exact eqFields_run hTS 9998 fields.toList 0 hnm (by simpa using hxr) (by simpa using hyr) (by rw [hf]; exact he)
      · rename_i n e sz bytes ty zero hT
        have hTT := hTS _ _ hT
        split at he
        · rename_i sz' bytes' k zero' hE
          have hEE := hTS _ _ hE
          have hcond : (Nat.beq xs.length n && Nat.beq ys.length n) = true := by
            cases hb : (Nat.beq xs.length n && Nat.beq ys.length n) with
            | true => rfl
            | false => rw [hb] at he; cases he
          rw [hcond] at he
          rw [Bool.and_eq_true] at hcond
          have hl1 := Nat.eq_of_beq_eq_true hcond.1
          have hl2 := Nat.eq_of_beq_eq_true hcond.2
          refine ⟨us.toArray, vs.toArray, hx, hy, ?_, run_eqGuard_agg w op t x y _ _ (hTT.guard n e rfl)⟩
          exact eqArr_run hEE rfl rfl (array_desc hTT rfl) 9998 hxr hyr hl1 hl2 he
        · cases he
      · cases he
    split at h
    · obtain ⟨b, hb, h⟩ := bind_some h
      refine ⟨_, h, fun μ S w a hx hy => ?_⟩
      obtain ⟨us, vs, e1, e2, e3, e4⟩ := agg hb μ S w a hx hy
      rw [e1, e2]
      refine ⟨.bool b, ?_, rfl⟩
      simp only [Sem.run_bind, e4, Sem.run_pure, Result.andThen_ok, binOp, Op.equal, Op.maxDepth, e3]
    · obtain ⟨b, hb, h⟩ := bind_some h
      refine ⟨_, h, fun μ S w a hx hy => ?_⟩
      obtain ⟨us, vs, e1, e2, e3, e4⟩ := agg hb μ S w a hx hy
      rw [e1, e2]
      refine ⟨.bool (!b), ?_, rfl⟩
      simp only [Sem.run_bind, e4, Sem.run_pure, Result.andThen_ok, binOp, Op.equal, Op.maxDepth, e3]
    · cases h
  · cases h

theorem ok_binOp {R : Type} (hTS : TypesOK P T) {op : BinOp} {t t' : TypeId} {x y : Operand} {p q : Fl} {K : Cell → Option R} {r : R} (hx : evF st x = some p) (hy : evF st y = some q) (h : binK T op t p q K = some r) :
    ∃ c, K c = some r ∧ StepOK P (.binOp op t x y t') st new (.f (.c c)) [] := by
  obtain ⟨c, h1, h2⟩ := binK_ok hTS (t' := t') (x := x) (y := y) h
  refine ⟨c, h1, stepOK_pure fun S0 w0 nt μ FS a w o ho hs hsim => ?_⟩
  obtain ⟨v, h3, h4⟩ := h2 μ (live S0 μ FS) w a (evF_rel hsim (sees_of hs (by simp [Op.operands])) hx) (evF_rel hsim (sees_of hs (by simp [Op.operands])) hy)
  refine ⟨v, ?_, h4⟩
  unfold execOp
  rw [ho]
  simp only [Sem.run_bind] at h3 ⊢
  rw [h3]
  rfl

theorem ok_not {t : TypeId} {x : Operand} {b : Bool} (hx : evB st x = some b) : StepOK P (.unOp .not t x) st new (.f (.c (.v .bool (!b)))) [] :=
  stepOK_pure fun S0 w0 nt μ FS a w o ho hs hsim => by
    have hb := evB_rel hsim (sees_of hs (by simp [Op.operands])) hx
    refine ⟨.bool (!b), ?_, rfl⟩
    unfold execOp
    rw [ho]
    simp only [hb]
    rfl

theorem cellRow_rel {k : IntKind} {μ : Nat → Value} {S : Nat → Prop} {w : World} : ∀ {cs : List Cell} {vs : List Value} {l : List Int}, AllRel μ S w cs vs → cellRow k cs = some l → vs = l.map (.int k)
  | [], _, _, h, he => by
    injection he with he
    subst he
    exact h
  | c :: cs, _, _, ⟨v, r, hv, h1, h2⟩, he => by
    subst hv
    unfold cellRow at he
    split at he
    · rename_i h0; cases h0
    · rename_i k' x r' h0
      injection h0 with h3 h4
      subst h3 h4
      by_cases hk : k' = k
      · subst hk
        simp only [decide_true, cond_true] at he
        obtain ⟨l', h5, he⟩ := bind_some he
        injection he with he
        subst he
        rw [cellRow_rel h2 h5]
        have h1 : [v] = [Value.int k' x] := h1
        rw [(List.cons.inj h1).1]
        rfl
      · rw [decide_eq_false hk] at he
        cases he
    · cases he

/-- A row of a value, now. -/
theorem asl_rd {S0 : Nat → Prop} {w0 : World} {nt : Nat} {μ : Nat → Value} {FS : Nat → Option Lv} {a : Act} {w : World} (h : Sim S0 w0 nt μ FS a w) {id off n : Nat} {v : Value} (hc : CellRel μ (live S0 μ FS) w (.asl id off n) v) {cs : List Cell} (hl : FS (2 * id + 1) = some (.box cs))
    (h1 : (Nat.ble (off + n) cs.length && Nat.ble n 9223372036854775807) = true) {l : List Int} (h2 : cellRow .u8 ((cs.drop off).take n) = some l) :
    ∃ g, v = .slice (some ⟨g, off, none⟩) l.length n ∧ l.length = n ∧ l.length ≤ 9223372036854775807 ∧ ∀ (i : Nat) (hi : i < l.length), ∃ es, Rd (live S0 μ FS) w (.int .u8) (l[i]'hi) es ∧ At w ((⟨g, off, none⟩ : Addr).add (i * (Ty.int .u8).sz)) es := by
  obtain ⟨g, h3, h4⟩ := hc
  obtain ⟨g', vs, Ty', h5, _, h6, h7⟩ := h.obj id _ hl
  rw [h3] at h5
  have hg : g = g' := by injection h5 with h5; injection h5 with h5; injection h5
  subst hg
  have hrow := cellRow_rel (AllRel_take n (AllRel_drop off h7)) h2
  rw [Bool.and_eq_true] at h1
  have hb1 := Nat.le_of_ble_eq_true h1.1
  have hb2 := Nat.le_of_ble_eq_true h1.2
  have hlen : l.length = n := by
    have := congrArg List.length hrow
    rw [List.length_map, List.length_take, List.length_drop, AllRel_len h7] at this
    omega
  refine ⟨g, by rw [hlen]; exact h4, hlen, by omega, fun i hi => ⟨[.int .u8 (l[i]'hi)], rfl, fun j u hu => ?_⟩⟩
  cases j with
  | succ j => cases hu
  | zero =>
    injection hu with hu
    subst hu
    rw [add_add]
    refine box_cells h6 off _ _ ?_
    have : ((vs.drop off).take n)[i]? = some (.int .u8 (l[i]'hi)) := by
      rw [hrow, List.getElem?_map, List.getElem?_eq_getElem hi]
      rfl
    rw [List.getElem?_take, if_pos (by omega), List.getElem?_drop] at this
    simpa [Ty.sz] using this

theorem rowCell_rd {S0 : Nat → Prop} {w0 : World} {nt : Nat} {μ : Nat → Value} {FS : Nat → Option Lv} {a : Act} {w : World} (h : Sim S0 w0 nt μ FS a w) {c : Cell} {v : Value} (hs : SeesIds st FS (cellIds [c])) (hc : CellRel μ (live S0 μ FS) w c v)
    {p : (t : Ty) × List t.den} (he : rowCell st c = some p) : Rd (fun _ => False) w (.sl p.1) p.2 [v] := by
  unfold rowCell at he
  split at he
  · injection he with he
    subst he
    exact Rd.move (Agree.refl _ _) (fun _ _ hk => hk.elim) hc
  · rename_i id
    split at he
    · rename_i e t xs hl
      injection he with he
      subst he
      obtain ⟨hv, _⟩ := hc
      rw [hv]
      exact row_rd (h.obj id _ (by rw [hs id (by simp [cellIds, Cell.id?])]; exact hl)) (fun _ hk => hk.elim) (fun _ _ hk => hk)
    · cases he
  · rename_i id lo s
    split at he
    · rename_i e t xs hl
      cases hb : Nat.beq s t.sz with
      | false => rw [hb] at he; cases he
      | true =>
        rw [hb] at he
        injection he with he
        subst he
        have hb := Nat.eq_of_beq_eq_true hb
        subst hb
        exact osl_rd (h.obj id _ (by rw [hs id (by simp [cellIds, Cell.id?])]; exact hl)) (fun _ hk => hk.elim) (fun _ _ hk => hk) hc
    · cases he
  · rename_i id off n
    split at he
    · rename_i cs hl
      obtain ⟨h1, he⟩ := chk_some he
      obtain ⟨l, h2, he⟩ := bind_some he
      injection he with he
      subst he
      obtain ⟨g, h3, h4, h5, h6⟩ := asl_rd h hc ((hs id (by simp [cellIds, Cell.id?])).trans hl) h1 h2
      refine ⟨some ⟨g, off, none⟩, n, by rw [h3], Nat.le_of_eq h4, h5, fun _ => ⟨_, rfl, fun hk => hk, fun i hi => ?_⟩⟩
      obtain ⟨es, h7, h8⟩ := h6 i hi
      exact ⟨es, h7, h8⟩
    · cases he
  · cases he

theorem ok_convert {R : Type} (hTS : TypesOK P T) {s d : TypeId} {x : Operand} {p : Cell} {K : Cell → Option R} {r : R} (hx : evC st x = some p) (h : convK st T s d p K = some r) :
    ∃ c, K c = some r ∧ StepOK P (.convert s d x) st new (.f (.c c)) [] := by
  unfold convK at h
  split at h
  · rename_i si di hs hd
    have hS := hTS _ _ hs
    have hD := hTS _ _ hd
    split at h
    · rename_i k0 k k1 n e1 e2 e3 e4
      refine ⟨_, h, stepOK_pure fun S0 w0 nt μ FS a w o ho hs hsim => ?_⟩
      have hv : [a.eval x] = [.int k1 n] := evC_rel hsim (sees_of hs (by simp [Op.operands])) hx
      refine ⟨.int k (k.wrap n), ?_, rfl⟩
      unfold execOp
      rw [ho]
      simp only [(List.cons.inj hv).1, convert, Sem.run_bind, run_underlying ((one_desc hS e1).1 k0 e2), run_underlying ((one_desc hD e3).1 k e4), Result.andThen_ok, Conv.intToInt, Sem.run_pure]
    · rename_i l e1 e2 e3 e4
      refine ⟨_, h, stepOK_pure fun S0 w0 nt μ FS a w o ho hs hsim => ?_⟩
      have hv : [a.eval x] = [.string ⟨l.toArray⟩] := evC_rel hsim (sees_of hs (by simp [Op.operands])) hx
      refine ⟨.string ⟨l.toArray⟩, ?_, rfl⟩
      unfold execOp
      rw [ho]
      simp only [(List.cons.inj hv).1, convert, Sem.run_bind, run_underlying ((one_desc hS e1).2.2 e2), run_underlying ((one_desc hD e3).2.2 e4), Result.andThen_ok, Sem.run_pure]
    · rename_i pc _ _ _ _ e p' e1 e2 e3
      split at h
      · rename_i sz bytes zero xs hE hrow
        refine ⟨_, h, stepOK_pure fun S0 w0 nt μ FS a w o ho hs hsim => ?_⟩
        have hids := seesIds_of hs (x := x) (by simp [Op.operands]) (evC_evO hx)
        have hrd := rowCell_rd hsim (c := pc) (by simpa [tvIds, Fl.cells] using hids) (evC_rel hsim (sees_of hs (by simp [Op.operands])) hx) hrow
        obtain ⟨A, c, h1, h2, h3, h4⟩ := hrd
        have hv := (List.cons.inj h1).1
        refine ⟨.string ⟨(xs.map toByte).toArray⟩, ?_, rfl⟩
        have hu := slice_desc hS e1
        have hue := (one_desc (hTS _ _ hE) rfl).1 .u8 rfl
        have hud := (one_desc hD e2).2.2 e3
        unfold execOp
        rw [ho]
        simp only [hv, Sem.run_bind]
        rcases Nat.eq_zero_or_pos xs.length with h0 | h0
        · have : xs = [] := List.eq_nil_of_length_eq_zero h0
          subst this
          cases A with
          | none =>
            rw [run_convert_bytes_nil w s p' hu hue _ _ d hud]
            rfl
          | some ad =>
            rw [show ([] : List (Ty.int IntKind.u8).den).length = 0 from rfl, run_convert_bytes_string w s d p' (some ad) 0 c hu hue hud]
            have := run_bytesToString (P := P) w ad 0 c [] (by
              have := run_loadCells_list (P := P) w ad [] (fun j v hj => by cases hj)
              simpa using this)
            rw [this]
            rfl
        · obtain ⟨ad, hA, _, h5⟩ := h4 h0
          subst hA
          have hplain : ad = ⟨ad.block, ad.off, none⟩ := by
            obtain ⟨es, h6, h7⟩ := h5 0 h0
            have hl := Rd_len h6
            have hc := h7 0 (es[0]'(by rw [hl]; exact Nat.one_pos)) (List.getElem?_eq_getElem (by rw [hl]; exact Nat.one_pos))
            obtain ⟨b, of, sp⟩ := ad
            cases sp with
            | none => rfl
            | some _ =>
              exfalso
              simp only [Nat.zero_mul] at hc
              unfold Addr.add at hc
              simp only [if_true] at hc
              unfold World.cell? at hc
              cases hh : w.heap[b]? with
              | none => simp [hh] at hc
              | some o => cases o <;> simp [hh] at hc
          rw [hplain]
          rw [run_convert_bytes_arg w s p' hu hue ad.block ad.off xs.length c xs rfl (fun i hi => by
            obtain ⟨es, h6, h7⟩ := h5 i hi
            have h6 : es = [.int .u8 (xs[i]'hi)] := h6
            subst h6
            have := h7 0 _ rfl
            rw [hplain, add_plain, add_plain] at this
            have hd : xs.getD i 0 = xs[i]'hi := getD_eq hi 0
            rw [hd]
            simpa [Ty.sz] using this) d hud]
          rfl
      · cases h
    · cases h
  · cases h

theorem ok_len_str {t : TypeId} {ti : TI} (hT : TOK P t ti) (hk : ti.k = .one) (hty : ti.ty = .str) {c : Call} {x : Operand} (hc : c.callee = .builtin .len) (ha : c.args.toList = [x]) (hat : c.argTypes.toList = [t]) {l : List UInt8} (hx : evC st x = some (.v .str l)) :
    StepOK P (.call c) st new (.f (.c (.v (.int .i64) ((l.length : Nat) : Int)))) [] :=
  stepOK_pure fun S0 w0 nt μ FS a w o ho hs hsim => by
    obtain ⟨callee, args, argTypes⟩ := c
    simp only at hc ha hat
    obtain rfl : args = #[x] := by apply Array.ext'; exact ha
    obtain rfl : argTypes = #[t] := by apply Array.ext'; exact hat
    subst hc
    have hv : [a.eval x] = [.string ⟨l.toArray⟩] := evC_rel hsim (sees_of hs (by simp [Op.operands, Call.operands])) hx
    refine ⟨.int .i64 l.length, ?_, rfl⟩
    unfold execOp
    rw [ho]
    simp only [resolve, invoke, builtin, Sem.run_bind, Sem.run_pure, Result.andThen_ok, List.map_toArray, List.map_cons, List.map_nil, (List.cons.inj hv).1, Builtin.len_, run_underlying ((one_desc hT hk).2.2 hty)]
    simp [run_underlying ((one_desc hT hk).2.2 hty), goInt]
    rfl

end Go.Ab
