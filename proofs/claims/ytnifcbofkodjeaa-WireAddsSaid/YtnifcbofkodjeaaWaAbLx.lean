/- A builder: texts laid behind what it holds; what it holds, told. -/
import Derived.Test.YtnifcbofkodjeaaWaAbL
set_option linter.unusedVariables false
set_option linter.unusedSimpArgs false
namespace Go.Ab
open Go.RowKit

variable {P : Program} {T : Nat → Option TI} {st : St}

/-- As 'StepOK', where the state is known whole. -/
def StepAt (P : Program) (op : Op) (st : St) (tv : TV) (eff : St) : Prop :=
  ∀ (S0 : Nat → Prop) (w0 : World) (nt : Nat) (μ : Nat → Value) (a : Act) (w : World) (o : Oper), o.op = op → Sim S0 w0 nt μ (look st) a w →
    ∀ (next : Act → World → Prop) (Q : Exit → Act → World → Prop),
      (∀ v w' μ', Sim S0 w0 nt μ' (over eff (look st)) a w' → TVRel μ' (live S0 μ' (over eff (look st))) w' tv v → next (a.put o.dst v) w') → o.wp P a w next Q

theorem Parts_bytes {k : IntKind} {S : Nat → Prop} {w : World} : ∀ (l : List Int), Parts S w (.int k) l (l.map (.int k))
  | [] => rfl
  | x :: l => ⟨[.int k x], _, rfl, rfl, Parts_bytes l⟩

/-- A row of numbers grown: under a new name. -/
theorem Sim.append_own {S0 : Nat → Prop} {w0 : World} {nt : Nat} {μ : Nat → Value} {FS : Nat → Option Lv} {a : Act} {w : World} (hsim : Sim S0 w0 nt μ FS a w) {id n : Nat} {e : TypeId} {k : IntKind} {xs zs : List Int}
    (hFS : FS (2 * id + 1) = some (.row e (.int k) xs)) (hfs : FreshFS FS n) {w' : World} {v' : Value} (h4 : w'.ownsRow w0.heap.size e 1 v' zs.length (zs.map (.int k))) (h5 : w.grownBy w' (μ id).ownBlock)
    (h6 : v'.ownBlock = (μ id).ownBlock ∨ v'.ownBlock = some w.heap.size) (h63 : zs.length ≤ 9223372036854775807) :
    Sim S0 w0 nt (upd μ n v') (over [(2 * n + 1, Lv.row e (.int k) zs), (2 * id + 1, Lv.gone)] FS) a w' := by
  have hne : id ≠ n := fun e' => by
    subst e'
    rw [hfs.1] at hFS
    cases hFS
  obtain ⟨inner, ho1, ho2, ho3⟩ := hsim.obj id _ hFS
  have hob := ownsRow_blk ho1
  have hvb := ownsRow_blk h4
  have look1 : ∀ l, over [(2 * n + 1, Lv.row e (.int k) zs), (2 * id + 1, Lv.gone)] FS l = if l = 2 * n + 1 then some (.row e (.int k) zs) else if l = 2 * id + 1 then some .gone else FS l := fun l => by
    unfold over
    rw [look_cons, look_cons]
    by_cases e1 : l = 2 * n + 1
    · rw [if_pos e1, if_pos e1]
    · rw [if_neg e1, if_neg e1]
      by_cases e2 : l = 2 * id + 1
      · rw [if_pos e2, if_pos e2]
      · rw [if_neg e2, if_neg e2]
        rfl
  have surv : ∀ i z, i ≠ n → over [(2 * n + 1, Lv.row e (.int k) zs), (2 * id + 1, Lv.gone)] FS (2 * i + 1) = some z → z.isObj = true → i ≠ id ∧ FS (2 * i + 1) = some z := by
    intro i z hin hz hzo
    rw [look1, if_neg (by omega)] at hz
    by_cases e2 : i = id
    · rw [if_pos (by omega)] at hz
      injection hz with hz
      subst hz
      cases hzo
    · rw [if_neg (by omega)] at hz
      exact ⟨e2, hz⟩
  have hlive : ∀ k, (μ id).ownBlock = some k → live S0 μ FS k := fun k hk => .inr ⟨id, _, hFS, rfl, by rw [hob]; exact hk⟩
  have hlt : ∀ k, (μ id).ownBlock = some k → w0.heap.size ≤ k ∧ k < w.heap.size := fun k hk => (hsim.obj id _ hFS).lt rfl (by rw [hob]; exact hk)
  have hag : Agree (live S0 μ FS) w w' := ⟨h5.size, fun k hk hn => h5.block k hk (fun e' => hn (hlive k e'.symm))⟩
  have hn' : upd μ n v' n = v' := by unfold upd; rw [if_pos rfl]
  exact hsim.gen n (.row e (.int k) zs) (over [(2 * n + 1, Lv.row e (.int k) zs), (2 * id + 1, Lv.gone)] FS) (upd μ n v') w'
    (fun s => by rw [look1, if_neg (by omega), if_neg (by omega)]) (fun i hi => by
      rw [look1, if_neg (by omega)]
      by_cases e2 : i = id
      · exact .inr (by rw [if_pos (by omega)])
      · exact .inl (by rw [if_neg (by omega)])) (by rw [look1, if_pos rfl])
    (fun l z hl => upd_agree (hfs.2 l z hl)) (fun i z hi _ => by unfold upd; rw [if_neg hi]) hag
    (hsim.below.grown h5 hsim.below.size (fun k hk => (hlt k hk).1))
    (fun i z k hi hz hzo hk => by
      obtain ⟨h8, h9⟩ := surv i z hi hz hzo
      refine h5.block k ((hsim.obj i z h9).lt hzo hk).2 (fun e' => ?_)
      exact hsim.inj i id z _ k h9 hFS hzo rfl h8 hk (by rw [hob]; exact e'.symm))
    (fun k hk hlt => by
      rw [hn', hvb] at hk
      rcases h6 with h6 | h6
      · exact hlive k (by rw [← h6]; exact hk)
      · rw [h6] at hk
        injection hk with hk
        omega)
    (fun i z k hi hz hzo hk hk' => by
      obtain ⟨h8, h9⟩ := surv i z hi hz hzo
      rw [hn', hvb] at hk
      rcases h6 with h6 | h6
      · exact hsim.inj i id z _ k h9 hFS hzo rfl h8 hk' (by rw [hob, ← h6]; exact hk)
      · rw [h6] at hk
        injection hk with hk
        have := ((hsim.obj i z h9).lt hzo hk').2
        omega)
    ⟨zs.map (.int k), by
      rw [hn']
      exact h4, Parts_bytes zs, h63⟩

/-- The first row of a builder. -/
theorem Sim.append_first {S0 : Nat → Prop} {w0 : World} {nt : Nat} {μ : Nat → Value} {FS : Nat → Option Lv} {a : Act} {w : World} (hsim : Sim S0 w0 nt μ FS a w) {n : Nat} {e : TypeId} {k : IntKind} {zs : List Int}
    (hfs : FreshFS FS n) {w' : World} {v' : Value} (h4 : w'.ownsRow w0.heap.size e 1 v' zs.length (zs.map (.int k))) (h5 : w.grownBy w' none)
    (h6 : v'.ownBlock = none ∨ v'.ownBlock = some w.heap.size) (h63 : zs.length ≤ 9223372036854775807) :
    Sim S0 w0 nt (upd μ n v') (over [(2 * n + 1, Lv.row e (.int k) zs)] FS) a w' := by
  have hn' : upd μ n v' n = v' := by unfold upd; rw [if_pos rfl]
  refine hsim.made hfs (lv := .row e (.int k) zs) (v := v') new_even (new_old (n := n)) new_self ⟨h5.os, h5.tape, h5.output, h5.size, fun k hk => h5.block k hk (by simp)⟩ (fun k hk => ?_) ⟨zs.map (.int k), by rw [hn']; exact h4, Parts_bytes zs, h63⟩
  rw [ownsRow_blk h4] at hk
  rcases h6 with h6 | h6
  · rw [h6] at hk; cases hk
  · rw [h6] at hk; injection hk with hk; omega

theorem over_over (a b : St) (FS : Nat → Option Lv) : over a (over b FS) = over (a ++ b) FS := by
  funext l
  unfold over
  rw [look_append]
  cases look a l <;> rfl

theorem over_twice (n : Nat) (a b : Lv) (A : St) (FS : Nat → Option Lv) : over ([(n, a)] ++ (A ++ [(n, b)])) FS = over ((n, a) :: A) FS := by
  funext k
  unfold over
  rw [List.singleton_append, look_cons, look_cons]
  by_cases e1 : k = n
  · rw [if_pos e1, if_pos e1]
  · rw [if_neg e1, if_neg e1, look_append]
    cases look A k with
    | some v => rfl
    | none =>
      simp only [look_cons]
      rw [if_neg e1]
      rfl

theorem bytesV_ints (l : List UInt8) : bytesV l = (List.map (fun b : UInt8 => ((b.toNat : Nat) : Int)) l).map (.int .u8) := by
  unfold bytesV
  rw [List.map_map]
  rfl

/-- A builder as it stands. -/
theorem bld_rel {S0 : Nat → Prop} {w0 : World} {nt : Nat} {μ : Nat → Value} {a : Act} {w : World} (hsim : Sim S0 w0 nt μ (look st) a w) {id e T : Nat} {q : Cell} {rs : List Nat} {xs : List Int} (hl : look st (2 * id + 1) = some (.bld T q)) (hq : bldTail st e q = some (rs, xs)) :
    ∃ g vp vq, μ id = .pointer (some ⟨g, 0, none⟩) ∧ w0.heap.size ≤ g ∧ w.heap[g]? = some (.cells #[vp, vq] T (0, 0)) ∧ (vp = .pointer none ∨ vp = .pointer (some ⟨g, 0, none⟩)) ∧ CellRel μ (live S0 μ (look st)) w q vq ∧
      w.ownsRow w0.heap.size e 1 vq xs.length (xs.map (.int .u8)) ∧ blk vq ≠ some g ∧
      ((rs = [] ∧ xs = [] ∧ vq = .slice none 0 0) ∨ ∃ rid, rs = [rid] ∧ look st (2 * rid + 1) = some (.row e (.int .u8) xs) ∧ vq = μ rid ∧ q = .own rid) := by
  obtain ⟨g, vp, vq, h1, h2, h3, hp, h6⟩ := hsim.obj id _ hl
  refine ⟨g, vp, vq, h1, h2, h3, hp, h6, ?_⟩
  unfold bldTail at hq
  split at hq
  · injection hq with hq
    injection hq with hq1 hq2
    subst hq1 hq2
    have h6 : vq = .slice none 0 0 := h6
    subst h6
    exact ⟨World.ownsRow_nil _ _ _ _, by simp [blk], .inl ⟨rfl, rfl, rfl⟩⟩
  · rename_i rid
    split at hq
    · rename_i e' xs' hr
      cases hbe : Nat.beq e' e with
      | false => rw [hbe] at hq; cases hq
      | true =>
        rw [hbe] at hq
        have := nbeq hbe
        subst this
        injection hq with hq
        injection hq with hq1 hq2
        subst hq1 hq2
        obtain ⟨h7, _⟩ := h6
        subst h7
        obtain ⟨inner, h8, h9, _⟩ := hsim.obj rid _ hr
        have h9 := Parts_ints h9
        subst h9
        refine ⟨h8, fun hb' => ?_, .inr ⟨rid, rfl, hr, rfl, rfl⟩⟩
        refine hsim.inj id rid _ _ g hl hr rfl rfl (fun e4 => ?_) (by rw [h1]; rfl) hb'
        subst e4
        rw [hl] at hr
        cases hr
    · cases hq
  · cases hq

theorem put_at {f : FuncId} {e T : TypeId} (hP : PutOK P f e T) {c : Call} {s : Tmp} (hc : c.callee = .value (.tmp s)) {x : Operand} (ha : c.args.toList = [x]) {t : Ty} {id : Nat} (hcl : evC st (.tmp s) = some (.clo f t id 0)) {l : List UInt8} (hx : evC st x = some (.v .str l))
    {q : Cell} (hl : look st (2 * id + 1) = some (.bld T q)) {rs : List Nat} {xs : List Int} (hb : bldTail st e q = some (rs, xs)) {m : Nat} (hf : fresh st m = true) (hn : xs.length + l.length ≤ 140737488355328) :
    StepAt P (.call c) st (.tup []) (putEff id m e T rs (xs ++ List.map (fun b : UInt8 => ((b.toNat : Nat) : Int)) l)) := by
  intro S0 w0 nt μ a w o ho hsim next Q hnx
  obtain ⟨g, vp, vq, h1, h2, h3, hp, hq, h4, h5, h6⟩ := bld_rel hsim hl hb
  have hfm := fresh_look hf
  obtain ⟨g', h7, h8⟩ := evC_rel hsim (show Sees st (look st) (.tmp s) from rfl) hcl
  rw [h1] at h7
  have hg : g = g' := by injection h7 with h7; injection h7 with h7; injection h7
  subst hg
  have hxv : a.eval x = .string ⟨l.toArray⟩ := (List.cons.inj (show [a.eval x] = [Value.string ⟨l.toArray⟩] from evC_rel hsim (by cases x <;> first | rfl | trivial) hx)).1
  have hids : m ≠ id := fun e' => by
    subst e'
    rw [hfm.1] at hl
    cases hl
  have hrun : (execOp a.eval o).run P w = .ok (.enter f #[.string ⟨l.toArray⟩, .pointer (some ⟨g, 0, none⟩)]) w := by
    have he := hP.enters #[.string ⟨l.toArray⟩, .pointer (some ⟨g, 0, none⟩)] w
    unfold execOp
    rw [ho]
    obtain ⟨callee, args, argTypes⟩ := c
    simp only at hc ha
    subst hc
    obtain rfl : args = #[x] := by apply Array.ext'; exact ha
    simp only [resolve, invoke, Sem.run_bind, h8]
    simpa [Deferred.ofValue, hxv] using he
  unfold Oper.wp
  rw [hrun, Oper.upon_enter]
  refine (hP.calls g vp vq xs.length w0.heap.size _ l w h3 hp h4 h5 hsim.below.size hn).mono fun en w' hh => ?_
  obtain ⟨he, w2, v', h9, h10, h11, h12⟩ := hh
  subst he
  -- the builder is used
  have hst1 := hsim.store (lv' := .bld T q) (w' := w.setRow g #[.pointer (some ⟨g, 0, none⟩), vq]) hl rfl (g := g) (by rw [h1]; rfl) rfl rfl rfl (by simp [World.setRow]) (fun k hk => setRow_other w g k _ hk)
    (fun hag => ⟨g, _, vq, h1, h2, setRow_heap w g _ _ _ _ h3, .inr rfl, hq.move hag (fun k _ hk => live_same hl rfl k hk) (fun _ _ => rfl)⟩)
  have hw1 : (w.setRow g #[.pointer (some ⟨g, 0, none⟩), vq]).heap.size = w.heap.size := by simp [World.setRow]
  have hfm1 : FreshFS (over [(2 * id + 1, Lv.bld T q)] (look st)) m := by
    refine ⟨?_, fun k lv hk => ?_⟩
    · rw [over_one, if_neg (by omega)]
      exact hfm.1
    · rw [over_one] at hk
      by_cases e1 : k = 2 * id + 1
      · rw [if_pos e1] at hk
        injection hk with hk
        subst hk
        exact hfm.2 _ _ hl
      · rw [if_neg e1] at hk
        exact hfm.2 _ _ hk
  generalize hzs : xs ++ List.map (fun b : UInt8 => ((b.toNat : Nat) : Int)) l = zs at *
  have hzl : zs.length = xs.length + l.length := by rw [← hzs]; simp
  have h10' : w2.ownsRow w0.heap.size e 1 v' zs.length (zs.map (.int .u8)) := by
    rw [hzl, ← hzs, List.map_append, ← bytesV_ints]
    exact h10
  have hgv : blk v' ≠ some g := by
    rw [ownsRow_blk h10']
    rcases h11 with h11 | h11
    · rw [h11, ← ownsRow_blk h4]; exact h5
    · rw [h11]
      intro e1
      injection e1 with e1
      have := (Array.getElem?_eq_some_iff.1 h3).1
      omega
  have hst2 : ∃ FS2, Sim S0 w0 nt (upd μ m v') FS2 a w2 ∧ FS2 = over (((2 * m + 1, Lv.row e (.int .u8) zs) :: rs.map fun r => (2 * r + 1, Lv.gone)) ++ [(2 * id + 1, Lv.bld T q)]) (look st) := by
    rcases h6 with ⟨hr, hx0, hv0⟩ | ⟨rid, hr, hlr, hv0, hq0⟩
    · subst hr hv0
      refine ⟨_, hst1.append_first hfm1 (k := .u8) h10' (by simpa [Value.ownBlock] using h9) (by simpa [Value.ownBlock, hw1] using h11) (by omega), ?_⟩
      rw [over_over]
      rfl
    · subst hr hv0
      have hne : rid ≠ id := fun e1 => by
        subst e1
        rw [hl] at hlr
        cases hlr
      refine ⟨_, hst1.append_own (id := rid) (xs := xs) (by rw [over_one, if_neg (by omega)]; exact hlr) hfm1 (k := .u8) h10' h9 (by rw [hw1]; exact h11) (by omega), ?_⟩
      rw [over_over]
      rfl
  obtain ⟨FS2, hst2, hF2⟩ := hst2
  have hFid : FS2 (2 * id + 1) = some (.bld T q) := by
    rw [hF2]
    unfold over
    rw [List.cons_append, look_cons, if_neg (by omega), look_append]
    have : look (rs.map fun r => (2 * r + 1, Lv.gone)) (2 * id + 1) = none := by
      rcases h6 with ⟨hr, _⟩ | ⟨rid, hr, hlr, _⟩
      · rw [hr]; rfl
      · have hne : rid ≠ id := fun e1 => by
          subst e1
          rw [hl] at hlr
          cases hlr
        rw [hr]
        show look [(2 * rid + 1, Lv.gone)] _ = none
        rw [look_cons, if_neg (by omega)]
        rfl
    rw [this, look_cons, if_pos rfl]
  have hmid : upd μ m v' id = μ id := by unfold upd; rw [if_neg (fun e => hids e.symm)]
  have hg2 : w2.heap[g]? = some (.cells #[.pointer (some ⟨g, 0, none⟩), vq] T (0, 0)) := by
    rw [h9.block g (by rw [hw1]; exact (Array.getElem?_eq_some_iff.1 h3).1) (by rw [← ownsRow_blk h4]; exact fun e => h5 e.symm)]
    exact setRow_heap w g _ _ _ _ h3
  have hst3 := hst2.store (lv' := .bld T (.own m)) (w' := w2.setRow g #[.pointer (some ⟨g, 0, none⟩), v']) hFid rfl (g := g) (by rw [hmid, h1]; rfl) rfl rfl rfl (by simp [World.setRow]) (fun k hk => setRow_other w2 g k _ hk)
    (fun hag => ⟨g, _, v', by rw [hmid]; exact h1, h2, setRow_heap w2 g _ _ _ _ hg2, .inr rfl, by unfold upd; rw [if_pos rfl], ownsRow_slice h10'⟩)
  subst h12
  have hF3 : over [(2 * id + 1, Lv.bld T (.own m))] FS2 = over (putEff id m e T rs zs) (look st) := by
    rw [hF2, over_over]
    exact over_twice _ _ _ _ _
  rw [hF3] at hst3
  exact hnx _ _ _ hst3 ⟨[], rfl, rfl⟩

theorem bytes_back {xs : List Int} (h : bytesB xs = true) : xs.map (Value.int .u8) = bytesV (xs.map toByte) := by
  unfold bytesV
  rw [List.map_map]
  refine List.map_congr_left fun n hn => ?_
  have := List.all_eq_true.1 h n hn
  rw [Bool.and_eq_true] at this
  have h1 := of_decide_eq_true this.1
  have h2 := of_decide_eq_true this.2
  have h3 : (toByte n).toNat = n.toNat := by
    unfold toByte
    rw [UInt8.toNat_ofNat']
    omega
  show Value.int .u8 n = .int .u8 (((toByte n).toNat : Nat) : Int)
  rw [h3]
  congr 1
  omega

theorem str_at {f : FuncId} {e T : TypeId} (hP : StrOK P f e T) {c : Call} (hc : c.callee = .value (.func f)) {x : Operand} (ha : c.args.toList = [x]) {id : Nat} (hx : evC st x = some (.ptr id 0))
    {q : Cell} (hl : look st (2 * id + 1) = some (.bld T q)) {rs : List Nat} {xs : List Int} (hb : bldTail st e q = some (rs, xs)) (hw : bytesB xs = true) :
    StepAt P (.call c) st (.f (.c (.v .str (xs.map toByte)))) (rs.map fun r => (2 * r + 1, Lv.gone)) := by
  intro S0 w0 nt μ a w o ho hsim next Q hnx
  obtain ⟨g, vp, vq, h1, h2, h3, hp, hq, h4, h5, h6⟩ := bld_rel hsim hl hb
  obtain ⟨g', h7, h8⟩ := evC_rel hsim (by cases x <;> first | rfl | trivial) hx
  rw [h1] at h7
  have hg : g = g' := by injection h7 with h7; injection h7 with h7; injection h7
  subst hg
  have hrun : (execOp a.eval o).run P w = .ok (.enter f #[.pointer (some ⟨g, 0, none⟩)]) w := by
    have he := hP.enters #[.pointer (some ⟨g, 0, none⟩)] w
    unfold execOp
    rw [ho]
    obtain ⟨callee, args, argTypes⟩ := c
    simp only at hc ha
    subst hc
    obtain rfl : args = #[x] := by apply Array.ext'; exact ha
    simp only [resolve, invoke, Sem.run_bind, show a.eval (.func f) = Value.func (.func f) #[] #[] from rfl]
    simpa [Deferred.ofValue, h8] using he
  unfold Oper.wp
  rw [hrun, Oper.upon_enter]
  rw [bytes_back hw] at h4
  refine (hP.calls g vp vq w0.heap.size (xs.map toByte) w h3 (by rw [List.length_map]; exact h4) h5).mono fun en w' hh => ?_
  obtain ⟨he, h9⟩ := hh
  subst he
  refine hnx _ _ μ ?_ rfl
  rcases h6 with ⟨hr, hx0, hv0⟩ | ⟨rid, hr, hlr, hv0, hq0⟩
  · subst hr hv0
    exact hsim.grow ⟨h9.os, h9.tape, h9.output, h9.size, fun k hk => h9.block k hk (by simp [Value.ownBlock])⟩
  · subst hr hv0
    obtain ⟨inner, ho1, _⟩ := hsim.obj rid _ hlr
    have hob := ownsRow_blk ho1
    have look1 : ∀ l, over ([rid].map fun r => (2 * r + 1, Lv.gone)) (look st) l = if l = 2 * rid + 1 then some .gone else look st l := fun l => over_one _ _ _ _
    have surv : ∀ i z, over ([rid].map fun r => (2 * r + 1, Lv.gone)) (look st) (2 * i + 1) = some z → z.isObj = true → i ≠ rid ∧ look st (2 * i + 1) = some z := by
      intro i z hz hzo
      rw [look1] at hz
      by_cases e1 : i = rid
      · rw [if_pos (by omega)] at hz
        injection hz with hz
        subst hz
        cases hzo
      · rw [if_neg (by omega)] at hz
        exact ⟨e1, hz⟩
    have hag : Agree (live S0 μ (look st)) w w' := ⟨h9.size, fun k hk hn => h9.block k hk (fun e' => hn (.inr ⟨rid, _, hlr, rfl, by rw [hob]; exact e'.symm⟩))⟩
    have hlv : ∀ k, k < w.heap.size → live S0 μ (over ([rid].map fun r => (2 * r + 1, Lv.gone)) (look st)) k → live S0 μ (look st) k := by
      rintro k _ (hk | ⟨i, z, hz, hzo, hzb⟩)
      · exact .inl hk
      · exact .inr ⟨i, z, (surv i z hz hzo).2, hzo, hzb⟩
    refine hsim.update (fun s => by rw [look1, if_neg (by omega)]) hag hlv (fun _ _ _ _ _ => rfl)
      (hsim.below.grown h9 hsim.below.size (fun k hk => ((hsim.obj rid _ hlr).lt rfl (by rw [hob]; exact hk)).1)) (fun i z hz => ?_) (fun i j x y k hi hj hxo hyo hne => ?_)
    · cases hzo : z.isObj with
      | true =>
        obtain ⟨h10, h11⟩ := surv i z hz hzo
        exact (hsim.obj i z h11).move hag hlv rfl (fun k hk => h9.block k ((hsim.obj i z h11).lt hzo hk).2 (fun e' => hsim.inj i rid z _ k h11 hlr hzo rfl h10 hk (by rw [hob]; exact e'.symm))) (fun _ _ => rfl)
      | false => cases z <;> first | exact trivial | cases hzo
    · exact hsim.inj i j x y k (surv i x hi hxo).2 (surv j y hj hyo).2 hxo hyo hne

/-- What the interpreter takes of builders. -/
theorem spK_sound {G : Env} (hG : EnvOK P G) {op : Op} {tv : TV} {eff : St} {b : Bool} (h : spK G st op = some (b, tv, eff)) (hb : b = true) : StepAt P op st tv eff := by
  unfold spK at h
  split at h
  · rename_i c
    split at h
    · rename_i s hc
      obtain ⟨cl, h1, h⟩ := bind_some h
      split at h
      · rename_i f t id
        obtain ⟨E, h2, h⟩ := bind_some h
        split at h
        · rename_i e T x hsp ha
          obtain ⟨xc, h3, h⟩ := bind_some h
          split at h
          · rename_i l T' q hl
            obtain ⟨r, h4, h⟩ := bind_some h
            injection h with h
            injection h with h5 h
            injection h with h6 h7
            subst h6 h7
            rw [hb] at h5
            obtain ⟨h5, h9⟩ := band h5
            obtain ⟨h10, h8⟩ := band h5
            have h10 := nbeq h10
            subst h10
            have hP := hG f E h2
            unfold SpOK at hP
            rw [hsp] at hP
            exact put_at hP hc ha h1 h3 hl h4 h8 (of_decide_eq_true h9)
          · cases h
        · cases h
      · cases h
    · rename_i f hc
      obtain ⟨E, h2, h⟩ := bind_some h
      split at h
      · rename_i e T x hsp ha
        obtain ⟨xc, h3, h⟩ := bind_some h
        split at h
        · rename_i id
          split at h
          · rename_i T' q hl
            obtain ⟨r, h4, h⟩ := bind_some h
            injection h with h
            injection h with h5 h
            injection h with h6 h7
            subst h6 h7
            rw [hb] at h5
            obtain ⟨h10, h11⟩ := band h5
            have h10 := nbeq h10
            subst h10
            have hP := hG f E h2
            unfold SpOK at hP
            rw [hsp] at hP
            exact str_at hP hc ha h3 hl h4 h11
          · cases h
        · cases h
      · cases h
    · cases h
  · cases h

end Go.Ab
