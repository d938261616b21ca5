import Derived.Test.YtnifcbofkodjeaaWaAbTy
import Derived.Lib.Strings
import Derived.Lib.Slices
import Derived.Lib.Walk
import Derived.Lib.Builder
import Derived.Lib.AppendStr
import Derived.Lib.UnsafeStr
import Derived.WalkKit
import Derived.Laws.Externs
set_option linter.unusedVariables false
namespace Go.Proofs
open Go.RowKit Go.Ab

theorem Try.bsize : (Try.prog.info? 110).map (·.size) = some 2 := by kernel_rfl
theorem Try.blies : liesAt Try.prog Try.prog.depth 110 (2 / Try.prog.cellsOf 110) 0 110 1 = true := by kernel_rfl
theorem Try.binfo : (Try.prog.info? 5).map (fun i => (i.zero, i.size, i.bytes)) = some (some (.int .u8 0), 1, 1) := by kernel_rfl
theorem Try.bcells : Try.prog.cellsOf 5 = 1 := by kernel_rfl

set_option maxHeartbeats 1000000 in
set_option maxRecDepth 100000 in
theorem copyCheck_used (b : Nat) (w : World) (h0 : w.cell? ⟨b, 0, none⟩ = some (.pointer (some ⟨b, 0, none⟩))) :
    Calls Try.prog 112 #[.pointer (some ⟨b, 0, none⟩)] w fun e w' => e = .returned (.tuple #[]) ∧ w' = w := by
  obtain ⟨j, hj, _⟩ := Option.map_eq_some_iff.1 Try.bsize
  go_enter Try.func112, Try.ntmps112
  go_wp2
  rw [Lib.run_neq_ptr_same w _ Try.underlying107 hj]
  go_wp2
  go_end0
  exact ⟨rfl, rfl⟩

set_option maxHeartbeats 1000000 in
set_option maxRecDepth 100000 in
theorem copyCheck_fresh (b : Nat) (w : World) (h0 : w.cell? ⟨b, 0, none⟩ = some (.pointer none)) (hsh : w.shape? b = some (110, 2)) (hfz : w.frozen? ⟨b, 0, none⟩ = false) :
    Calls Try.prog 112 #[.pointer (some ⟨b, 0, none⟩)] w fun e w' => e = .returned (.tuple #[]) ∧ w' = w.setCell ⟨b, 0, none⟩ (.pointer (some ⟨b, 0, none⟩)) := by
  obtain ⟨j, hj, hjs⟩ := Option.map_eq_some_iff.1 Try.bsize
  go_enter Try.func112, Try.ntmps112
  go_wp2
  rw [Lib.run_to_unsafe w ⟨b, 0, none⟩ Try.underlying107 Try.underlying187 hj (by rw [hjs]; decide) hsh (Nat.zero_lt_succ 1)]
  simp only [Result.andThen]
  rw [Oper.upon_value]
  go_wp2
  rw [run_callFunc_extern Try.func144 (by kernel_rfl) (by kernel_rfl) (by kernel_rfl) (e := Extern.AbiNoEscape.same) (by kernel_rfl)]
  rw [Lib.run_noEscape]
  simp only [Result.andThen]
  rw [Oper.upon_value]
  go_wp2
  rw [Lib.run_from_unsafe w ⟨b, 0, none⟩ Try.underlying187 Try.underlying107 hj hsh Try.blies]
  simp only [Result.andThen]
  rw [Oper.upon_value]
  go_wp2
  go_end0
  exact ⟨rfl, rfl⟩

theorem setCell_row {w : World} {g : Nat} {p v x : Value} {T : TypeId} (h : w.heap[g]? = some (.cells #[p, v] T (0, 0))) : w.setCell ⟨g, 0, none⟩ x = w.setRow g #[x, v] ∧ w.setCell ⟨g, 1, none⟩ x = w.setRow g #[p, x] := by
  constructor
  · rw [setCell_eq_setRow w g 0 #[p, v] T (0, 0) x h]
    rfl
  · rw [setCell_eq_setRow w g 1 #[p, v] T (0, 0) x h]
    rfl

/-- Whatever a builder holds, it is used thereafter. -/
theorem copyCheck_any (b : Nat) (p v : Value) (w : World) (h : w.heap[b]? = some (.cells #[p, v] 110 (0, 0))) (hp : p = .pointer none ∨ p = .pointer (some ⟨b, 0, none⟩)) :
    Calls Try.prog 112 #[.pointer (some ⟨b, 0, none⟩)] w fun e w' => e = .returned (.tuple #[]) ∧ w' = w.setRow b #[.pointer (some ⟨b, 0, none⟩), v] := by
  have c0 : w.cell? ⟨b, 0, none⟩ = some p := by rw [Lib.cell_of_heap h]; rfl
  rcases hp with hp | hp
  · subst hp
    refine (copyCheck_fresh b w c0 (by simp [World.shape?, h]) (Lib.frozen_of_heap h 0)).mono ?_
    rintro e w' ⟨h1, h2⟩
    exact ⟨h1, by rw [h2, (setCell_row h).1]⟩
  · subst hp
    refine (copyCheck_used b w c0).mono ?_
    rintro e w' ⟨h1, h2⟩
    exact ⟨h1, by rw [h2, setRow_self w b _ _ _ h]⟩


/-- The kit's law of 'append(b, s...)' once more, and where the row lies thereafter. -/
theorem append_own_string_at {P : Program} (w : World) (base : Nat) (t u ty e : TypeId) (i : TypeInfo) (ht : P.underlying t = some (.slice e)) (hu : P.underlying u = some .string) (hi : P.info? e = some i) (hz : i.zero = some (.int .u8 0))
    (hsize : i.size = 1) (hby : i.bytes = 1)
    (v : Value) (n : Nat) (xs : List Value) (hown : w.ownsRow base e 1 v n xs) (s : ByteArray)
    (h63 : n + s.size ≤ maxLen) (hbytes : n + s.size ≤ 140737488355328) (hbase : base ≤ w.heap.size) :
    ∃ v' w', (Builtin.append_ #[t, u] ty #[v, .string s]).run P w = .ok v' w' ∧ w'.ownsRow base e 1 v' (n + s.size) (xs ++ Lib.strCells s) ∧ w.grownBy w' v.ownBlock ∧ (v'.ownBlock = v.ownBlock ∨ v'.ownBlock = some w.heap.size) := by
  have hsmall : n + s.size ≤ 9223372036854775807 := by simp only [maxLen] at h63; omega
  have hxl : xs.length = n := by simpa using hown.1
  have hlen : (xs ++ Lib.strCells s).length = (n + s.size) * 1 := by rw [List.length_append, hxl, Lib.strCells_length, Nat.mul_one]
  have grown : ∀ (old : Nat), old < n + s.size → ∀ (row : Option Nat),
      (w.drew.alloc (.cells (xs.toArray ++ (Lib.strCells s).toArray ++ Builtin.zeroCells (Value.int .u8 0).cells (grownCap w (n + s.size) old e - (n + s.size))) e)).ownsRow base e 1
        (.slice (some ⟨w.heap.size, 0, none⟩) (n + s.size) (grownCap w (n + s.size) old e)) (n + s.size) (xs ++ Lib.strCells s) ∧
      w.grownBy (w.drew.alloc (.cells (xs.toArray ++ (Lib.strCells s).toArray ++ Builtin.zeroCells (Value.int .u8 0).cells (grownCap w (n + s.size) old e - (n + s.size))) e)) row := by
    intro old ho row
    have hge := grownCap_ge w (n + s.size) old e
    have hcm : grownCap w (n + s.size) old e ≤ maxLen := grownCap_le_maxLen w (n + s.size) old e h63
    refine ⟨⟨hlen, .inr ⟨w.heap.size, _, _, rfl, hbase, heap_alloc_new w.drew _, hge, hcm, ?_, ?_⟩⟩, ⟨rfl, rfl, rfl, by simp, fun k hk _ => (by show (w.drew.heap.push _)[k]? = _; rw [Array.getElem?_push_lt (show k < w.drew.heap.size from hk), Array.getElem?_eq_getElem (show k < w.heap.size from hk)]; rfl)⟩⟩
    · have hz1 : (Value.int IntKind.u8 0).cells.size = 1 := rfl
      simp only [Array.size_append, List.size_toArray, size_zeroCells, hz1, hxl, Lib.strCells_length]
      omega
    · simp only [Array.toList_append, List.append_assoc]
      rw [← List.append_assoc, ← hlen]
      exact List.take_left
  rcases hown.2 with ⟨rfl, rfl⟩ | ⟨g, cap, cur, rfl, hbg, hg, hnc, hcm, hcs, htake⟩
  · have hx : xs = [] := List.eq_nil_of_length_eq_zero hxl
    subst hx
    by_cases hm : s.size = 0
    · have hn : Lib.strCells s = [] := List.eq_nil_of_length_eq_zero (by rw [Lib.strCells_length]; exact hm)
      refine ⟨.slice none 0 0, w, ?_, by rw [hm, hn]; exact World.ownsRow_nil w base e 1, ⟨rfl, rfl, rfl, Nat.le_refl _, fun _ _ _ => rfl⟩, .inl rfl⟩
      have hf := Lib.run_firstCells_string (P := P) w 1 s
      rw [hm] at hf
      simp [Builtin.append_, run_underlying ht, run_underlying hu, sizeOf, typeInfo, hi, hsize, Builtin.lenOf, hm, hf]
    · have hr := run_append_nil_string (P := P) w t u ty e i (.int .u8 0) ht hu hi hz s (by omega) (by omega) (by rw [hby]; omega)
      have hgr := grown 0 (by omega) (Value.ownBlock (.slice none 0 0))
      simp only [Nat.zero_add, List.nil_append, Array.empty_append] at hgr ⊢
      have e1 : (s.data.map fun b => Value.int .u8 b.toNat) = (Lib.strCells s).toArray := by
        apply Array.ext'
        simp [Lib.strCells]
      rw [e1] at hr
      exact ⟨_, _, hr, hgr.1, hgr.2, .inr rfl⟩
  · by_cases hroom : n + s.size ≤ cap
    · have hcs' : cur.size = cap := by simpa using hcs
      have hr := Lib.run_append_room_string (P := P) w t u ty e i ht hu hi hsize g n cap cur hg s hroom (by omega)
      refine ⟨_, _, hr, ⟨hlen, .inr ⟨g, cap, _, rfl, hbg, setRow_heap w g cur _ e _ hg, hroom, hcm, ?_, ?_⟩⟩, ⟨rfl, rfl, rfl, by simp, fun k _ hk => setRow_other w g k _ (fun e => hk (by simp [Value.ownBlock, e]))⟩, .inl rfl⟩
      · simp only [List.size_toArray, List.length_append, List.length_take, List.length_drop, Array.length_toList, Lib.strCells_length]
        omega
      · have ht' : cur.toList.take n = xs := by simpa using htake
        rw [ht', ← hlen]
        exact List.take_left
    · have holds : ∀ j u, xs[j]? = some u → w.cell? ((⟨g, 0, none⟩ : Addr).add j) = some u := hown.cells (g := g) rfl
      have hr := Lib.run_append_grow_string (P := P) w t u ty e i (.int .u8 0) ht hu hi hz ⟨g, 0, none⟩ n cap xs (by rw [hsize]; simpa using hxl) holds s (by omega) (by omega) (by rw [hby]; exact growslice_fits (by omega) (by omega))
      have hgr := grown cap (by omega) (Value.ownBlock (.slice (some ⟨g, 0, none⟩) n cap))
      exact ⟨_, _, hr, hgr.1, hgr.2, .inr rfl⟩

theorem wp_append_at {P : Program} {w : World} {ops : Array Oper} {rest : List Oper} {o : Oper} {a : Act} {Q : Exit → Act → World → Prop} (hgd : o.guard = none) (sl x : Operand) (t u : TypeId)
    (ho : o.op = .call { callee := .builtin .append, args := #[sl, x], argTypes := #[t, u] })
    (base : Nat) (e : TypeId) (i : TypeInfo) (ht : P.underlying t = some (.slice e)) (hu : P.underlying u = some .string) (hi : P.info? e = some i) (hz : i.zero = some (.int .u8 0))
    (hsize : i.size = 1) (hby : i.bytes = 1)
    (v : Value) (n : Nat) (xs : List Value) (hs : a.eval sl = v) (hown : w.ownsRow base e 1 v n xs) (s : ByteArray) (hx : a.eval x = .string s)
    (h63 : n + s.size ≤ maxLen) (hbytes : n + s.size ≤ 140737488355328) (hbase : base ≤ w.heap.size)
    (h : ∀ v' w', w'.ownsRow base e 1 v' (n + s.size) (xs ++ Lib.strCells s) → w.grownBy w' v.ownBlock → (v'.ownBlock = v.ownBlock ∨ v'.ownBlock = some w.heap.size) → wpList P ops Q rest (a.put o.dst v') w') : wpList P ops Q (o :: rest) a w := by
  refine wpList_plain hgd fun K hK => ?_
  obtain ⟨v', w', hr, h2, h3, h4⟩ := append_own_string_at (P := P) w base t u o.type e i ht hu hi hz hsize hby v n xs hown s h63 hbytes hbase
  unfold Oper.wp execOp
  simp only [ho, resolve, invoke, builtin, Sem.run_bind, Sem.run_pure, Result.andThen_ok, List.map_toArray, List.map_cons, List.map_nil, hs, hx, hr]
  exact hK _ _ (h v' w' h2 h3 h4)

set_option maxHeartbeats 2000000 in
set_option maxRecDepth 100000 in
theorem writeString (b : Nat) (p v : Value) (n base : Nat) (inner : List Value) (s : List UInt8) (w : World) (h : w.heap[b]? = some (.cells #[p, v] 110 (0, 0))) (hp : p = .pointer none ∨ p = .pointer (some ⟨b, 0, none⟩))
    (hown : w.ownsRow base 5 1 v n inner) (hne : blk v ≠ some b) (hbase : base ≤ w.heap.size) (hlen : n + s.length ≤ 140737488355328) :
    Calls Try.prog 70 #[.pointer (some ⟨b, 0, none⟩), .string ⟨s.toArray⟩] w fun en w' => en = .returned (.tuple #[.int .i64 s.length, .nilIface]) ∧ ∃ (w2 : World) (v' : Value),
      (w.setRow b #[.pointer (some ⟨b, 0, none⟩), v]).grownBy w2 v.ownBlock ∧ w2.ownsRow base 5 1 v' (n + s.length) (inner ++ bytesV s) ∧ (v'.ownBlock = v.ownBlock ∨ v'.ownBlock = some w.heap.size) ∧
      w' = w2.setRow b #[.pointer (some ⟨b, 0, none⟩), v'] := by
  obtain ⟨i0, hi, hz0, hz1, hz2⟩ := info_parts Try.binfo
  have hob := ownsRow_blk hown
  have hcc := copyCheck_any b p v w h hp
  clear hp
  go_enter Try.func70, Try.ntmps70
  go_wp2_with (go_at_call 112; refine hcc.mono ?_)
  rintro e w1 ⟨rfl, hw1⟩
  replace hw1 := hw1.symm
  clear hcc
  have hbk : w1.heap[b]? = some (.cells #[.pointer (some ⟨b, 0, none⟩), v] 110 (0, 0)) := by rw [← hw1]; exact setRow_heap w b _ _ _ _ h
  have hsz : w1.heap.size = w.heap.size := by rw [← hw1]; simp
  have hown1 : w1.ownsRow base 5 1 v n inner := ownsRow_at hown (fun k hk => by rw [← hw1]; exact setRow_other w b k _ (fun e => hne (by rw [← e]; exact hk)))
  have c0 : w1.cell? ⟨b, 0, none⟩ = some (.pointer (some ⟨b, 0, none⟩)) := by rw [Lib.cell_of_heap hbk]; rfl
  have c1 : w1.cell? ⟨b, 1, none⟩ = some v := by rw [Lib.cell_of_heap hbk]; rfl
  dsimp only
  go_wp2_with (at_builtin; refine wp_append_at rfl _ _ 108 9 rfl base 5 i0 Try.underlying108 Try.underlying9 hi hz0 hz1 hz2 _ _ _ rfl hown1 ⟨s.toArray⟩ rfl ?c3 ?c4 ?c5 ?_)
  case c3 => show n + s.length ≤ maxLen; unfold maxLen; omega
  case c4 => exact hlen
  case c5 => omega
  intro v' w2 hown' hgrow h3
  have hlt : b < w1.heap.size := by
    rcases Nat.lt_or_ge b w1.heap.size with h' | h'
    · exact h'
    · simp [Array.getElem?_eq_none h'] at hbk
  have hb2 : w2.heap[b]? = some (.cells #[.pointer (some ⟨b, 0, none⟩), v] 110 (0, 0)) := by
    rw [hgrow.block b hlt (fun e => hne (by rw [hob]; exact e.symm))]
    exact hbk
  have d0 : w2.cell? ⟨b, 0, none⟩ = some (.pointer (some ⟨b, 0, none⟩)) := by rw [Lib.cell_of_heap hb2]; rfl
  have d1 : w2.cell? ⟨b, 1, none⟩ = some v := by rw [Lib.cell_of_heap hb2]; rfl
  have f1 : w2.frozen? ⟨b, 1, none⟩ = false := Lib.frozen_of_heap hb2 1
  have hself := (setCell_row (x := v') hb2).2
  obtain ⟨ao, n', cap, hv'⟩ : ∃ ao n' cap, v' = .slice ao n' cap := by
    rcases hown'.2 with ⟨hv, _⟩ | ⟨g, cap, cur, hv, _⟩
    · exact ⟨_, _, _, hv⟩
    · exact ⟨_, _, _, hv⟩
  subst hv'
  go_wp2
  go_ret2
  refine ⟨rfl, w2, _, by rw [hw1]; exact hgrow, hown', h3, rfl⟩

set_option maxHeartbeats 1000000 in
set_option maxRecDepth 100000 in
theorem putString (b : Nat) (p v : Value) (n base : Nat) (inner : List Value) (s : List UInt8) (w : World) (h : w.heap[b]? = some (.cells #[p, v] 110 (0, 0))) (hp : p = .pointer none ∨ p = .pointer (some ⟨b, 0, none⟩))
    (hown : w.ownsRow base 5 1 v n inner) (hne : blk v ≠ some b) (hbase : base ≤ w.heap.size) (hlen : n + s.length ≤ 140737488355328) :
    Calls Try.prog 69 #[.string ⟨s.toArray⟩, .pointer (some ⟨b, 0, none⟩)] w fun en w' => en = .returned (.tuple #[]) ∧ ∃ (w2 : World) (v' : Value),
      (w.setRow b #[.pointer (some ⟨b, 0, none⟩), v]).grownBy w2 v.ownBlock ∧ w2.ownsRow base 5 1 v' (n + s.length) (inner ++ bytesV s) ∧ (v'.ownBlock = v.ownBlock ∨ v'.ownBlock = some w.heap.size) ∧
      w' = w2.setRow b #[.pointer (some ⟨b, 0, none⟩), v'] := by
  have hcc := writeString b p v n base inner s w h hp hown hne hbase hlen
  clear hp
  go_enter Try.func69, Try.ntmps69
  go_wp2_with (go_at_call 70; refine hcc.mono ?_)
  rintro e w1 ⟨rfl, hh⟩
  dsimp only
  go_wp2
  go_end0
  exact ⟨rfl, hh⟩

theorem freeze_grown {w : World} {g n : Nat} : w.grownBy (w.drew.freeze ⟨g, 0, none⟩ n) (some g) := by
  unfold World.freeze
  split
  · exact ⟨rfl, rfl, rfl, Nat.le_refl _, fun _ _ _ => rfl⟩
  · exact ⟨rfl, rfl, rfl, by simp, fun k hk hne => by
      simp only [Array.getElem?_modify]
      rw [if_neg (fun e => hne (by rw [← e]))]
      rfl⟩

set_option maxHeartbeats 1000000 in
set_option maxRecDepth 100000 in
theorem builderString (b : Nat) (p v : Value) (base : Nat) (l : List UInt8) (w : World) (hbk : w.heap[b]? = some (.cells #[p, v] 110 (0, 0))) (hown : w.ownsRow base 5 1 v l.length (bytesV l)) (hne : blk v ≠ some b) :
    Calls Try.prog 72 #[.pointer (some ⟨b, 0, none⟩)] w fun e w' => e = .returned (.string ⟨l.toArray⟩) ∧ w.grownBy w' v.ownBlock := by
  have hlt : b < w.heap.size := by
    rcases Nat.lt_or_ge b w.heap.size with h' | h'
    · exact h'
    · simp [Array.getElem?_eq_none h'] at hbk
  have hUS0 : ∀ (W : World) (q : Option Addr), (Builtin.unsafeString_ #[167, 3] 9 #[.pointer q, .int .i64 0]).run Try.prog W = .ok (.string .empty) W := fun W q => Lib.run_unsafeString_none W _ _ _ q
  rcases hown.2 with ⟨hv, hl0⟩ | ⟨g, cap, cur, hv, hbg, hg, hnc, hcm, hcs, htake⟩
  · subst hv
    obtain rfl : l = [] := List.eq_nil_of_length_eq_zero hl0
    have c1 : w.drew.cell? ⟨b, 1, none⟩ = some (.slice none 0 0) := by
      have : w.drew.heap[b]? = some (.cells #[p, .slice none 0 0] 110 (0, 0)) := hbk
      rw [Lib.cell_of_heap this]; rfl
    have hSD : (Builtin.unsafeSliceData_ #[108] 167 #[.slice none 0 0]).run Try.prog w.drew = .ok (.pointer none) w.drew := rfl
    go_enter Try.func72, Try.ntmps72
    go_wp2
    go_region
    all_goals (go_wp2; go_ret; exact ⟨rfl, ⟨rfl, rfl, rfl, Nat.le_refl _, fun _ _ _ => rfl⟩⟩)
  · subst hv
    by_cases h0 : l = []
    · subst h0
      by_cases hc0 : cap = 0
      · subst hc0
        have c1 : w.drew.cell? ⟨b, 1, none⟩ = some (.slice (some ⟨g, 0, none⟩) 0 0) := by
          have : w.drew.heap[b]? = some (.cells #[p, .slice (some ⟨g, 0, none⟩) 0 0] 110 (0, 0)) := hbk
          rw [Lib.cell_of_heap this]; rfl
        have hSD : (Builtin.unsafeSliceData_ #[108] 167 #[.slice (some ⟨g, 0, none⟩) 0 0]).run Try.prog w.drew = .ok (.pointer (some ⟨w.drew.heap.size, 0, none⟩)) (w.drew.alloc (.view ⟨g, 0, none⟩ 5)) :=
          Lib.run_unsafeSliceData_zero w.drew _ _ 5 Try.underlying167 ⟨g, 0, none⟩ 0 (5, cur.size) (by have hg' : w.drew.heap[g]? = some (.cells cur 5 (0, 0)) := hg; simp [World.shape?, hg'])
        have c2 : (w.drew.alloc (.view ⟨g, 0, none⟩ 5)).cell? ⟨b, 1, none⟩ = some (.slice (some ⟨g, 0, none⟩) 0 0) := by
          have : (w.drew.alloc (.view ⟨g, 0, none⟩ 5)).heap[b]? = _ := (Lib.alloc_old w.drew _ b hlt).trans hbk
          rw [Lib.cell_of_heap this]; rfl
        have c3 : (w.alloc (.view ⟨g, 0, none⟩ 5)).drew.cell? ⟨b, 1, none⟩ = some (.slice (some ⟨g, 0, none⟩) 0 0) := c2
        have c0 : w.cell? ⟨b, 1, none⟩ = some (.slice (some ⟨g, 0, none⟩) 0 0) := c1
        go_enter Try.func72, Try.ntmps72
        go_wp2
        go_region
        all_goals (go_wp2; go_ret; exact ⟨rfl, ⟨rfl, rfl, rfl, by simp, fun k hk _ => (by show (w.drew.heap.push _)[k]? = _; rw [Array.getElem?_push_lt (show k < w.drew.heap.size from hk), Array.getElem?_eq_getElem (show k < w.heap.size from hk)]; rfl)⟩⟩)
      · have c1 : w.drew.cell? ⟨b, 1, none⟩ = some (.slice (some ⟨g, 0, none⟩) 0 cap) := by
          have : w.drew.heap[b]? = some (.cells #[p, .slice (some ⟨g, 0, none⟩) 0 cap] 110 (0, 0)) := hbk
          rw [Lib.cell_of_heap this]; rfl
        have hSD : (Builtin.unsafeSliceData_ #[108] 167 #[.slice (some ⟨g, 0, none⟩) 0 cap]).run Try.prog w.drew = .ok (.pointer (some ⟨g, 0, none⟩)) w.drew :=
          Lib.run_unsafeSliceData_row _ _ _ _ _ _ hc0
        clear hc0
        go_enter Try.func72, Try.ntmps72
        go_wp2
        go_region
        all_goals (go_wp2; go_ret; exact ⟨rfl, ⟨rfl, rfl, rfl, Nat.le_refl _, fun _ _ _ => rfl⟩⟩)
    · have hl0 : l.length ≠ 0 := by simpa using h0
      have c1 : w.drew.cell? ⟨b, 1, none⟩ = some (.slice (some ⟨g, 0, none⟩) l.length cap) := by
        have : w.drew.heap[b]? = some (.cells #[p, .slice (some ⟨g, 0, none⟩) l.length cap] 110 (0, 0)) := hbk
        rw [Lib.cell_of_heap this]; rfl
      have hSD : (Builtin.unsafeSliceData_ #[108] 167 #[.slice (some ⟨g, 0, none⟩) l.length cap]).run Try.prog w.drew = .ok (.pointer (some ⟨g, 0, none⟩)) w.drew :=
        Lib.run_unsafeSliceData_row _ _ _ _ _ _ (by omega)
      have hUS : (Builtin.unsafeString_ #[167, 3] 9 #[.pointer (some ⟨g, 0, none⟩), .int .i64 l.length]).run Try.prog w.drew = .ok (.string ⟨l.toArray⟩) (w.drew.freeze ⟨g, 0, none⟩ l.length) := by
        refine Lib.run_unsafeString_row w.drew 167 3 9 5 Try.underlying167 Try.bcells g cur.size (by have hg' : w.drew.heap[g]? = some (.cells cur 5 (0, 0)) := hg; simp [World.shape?, hg']) l h0 (by omega) (by unfold maxLen at hcm; omega) ?_
        intro j x hx
        have := hown.cells (g := g) rfl j (.int .u8 x.toNat) (by simp [bytesV, hx])
        exact this
      go_enter Try.func72, Try.ntmps72
      go_wp2
      go_region
      all_goals (go_wp2; go_ret; exact ⟨rfl, freeze_grown⟩)

end Go.Proofs
namespace Go.Ab
open Go.Proofs
theorem f69_c : PutOK Try.prog 69 5 110 := ⟨Try.call69, fun g p v n base inner s w h hp ho hn hb hl => putString g p v n base inner s w h hp ho hn hb hl⟩
theorem f72_c : StrOK Try.prog 72 5 110 := ⟨Try.call72, fun g p v base s w h ho hn => builderString g p v base s w h ho hn⟩
end Go.Ab
