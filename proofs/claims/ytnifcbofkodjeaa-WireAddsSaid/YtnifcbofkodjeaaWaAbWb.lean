import Derived.Test.YtnifcbofkodjeaaWaAbWa
set_option linter.unusedVariables false
namespace Go.Ab

/-! ### Words of 64 bits -/
theorem wu64 {n : Int} (h : 0 ≤ n) (h' : n < 18446744073709551616) : IntKind.u64.wrap n = n := by
  unfold IntKind.wrap
  simp only [IntKind.signed, IntKind.bits]
  first | omega | (simp; omega)
theorem wu8m (n : Nat) : IntKind.u8.wrap (n : Int) = ((n % 256 : Nat) : Int) := by
  unfold IntKind.wrap
  simp only [IntKind.signed, IntKind.bits]
  first | omega | (simp; omega) | simp
theorem or64 {x y : Nat} (hx : x < 18446744073709551616) (hy : y < 18446744073709551616) : bitsN .or .u64 (x : Int) (y : Int) = ((x ||| y : Nat) : Int) := by
  have h1 : x ||| y < 2 ^ 64 := Nat.or_lt_two_pow hx hy
  show IntKind.u64.wrap (BitVec.ofInt 64 (x : Int) ||| BitVec.ofInt 64 (y : Int)).toNat = _
  rw [BitVec.ofInt_natCast, BitVec.ofInt_natCast, BitVec.toNat_or, BitVec.toNat_ofNat, BitVec.toNat_ofNat, Nat.mod_eq_of_lt (by omega), Nat.mod_eq_of_lt (by omega), wu64 (by omega) (by omega)]
theorem and64 {x y : Nat} (hx : x < 18446744073709551616) (hy : y < 18446744073709551616) : bitsN .and .u64 (x : Int) (y : Int) = ((x &&& y : Nat) : Int) := by
  have h1 : x &&& y < 18446744073709551616 := Nat.lt_of_le_of_lt Nat.and_le_left hx
  show IntKind.u64.wrap (BitVec.ofInt 64 (x : Int) &&& BitVec.ofInt 64 (y : Int)).toNat = _
  rw [BitVec.ofInt_natCast, BitVec.ofInt_natCast, BitVec.toNat_and, BitVec.toNat_ofNat, BitVec.toNat_ofNat, Nat.mod_eq_of_lt (by omega), Nat.mod_eq_of_lt (by omega), wu64 (by omega) (by omega)]

/-! ### Sets -/
def hb (n : Int) : Nat := if 1 ≤ n ∧ n ≤ 64 then 2 ^ (64 - n).toNat else 0
def lb (n : Int) : Nat := if 65 ≤ n ∧ n ≤ 128 then 2 ^ (128 - n).toNat else 0
theorem pow_lt64 {m : Nat} (h : m ≤ 63) : 2 ^ m < 18446744073709551616 := Nat.pow_lt_pow_right (a := 2) (m := m) (n := 64) (by omega) (by omega)
theorem hb_lt (n : Int) : hb n < 18446744073709551616 := by
  unfold hb
  split
  · exact pow_lt64 (by omega)
  · omega
theorem lb_lt (n : Int) : lb n < 18446744073709551616 := by
  unfold lb
  split
  · exact pow_lt64 (by omega)
  · omega
theorem pow_ok {m : Nat} (h : m ≤ 63) : IntKind.u64.wrap ((1 : Int) * 2 ^ (min m (IntKind.bits IntKind.u64))) = ((2 ^ m : Nat) : Int) := by
  have e : min m (IntKind.bits IntKind.u64) = m := Nat.min_eq_left (by show m ≤ 64; omega)
  have e2 : ((2 : Int) ^ m) = ((2 ^ m : Nat) : Int) := by rw [Int.natCast_pow]; rfl
  have key : ∀ p : Nat, p < 18446744073709551616 → IntKind.u64.wrap (p : Int) = (p : Int) := fun p hp => wu64 (by omega) (by omega)
  rw [e, Int.one_mul, e2, key _ (pow_lt64 h)]

theorem bit_ok {k : Nat} {n : Int} : f124 k (n, ()) = some ((((hb n : Nat) : Int), ((lb n : Nat) : Int)), ()) := by
  show f124_m k (n, ()) = _
  dsimp only [f124_m]
  unfold hb lb
  by_cases h1 : n < 1
  · rw [cond_yes h1, if_neg (by omega), if_neg (by omega)]
    rfl
  rw [cond_no h1]
  by_cases h2 : n > 128
  · rw [cond_yes h2, if_neg (by omega), if_neg (by omega)]
    rfl
  rw [cond_no h2]
  by_cases h3 : n ≤ 64
  · rw [cond_yes h3, if_pos ⟨by omega, h3⟩, if_neg (by omega), w64 (by omega) (by omega), chk_decide (by omega), pow_ok (by omega)]
    rfl
  · rw [cond_no h3, if_neg (by omega), if_pos ⟨by omega, by omega⟩, w64 (by omega) (by omega), chk_decide (by omega), pow_ok (by omega)]
    rfl

def setS (a : Nat × Nat) (x : Vl) : Nat × Nat := (a.1 ||| hb x.1, a.2 ||| lb x.1)
def setF (l : List Vl) : Nat × Nat := l.foldl setS (0, 0)
theorem set_lt : ∀ (l : List Vl) (a : Nat × Nat), a.1 < 18446744073709551616 → a.2 < 18446744073709551616 → (l.foldl setS a).1 < 18446744073709551616 ∧ (l.foldl setS a).2 < 18446744073709551616
  | [], a, h1, h2 => ⟨h1, h2⟩
  | x :: l, a, h1, h2 => by
    rw [List.foldl_cons]
    exact set_lt l _ (Nat.or_lt_two_pow (n := 64) h1 (hb_lt _)) (Nat.or_lt_two_pow (n := 64) h2 (lb_lt _))
theorem setF_lt (l : List Vl) : (setF l).1 < 18446744073709551616 ∧ (setF l).2 < 18446744073709551616 := set_lt l (0, 0) (by decide) (by decide)
theorem setF_snoc (l : List Vl) (x : Vl) : setF (l ++ [x]) = setS (setF l) x := by
  unfold setF
  rw [List.foldl_append]
  rfl

theorem set_ok {k : Nat} {m : Ms} (hl : m.2.length < 1000000) (hk : m.2.length < k) : f42 k (m, ()) = some (((((setF m.2).1 : Nat) : Int), (((setF m.2).2 : Nat) : Int)), ()) := by
  have key := ix_loop (B := fun R3 p => f42_b3 k R3 p) m.2.length (fun i : Nat => ((m.2, ((m.2.length : Nat) : Int), ((i : Nat) : Int), 0, 0, (((setF (m.2.take i)).1 : Nat) : Int), (((setF (m.2.take i)).2 : Nat) : Int)) : f42_t3))
    (fun _ => some (((((setF m.2).1 : Nat) : Int), (((setF m.2).2 : Nat) : Int)), ())) (fun i L hi hL => by
    dsimp only [f42_b3]
    by_cases hlt : i < m.2.length
    · have hL := hL hlt
      obtain ⟨b1, b2⟩ := setF_lt (m.2.take i)
      rw [List.take_succ_eq_append_getElem hlt, setF_snoc] at hL
      have h82 : f82 k (((((setF (m.2.take i)).1 : Nat) : Int), (((setF (m.2.take i)).2 : Nat) : Int)), m.2[i].1, ()) = some (((((setF (m.2.take i)).1 ||| hb m.2[i].1 : Nat) : Int), (((setF (m.2.take i)).2 ||| lb m.2[i].1 : Nat) : Int)), ()) := by
        show f82_m k _ = _
        dsimp only [f82_m]
        rw [bit_ok, Option.bind_some]
        show some ((bitsN .or .u64 _ _, bitsN .or .u64 _ _), ()) = _
        rw [or64 b1 (hb_lt _), or64 b2 (lb_lt _)]
      rw [cond_yes (by omega), chk_decide (by omega), chk_decide (by omega), toNat_cast, at_index hlt, h82, Option.bind_some, wsucc (by omega)]
      exact hL
    · rw [cond_no (by omega), List.take_of_length_le (by omega)]) k 0 (Nat.zero_le _) (by omega)
  exact key

theorem hasI_cons (x : Int) (l : List Int) (n : Int) : hasI (x :: l) n = ((n == x) || hasI l n) := by
  unfold hasI
  rw [List.any_cons]
theorem hb_bit {n : Int} {j : Nat} (h : j < 64) : (hb n).testBit j = ((64 : Int) - j == n) := by
  unfold hb
  by_cases h1 : 1 ≤ n ∧ n ≤ 64
  · rw [if_pos h1, Nat.testBit_two_pow]
    by_cases e : (64 : Int) - j = n
    · rw [eqI_true e, decide_eq_true (by omega)]
    · rw [eqI_false e, decide_eq_false (by omega)]
  · rw [if_neg h1, Nat.zero_testBit, eqI_false (by omega)]
theorem lb_bit {n : Int} {j : Nat} (h : j < 64) : (lb n).testBit j = ((128 : Int) - j == n) := by
  unfold lb
  by_cases h1 : 65 ≤ n ∧ n ≤ 128
  · rw [if_pos h1, Nat.testBit_two_pow]
    by_cases e : (128 : Int) - j = n
    · rw [eqI_true e, decide_eq_true (by omega)]
    · rw [eqI_false e, decide_eq_false (by omega)]
  · rw [if_neg h1, Nat.zero_testBit, eqI_false (by omega)]
theorem set_bits {j : Nat} (hj : j < 64) : ∀ (l : List Vl) (a : Nat × Nat), (l.foldl setS a).1.testBit j = (a.1.testBit j || hasI (l.map (·.1)) (64 - j)) ∧ (l.foldl setS a).2.testBit j = (a.2.testBit j || hasI (l.map (·.1)) (128 - j))
  | [], a => by
    constructor
    · show a.1.testBit j = (a.1.testBit j || false)
      rw [Bool.or_false]
    · show a.2.testBit j = (a.2.testBit j || false)
      rw [Bool.or_false]
  | x :: l, a => by
    obtain ⟨h1, h2⟩ := set_bits hj l (setS a x)
    rw [List.foldl_cons, h1, h2, List.map_cons, hasI_cons, hasI_cons]
    constructor
    · show ((a.1 ||| hb x.1).testBit j || _) = _
      rw [Nat.testBit_or, hb_bit hj, Bool.or_assoc]
    · show ((a.2 ||| lb x.1).testBit j || _) = _
      rw [Nat.testBit_or, lb_bit hj, Bool.or_assoc]
theorem setF_hi (l : List Vl) {j : Nat} (hj : j < 64) : (setF l).1.testBit j = hasI (l.map (·.1)) (64 - j) := by
  have := (set_bits hj l (0, 0)).1
  rw [Nat.zero_testBit, Bool.false_or] at this
  exact this
theorem setF_lo (l : List Vl) {j : Nat} (hj : j < 64) : (setF l).2.testBit j = hasI (l.map (·.1)) (128 - j) := by
  have := (set_bits hj l (0, 0)).2
  rw [Nat.zero_testBit, Bool.false_or] at this
  exact this

/-! ### Bytes of words -/
def pv (f : Nat → Bool) : Nat → Nat
  | 0 => 0
  | j + 1 => 2 * pv f j + (f j).toNat
theorem pv_lt (f : Nat → Bool) : ∀ j, pv f j < 2 ^ j
  | 0 => Nat.zero_lt_one
  | j + 1 => by
    have := pv_lt f j
    have h2 : (f j).toNat ≤ 1 := by cases f j <;> decide
    rw [Nat.pow_succ]
    show 2 * pv f j + (f j).toNat < _
    omega
theorem pv_congr {f g : Nat → Bool} : ∀ {n : Nat}, (∀ j, j < n → f j = g j) → pv f n = pv g n
  | 0, _ => rfl
  | n + 1, h => by
    show 2 * pv f n + (f n).toNat = 2 * pv g n + (g n).toNat
    rw [pv_congr (fun j hj => h j (by omega)), h n (by omega)]
theorem pv_key : ∀ y : Fin 256, y.val = pv (fun j => y.val.testBit (7 - j)) 8 := by decide +kernel
theorem byte_pv (x : Nat) : x % 256 = pv (fun j => x.testBit (7 - j)) 8 := by
  have h := pv_key ⟨x % 256, Nat.mod_lt _ (by omega)⟩
  dsimp only at h
  refine h.trans (pv_congr fun j hj => ?_)
  rw [show (256 : Nat) = 2 ^ 8 from rfl, Nat.testBit_mod_two_pow, decide_eq_true (by omega), Bool.true_and]

def by8 (x : Nat) : List UInt8 := (List.range 8).map fun i => UInt8.ofNat (x / 2 ^ (56 - 8 * i) % 256)
def rb8 (nums : List Int) (n : Int) : List UInt8 := (List.range 8).map fun (i : Nat) => UInt8.ofNat (pv (fun (j : Nat) => hasI nums (n + 8 * (i : Int) + (j : Int))) 8)
theorem by8_eq {x : Nat} {nums : List Int} {n : Int} (h : ∀ j : Nat, j < 64 → x.testBit j = hasI nums (n + (63 - j))) : by8 x = rb8 nums n := by
  unfold by8 rb8
  apply List.map_congr_left
  intro i hi
  have hi := List.mem_range.1 hi
  rw [byte_pv]
  refine congrArg UInt8.ofNat (pv_congr fun j hj => ?_)
  rw [Nat.testBit_div_two_pow, h _ (by omega)]
  refine congrArg (hasI nums) ?_
  omega

def bb (x i : Nat) : Int := ((x / 2 ^ (56 - 8 * i) % 256 : Nat) : Int)
theorem by_ok (k x : Nat) : f115 k ((x : Int), ()) = some ((bb x 0, bb x 1, bb x 2, bb x 3, bb x 4, bb x 5, bb x 6, bb x 7), ()) := by
  have e : ∀ s : Nat, IntKind.u8.wrap (Int.fdiv (x : Int) (2 ^ s)) = ((x / 2 ^ s % 256 : Nat) : Int) := fun s => by
    have e1 : ((2 : Int) ^ s) = ((2 ^ s : Nat) : Int) := by rw [Int.natCast_pow]; rfl
    rw [e1, Int.fdiv_eq_ediv_of_nonneg _ (Int.natCast_nonneg _), ← Int.natCast_ediv, wu8m]
  show some ((IntKind.u8.wrap (Int.fdiv (x : Int) (2 ^ 56)), IntKind.u8.wrap (Int.fdiv (x : Int) (2 ^ 48)), IntKind.u8.wrap (Int.fdiv (x : Int) (2 ^ 40)), IntKind.u8.wrap (Int.fdiv (x : Int) (2 ^ 32)),
    IntKind.u8.wrap (Int.fdiv (x : Int) (2 ^ 24)), IntKind.u8.wrap (Int.fdiv (x : Int) (2 ^ 16)), IntKind.u8.wrap (Int.fdiv (x : Int) (2 ^ 8)), IntKind.u8.wrap (Int.fdiv (x : Int) (2 ^ 0))), ()) = _
  rw [e 56, e 48, e 40, e 32, e 24, e 16, e 8, e 0]
  rfl
theorem by8_list (x : Nat) : List.map toByte [bb x 0, bb x 1, bb x 2, bb x 3, bb x 4, bb x 5, bb x 6, bb x 7] = by8 x := rfl
theorem by8_len (x : Nat) : (by8 x).length = 8 := rfl
theorem zstep {x p : Nat} (hp : 0 < p) (hx : x < p * 256) (h : x / p % 256 = 0) : x < p := by
  have h1 : x / p < 256 := Nat.div_lt_of_lt_mul hx
  rw [Nat.mod_eq_of_lt h1] at h
  exact Nat.lt_of_div_eq_zero hp h
theorem bb_zero {x : Nat} (hx : x < 18446744073709551616) : ((bb x 0 == 0) && ((bb x 1 == 0) && ((bb x 2 == 0) && ((bb x 3 == 0) && ((bb x 4 == 0) && ((bb x 5 == 0) && ((bb x 6 == 0) && ((bb x 7 == 0) && true)))))))) = decide (x = 0) := by
  by_cases h : x = 0
  · subst h
    rfl
  · rw [decide_eq_false h]
    cases hc : ((bb x 0 == 0) && ((bb x 1 == 0) && ((bb x 2 == 0) && ((bb x 3 == 0) && ((bb x 4 == 0) && ((bb x 5 == 0) && ((bb x 6 == 0) && ((bb x 7 == 0) && true)))))))) with
    | false => rfl
    | true =>
      exfalso
      have hb : ∀ i, (bb x i == 0) = true → x / 2 ^ (56 - 8 * i) % 256 = 0 := fun i hi => by
        have := eq_of_beq hi
        unfold bb at this
        exact Int.ofNat.inj this
      simp only [Bool.and_eq_true] at hc
      obtain ⟨c0, c1, c2, c3, c4, c5, c6, c7, _⟩ := hc
      have y0 := zstep (p := 2 ^ 56) (by decide) hx (hb 0 c0)
      have y1 := zstep (p := 2 ^ 48) (by decide) y0 (hb 1 c1)
      have y2 := zstep (p := 2 ^ 40) (by decide) y1 (hb 2 c2)
      have y3 := zstep (p := 2 ^ 32) (by decide) y2 (hb 3 c3)
      have y4 := zstep (p := 2 ^ 24) (by decide) y3 (hb 4 c4)
      have y5 := zstep (p := 2 ^ 16) (by decide) y4 (hb 5 c5)
      have y6 := zstep (p := 2 ^ 8) (by decide) y5 (hb 6 c6)
      have y7 := zstep (p := 2 ^ 0) (by decide) y6 (hb 7 c7)
      exact h (by have : x < 1 := y7; omega)

/-! ### Bitmaps -/
def bmB (h l : Nat) : List UInt8 := if l = 0 then by8 h else by8 (h ||| 9223372036854775808) ++ by8 l
def bmF (style : Int) (h l : Nat) : List UInt8 := if style = 1 then hexF (bmB h l) else bmB h l
theorem has1 {k h l : Nat} (hh : h < 18446744073709551616) (hl : l < 18446744073709551616) (h1 : h.testBit 63 = false) : f113 k (((h : Int), (l : Int)), 1, ()) = some (false, ()) := by
  show f113_m k _ = _
  dsimp only [f113_m]
  rw [bit_ok, Option.bind_some]
  show some (!((bitsN .and .u64 (h : Int) ((hb 1 : Nat) : Int) == (0 : Int)) && ((bitsN .and .u64 (l : Int) ((lb 1 : Nat) : Int) == (0 : Int)) && true)), ()) = _
  rw [and64 hh (hb_lt _), and64 hl (lb_lt _)]
  have e1 : h &&& hb 1 = 0 := by
    apply Nat.eq_of_testBit_eq
    intro j
    rw [Nat.testBit_and, Nat.zero_testBit, show hb 1 = 2 ^ 63 from rfl, Nat.testBit_two_pow]
    by_cases e : 63 = j
    · rw [← e, h1]; rfl
    · rw [decide_eq_false e, Bool.and_false]
  have e2 : l &&& lb 1 = 0 := by rw [show lb 1 = 0 from rfl, Nat.and_zero]
  rw [e1, e2]
  rfl

theorem bmput_ok {k h l : Nat} {style : Int} (hs : style = 1 ∨ style = 2) (hh : h < 18446744073709551616) (hl : l < 18446744073709551616) (h1 : h.testBit 63 = false) (hk : 1000 < k) : f71 k (style, ((h : Int), (l : Int)), ()) = some (bmF style h l, 0, ()) := by
  have h88 : f88 k (style, ()) = some (true, ()) := by
    rcases hs with rfl | rfl <;> rfl
  have h114 : f114 k (((h : Int), (l : Int)), ()) = some ((h : Int), (l : Int), ()) := rfl
  show f71_m k _ = _
  dsimp only [f71_m]
  rw [h88, Option.bind_some]
  dsimp only
  rw [Bool.not_true, cond_false, has1 hh hl h1, Option.bind_some]
  dsimp only
  rw [cond_false, h114, Option.bind_some]
  dsimp only
  rw [by_ok, Option.bind_some]
  dsimp only
  rw [bb_zero hl]
  unfold bmF bmB
  by_cases h0 : l = 0
  · rw [decide_eq_true h0, Bool.not_true, cond_false, by_ok, Option.bind_some, if_pos h0]
    dsimp only
    rw [by8_list, by8_len, chk_decide (by omega), List.append_nil]
    rcases hs with rfl | rfl
    · rw [eqI_true rfl, cond_true, hput_ok (by rw [by8_len]; omega) (by rw [by8_len]; omega), if_pos rfl, Option.bind_some]
    · rw [eqI_false (by decide), cond_false, if_neg (by decide)]
  · rw [decide_eq_false h0, Bool.not_false, cond_true, show (9223372036854775808 : Int) = ((9223372036854775808 : Nat) : Int) from rfl, or64 hh (by decide), by_ok, Option.bind_some, if_neg h0]
    dsimp only
    rw [by8_list, by8_list, by8_len, by8_len, chk_decide (by omega)]
    have hlen : (by8 (h ||| 9223372036854775808) ++ by8 l).length = 16 := rfl
    rcases hs with rfl | rfl
    · rw [eqI_true rfl, cond_true, hput_ok (by rw [hlen]; omega) (by rw [hlen]; omega), if_pos rfl, Option.bind_some]
    · rw [eqI_false (by decide), cond_false, if_neg (by decide)]

/-! The reference's. -/
theorem rbyte_inner {k : Nat} {nums : List Int} {n : Int} (hl : nums.length < 1000000) (hk : nums.length + 20 < k) (hn : 0 ≤ n ∧ n ≤ 1000) (R3 : f116_t3 → Option f116_r) (c : Nat) (hc : c < 8) (out : List Int) (ho : out.length ≤ 8) :
    loopP (fun R7 p => f116_b7 k R3 R7 p) k (nums, n, (c : Int), 0, 0, out) = R3 (nums, n, ((c + 1 : Nat) : Int), out ++ [((pv (fun j => hasI nums (n + 8 * c + j)) 8 : Nat) : Int)]) := by
  have key := ix_loop (B := fun R7 p => f116_b7 k R3 R7 p) 8 (fun j : Nat => ((nums, n, (c : Int), ((pv (fun j => hasI nums (n + 8 * c + j)) j : Nat) : Int), ((j : Nat) : Int), out) : f116_t7))
    (fun _ => R3 (nums, n, ((c + 1 : Nat) : Int), out ++ [((pv (fun j => hasI nums (n + 8 * c + j)) 8 : Nat) : Int)])) (fun j L hj hL => by
    dsimp only [f116_b7]
    by_cases hlt : j < 8
    · have hL := hL hlt
      have hp := pv_lt (fun j => hasI nums (n + 8 * c + j)) j
      have hp2 : 2 ^ j ≤ 2 ^ 7 := Nat.pow_le_pow_right (by omega) (by omega)
      rw [cond_yes (by omega), w64 (n := (8 : Int) * (c : Int)) (by omega) (by omega), w64 (n := n + 8 * (c : Int)) (by omega) (by omega), w64 (n := n + 8 * (c : Int) + (j : Int)) (by omega) (by omega), in_ok hl (by omega), Option.bind_some, wsucc (by omega)]
      dsimp only
      have hs : pv (fun j => hasI nums (n + 8 * c + j)) (j + 1) = 2 * pv (fun j => hasI nums (n + 8 * c + j)) j + (hasI nums (n + 8 * c + j)).toNat := rfl
      rw [hs] at hL
      generalize pv (fun j => hasI nums (n + 8 * c + j)) j = v at *
      rw [wu8 (n := (v : Int) * 2) (by omega) (by omega)]
      cases hh : hasI nums (n + 8 * (c : Int) + (j : Int)) with
      | true =>
        rw [hh] at hL
        rw [cond_true, wu8 (n := (v : Int) * 2 + 1) (by omega) (by omega), show ((v : Int) * 2 + 1) = ((2 * v + 1 : Nat) : Int) by omega]
        exact hL
      | false =>
        rw [hh] at hL
        rw [cond_false, show ((v : Int) * 2) = ((2 * v + 0 : Nat) : Int) by omega]
        exact hL
    · have hj : j = 8 := by omega
      rw [cond_no (by omega), chk_decide (by rw [List.length_singleton]; omega), chk_decide (by rw [List.length_singleton]; omega), wsucc (by omega), hj]) k 0 (Nat.zero_le _) (by omega)
  exact key

theorem rbyte_ok {k : Nat} {nums : List Int} {n : Int} (hl : nums.length < 1000000) (hk : nums.length + 20 < k) (hn : 0 ≤ n ∧ n ≤ 1000) : f116 k (nums, n, ()) = some (rb8 nums n, ()) := by
  have key := ix_loop (B := fun R3 p => f116_b3 k (f116_l7 k R3) R3 p) 8 (fun c : Nat => ((nums, n, ((c : Nat) : Int), (List.range c).map (fun (i : Nat) => ((pv (fun (j : Nat) => hasI nums (n + 8 * (i : Int) + (j : Int))) 8 : Nat) : Int))) : f116_t3))
    (fun _ => some (rb8 nums n, ())) (fun c L hc hL => by
    dsimp only [f116_b3]
    by_cases hlt : c < 8
    · have hL := hL hlt
      rw [List.range_succ, List.map_append] at hL
      rw [cond_yes (by omega)]
      show loopP (fun R7 p => f116_b7 k L R7 p) k _ = _
      rw [rbyte_inner hl hk hn L c hlt _ (by rw [List.length_map, List.length_range]; omega)]
      exact hL
    · have hc : c = 8 := by omega
      rw [cond_no (by omega), hc, List.map_map]
      rfl) k 0 (Nat.zero_le _) (by omega)
  exact key

def rmore (nums : List Int) (i : Nat) : Bool := (List.range i).any fun d => hasI nums (65 + d)
def rbmB (nums : List Int) : List UInt8 := if rmore nums 64 = true then rb8 (1 :: nums) 1 ++ rb8 nums 65 else rb8 nums 1

theorem rbm_ok {k : Nat} {nums : List Int} {style : Int} (hs : style = 1 ∨ style = 2) (hl : nums.length < 100000) (hk : 1000000 < k) (h1 : hasI nums 1 = false) : f73 k (style, nums, ()) = some (if style = 1 then hexF (rbmB nums) else rbmB nums, true, ()) := by
  have rlen : ∀ a b, (rb8 a b).length = 8 := fun a b => rfl
  have key := ix_loop (B := fun R5 p => f73_b5 k R5 p) 64 (fun i : Nat => ((style, nums, rmore nums i, ((65 + i : Nat) : Int)) : f73_t5)) (fun _ => some (if style = 1 then hexF (rbmB nums) else rbmB nums, true, ())) (fun i L hi hL => by
    dsimp only [f73_b5]
    by_cases hlt : i < 64
    · have hL := hL hlt
      have hm : rmore nums (i + 1) = (rmore nums i || hasI nums (65 + i)) := by
        unfold rmore
        rw [List.range_succ, List.any_append, List.any_cons, List.any_nil, Bool.or_false]
      rw [hm] at hL
      rw [cond_yes (by omega), wsucc (by omega)]
      cases hr : rmore nums i with
      | true =>
        rw [hr, Bool.true_or] at hL
        rw [cond_true]
        exact hL
      | false =>
        rw [hr, Bool.false_or] at hL
        rw [cond_false, in_ok (by omega) (by omega), Option.bind_some, show ((65 + i : Nat) : Int) = 65 + (i : Int) by omega]
        exact hL
    · have hi : i = 64 := by omega
      subst hi
      rw [cond_no (by omega), rbyte_ok (by omega) (by omega) (by omega), Option.bind_some]
      dsimp only
      unfold rbmB
      cases hr : rmore nums 64 with
      | true =>
        rw [cond_true, chk_decide (by rw [List.length_singleton]; omega), chk_decide (by rw [List.length_singleton]; omega), rbyte_ok (by rw [List.length_append, List.length_singleton]; omega) (by rw [List.length_append, List.length_singleton]; omega) (by omega), Option.bind_some, rbyte_ok (by omega) (by omega) (by omega), Option.bind_some]
        dsimp only
        rw [rlen, rlen, chk_decide (by omega), if_pos rfl]
        rcases hs with h | h
        · rw [eqI_true h, cond_true, rhput_ok (by rw [List.length_append, rlen, rlen]; omega) (by rw [List.length_append, rlen, rlen]; omega), if_pos h, Option.bind_some]
          rfl
        · rw [eqI_false (by omega), cond_false, if_neg (by omega)]
          rfl
      | false =>
        rw [cond_false, if_neg (show ¬ ((false : Bool) = true) by decide)]
        rcases hs with h | h
        · rw [eqI_true h, cond_true, rhput_ok (by rw [rlen]; omega) (by rw [rlen]; omega), if_pos h, Option.bind_some]
        · rw [eqI_false (by omega), cond_false, if_neg (by omega)]) k 0 (Nat.zero_le _) (by omega)
  have start : (f28 k (nums, 1, ())).bind (fun r1 => cond r1.1 (some (([] : List UInt8), false, ())) (f73_l5 k (style, nums, false, 65))) = some (if style = 1 then hexF (rbmB nums) else rbmB nums, true, ()) := by
    rw [in_ok (by omega) (by omega), Option.bind_some, h1]
    dsimp only
    rw [cond_false]
    exact key
  show f73_m k (f73_l5 k) _ = _
  dsimp only [f73_m]
  rcases hs with rfl | rfl
  · rw [neI_false (show (1 : Int) = 1 from rfl), cond_false]
    exact start
  · rw [neI_true (by decide), cond_true, neI_false (show (2 : Int) = 2 from rfl), cond_false]
    exact start

theorem bm_eq (l : List Vl) : bmB (setF l).1 (setF l).2 = rbmB (l.map (·.1)) := by
  have hhi : ∀ j : Nat, j < 64 → (setF l).1.testBit j = hasI (l.map (·.1)) (1 + (63 - j)) := fun j hj => by
    rw [setF_hi l hj]
    refine congrArg (hasI _) ?_
    omega
  have hlo : ∀ j : Nat, j < 64 → (setF l).2.testBit j = hasI (l.map (·.1)) (65 + (63 - j)) := fun j hj => by
    rw [setF_lo l hj]
    refine congrArg (hasI _) ?_
    omega
  unfold bmB rbmB
  cases hm : rmore (l.map (·.1)) 64 with
  | true =>
    unfold rmore at hm
    obtain ⟨d, hd, hh⟩ := List.any_eq_true.1 hm
    have hd := List.mem_range.1 hd
    have hb := hlo (63 - d) (by omega)
    rw [show (65 : Int) + (63 - ((63 - d : Nat) : Int)) = 65 + (d : Int) by omega, hh] at hb
    rw [if_pos rfl, if_neg (by intro e; rw [e, Nat.zero_testBit] at hb; cases hb)]
    rw [by8_eq hlo, by8_eq (nums := 1 :: l.map (·.1)) (n := 1) (fun j hj => by
      rw [Nat.testBit_or, hhi j hj, hasI_cons, show (9223372036854775808 : Nat) = 2 ^ 63 from rfl, Nat.testBit_two_pow]
      by_cases e : 63 = j
      · rw [decide_eq_true e, eqI_true (show (1 : Int) + (63 - (j : Int)) = 1 by omega), Bool.or_true, Bool.true_or]
      · rw [decide_eq_false e, eqI_false (show (1 : Int) + (63 - (j : Int)) ≠ 1 by omega), Bool.or_false, Bool.false_or])]
  | false =>
    have h0 : (setF l).2 = 0 := by
      apply Nat.eq_of_testBit_eq
      intro j
      rw [Nat.zero_testBit]
      by_cases hj : j < 64
      · rw [hlo j hj]
        cases hh : hasI (l.map (·.1)) (65 + (63 - (j : Int))) with
        | false => rfl
        | true =>
          unfold rmore at hm
          have := List.any_eq_false.1 hm (63 - j) (List.mem_range.2 (by omega))
          rw [show ((63 - j : Nat) : Int) = 63 - (j : Int) by omega] at this
          exact absurd hh this
      · exact Nat.testBit_lt_two_pow (Nat.lt_of_lt_of_le (setF_lt l).2 (Nat.pow_le_pow_right (n := 2) (i := 64) (j := j) (by omega) (by omega)))
    rw [if_neg (show ¬ ((false : Bool) = true) by decide), if_pos h0, by8_eq hhi]

end Go.Ab
