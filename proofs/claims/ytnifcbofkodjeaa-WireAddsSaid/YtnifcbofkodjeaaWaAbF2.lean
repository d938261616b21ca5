import Derived.Test.YtnifcbofkodjeaaWaAbF1
import Derived.Test.YtnifcbofkodjeaaWaAbB1
set_option maxRecDepth 100000
set_option linter.unusedVariables false
namespace Go.Ab
open Go.Proofs
/-! groat/bcd.Put -/
abbrev f66_r := List UInt8 × Bool × Unit
abbrev f66_x := List UInt8 × Unit
abbrev f66_t7 := List UInt8 × Int × List Int
def f66_s7 (p : f66_t7) : St := [(0, .tv (.f (.c (.v .str p.1)))), (8, .tv (.f (.c (.own 1256)))), (10, .tv (.f (.c (.v (.int .i64) p.2.1)))), (2513, .row 5 (.int .u8) p.2.2)]
def f66_b7 (k : Nat) (R7 : f66_t7 → Option f66_r) (p : f66_t7) : Option f66_r :=
  (cond (decide (p.2.1 < ((((List.length p.1) : Nat) : Int)))) (chk (decide ((0 : Int) ≤ p.2.1)) (chk (decide (p.2.1 < ((((List.length p.1) : Nat) : Int)))) (chk (decide ((0 : Int) ≤ (IntKind.i64.wrap (p.2.1 + (1 : Int))))) (chk (decide ((IntKind.i64.wrap (p.2.1 + (1 : Int))) < ((((List.length p.1) : Nat) : Int)))) (chk (decide ((((List.length p.2.2) + (List.length ([(bitsN .or .u8 (IntKind.u8.wrap ((IntKind.u8.wrap ((((UInt8.toNat (List.getD p.1 (Int.toNat p.2.1) 0) : Nat) : Int)) - (48 : Int))) * 2 ^ (min (Int.toNat (4 : Int)) (IntKind.bits IntKind.u8)))) (IntKind.u8.wrap ((((UInt8.toNat (List.getD p.1 (Int.toNat (IntKind.i64.wrap (p.2.1 + (1 : Int)))) 0) : Nat) : Int)) - (48 : Int))))]))) * (1 : Nat)) ≤ (140737488355328 : Nat))) (chk (decide (((List.length p.2.2) + (List.length ([(bitsN .or .u8 (IntKind.u8.wrap ((IntKind.u8.wrap ((((UInt8.toNat (List.getD p.1 (Int.toNat p.2.1) 0) : Nat) : Int)) - (48 : Int))) * 2 ^ (min (Int.toNat (4 : Int)) (IntKind.bits IntKind.u8)))) (IntKind.u8.wrap ((((UInt8.toNat (List.getD p.1 (Int.toNat (IntKind.i64.wrap (p.2.1 + (1 : Int)))) 0) : Nat) : Int)) - (48 : Int))))]))) ≤ (9223372036854775807 : Nat))) (R7 (p.1, ((IntKind.i64.wrap (p.2.1 + (2 : Int))), (p.2.2 ++ ([(bitsN .or .u8 (IntKind.u8.wrap ((IntKind.u8.wrap ((((UInt8.toNat (List.getD p.1 (Int.toNat p.2.1) 0) : Nat) : Int)) - (48 : Int))) * 2 ^ (min (Int.toNat (4 : Int)) (IntKind.bits IntKind.u8)))) (IntKind.u8.wrap ((((UInt8.toNat (List.getD p.1 (Int.toNat (IntKind.i64.wrap (p.2.1 + (1 : Int)))) 0) : Nat) : Int)) - (48 : Int))))]))))))))))) (some ((List.map toByte p.2.2), (true, ()))))
def f66_l7 (k : Nat) : f66_t7 → Option f66_r := loopP (fun R7 p => f66_b7 k R7 p) k
def f66_m (k : Nat) (A7 : f66_t7 → Option f66_r) (x : f66_x) : Option f66_r :=
  (cond (decide (((((List.length x.1) : Nat) : Int)) > (999 : Int))) (some (([] : List UInt8), (false, ()))) ((f108 k (x.1, ())).bind fun r1 => (cond (!r1.1) (some (([] : List UInt8), (false, ()))) (cond ((Int.tmod ((((List.length x.1) : Nat) : Int)) (2 : Int)) != (0 : Int)) (chk (decide (((1 : Nat) + (List.length x.1)) ≤ (9223372036854775807 : Nat))) (chk (decide ((0 : Int) ≤ (IntKind.i64.wrap (Int.tdiv ((((List.length (([48] : List UInt8) ++ x.1)) : Nat) : Int)) (2 : Int))))) (chk (decide (((IntKind.i64.wrap (Int.tdiv ((((List.length (([48] : List UInt8) ++ x.1)) : Nat) : Int)) (2 : Int))) * (((1 : Nat) : Nat) : Int)) ≤ (281474976710656 : Int))) (chk (decide ((IntKind.i64.wrap (Int.tdiv ((((List.length (([48] : List UInt8) ++ x.1)) : Nat) : Int)) (2 : Int))) ≤ (9223372036854775807 : Int))) (A7 ((([48] : List UInt8) ++ x.1), ((0 : Int), ([] : List Int)))))))) (chk (decide ((0 : Int) ≤ (IntKind.i64.wrap (Int.tdiv ((((List.length x.1) : Nat) : Int)) (2 : Int))))) (chk (decide (((IntKind.i64.wrap (Int.tdiv ((((List.length x.1) : Nat) : Int)) (2 : Int))) * (((1 : Nat) : Nat) : Int)) ≤ (281474976710656 : Int))) (chk (decide ((IntKind.i64.wrap (Int.tdiv ((((List.length x.1) : Nat) : Int)) (2 : Int))) ≤ (9223372036854775807 : Int))) (A7 (x.1, ((0 : Int), ([] : List Int)))))))))))
def f66 (k : Nat) (x : f66_x) : Option f66_r := f66_m k (f66_l7 k) x
def f66_lv : Nat → Lp := lps [(7, .keep [0, 4, 5] [])]
def f66_G : Env := findL [(108, ⟨[.str], [.bool], f108, .no⟩)]
theorem f66_e7 (k : Nat) (kn : St → Option f66_r) (p : f66_t7) : stepAt types f66_G f66_lv k Try.f66.ntmps (kns []) 7 (Try.f66.body.getD .skip) (topK types Try.f66 [.str, .bool]) (f66_s7 p) kn =
    f66_b7 k (fun p => kn (f66_s7 p)) p := by kernel_rfl
theorem f66_q7 (k : Nat) (n : Nat) (p : f66_t7) : loopAt types f66_G f66_lv k Try.f66.ntmps (kns []) 7 (Try.f66.body.getD .skip) (topK types Try.f66 [.str, .bool]) n (f66_s7 p) = loopP (fun R7 p => f66_b7 k R7 p) n p :=
  loopAt_eq (fun kn p => f66_e7 k kn p) n p
theorem f66_e (k : Nat) (x : f66_x) : fnK types f66_G f66_lv k Try.f66 [.str] [.str, .bool] x =
    f66_m k (fun p => loopAt types f66_G f66_lv k Try.f66.ntmps (kns []) 7 (Try.f66.body.getD .skip) (topK types Try.f66 [.str, .bool]) k (f66_s7 p)) x := by kernel_rfl
theorem f66_eq (k : Nat) (x : f66_x) : fnK types f66_G f66_lv k Try.f66 [.str] [.str, .bool] x = f66 k x :=
  (f66_e k x).trans (congrFun (congrArg (f66_m k) (funext fun p => f66_q7 k k p)) x)
theorem f66_c : Contract Try.prog 66 ⟨[.str], [.str, .bool], f66, .no⟩ :=
  fn_contract types_all (env_cons f108_c env_nil) mixes (by kernel_rfl) (by kernel_rfl) (by kernel_rfl) (by kernel_rfl) f66_eq

/-! groat/wire.Type -/
abbrev f33_r := List UInt8 × Bool × Unit
abbrev f33_x := Int × List UInt8 × Unit
def f33_m (k : Nat) (x : f33_x) : Option f33_r :=
  ((f62 k (x.2.1, ())).bind fun r1 => (cond (!r1.1) (some (([] : List UInt8), (false, ()))) (cond (x.1 == (1 : Int)) (some (x.2.1, (true, ()))) (cond (x.1 == (2 : Int)) ((f66 k (x.2.1, ())).bind fun r2 => (some (r2.1, (r2.2.1, ())))) (some (([] : List UInt8), (false, ())))))))
def f33 (k : Nat) (x : f33_x) : Option f33_r := f33_m k x
def f33_lv : Nat → Lp := lps []
def f33_G : Env := findL [(62, ⟨[.str], [.bool], f62, .no⟩), (66, ⟨[.str], [.str, .bool], f66, .no⟩)]
theorem f33_e (k : Nat) (x : f33_x) : fnK types f33_G f33_lv k Try.f33 [(.int .i64), .str] [.str, .bool] x =
    f33_m k x := by kernel_rfl
theorem f33_eq (k : Nat) (x : f33_x) : fnK types f33_G f33_lv k Try.f33 [(.int .i64), .str] [.str, .bool] x = f33 k x :=
  f33_e k x
theorem f33_c : Contract Try.prog 33 ⟨[(.int .i64), .str], [.str, .bool], f33, .no⟩ :=
  fn_contract types_all (env_cons f62_c (env_cons f66_c env_nil)) mixes (by kernel_rfl) (by kernel_rfl) (by kernel_rfl) (by kernel_rfl) f33_eq

/-! groat/cell.known -/
abbrev f78_r := Bool × Unit
abbrev f78_x := Int × Unit
def f78_m (k : Nat) (x : f78_x) : Option f78_r :=
  (cond (x.1 == (1 : Int)) (some (true, ())) (some ((x.1 == (2 : Int)), ())))
def f78 (k : Nat) (x : f78_x) : Option f78_r := f78_m k x
def f78_lv : Nat → Lp := lps []
def f78_G : Env := findL []
theorem f78_e (k : Nat) (x : f78_x) : fnK types f78_G f78_lv k Try.f78 [(.int .i64)] [.bool] x =
    f78_m k x := by kernel_rfl
theorem f78_eq (k : Nat) (x : f78_x) : fnK types f78_G f78_lv k Try.f78 [(.int .i64)] [.bool] x = f78 k x :=
  f78_e k x
theorem f78_c : Contract Try.prog 78 ⟨[(.int .i64)], [.bool], f78, .no⟩ :=
  fn_contract types_all env_nil mixes (by kernel_rfl) (by kernel_rfl) (by kernel_rfl) (by kernel_rfl) f78_eq

/-! groat/prefix.known -/
abbrev f120_r := Bool × Unit
abbrev f120_x := Int × Int × Unit
def f120_m (k : Nat) (x : f120_x) : Option f120_r :=
  (cond (x.1 == (1 : Int)) ((f122 k (x.2.1, ())).bind fun r1 => (some ((decide (r1.1 > (0 : Int))), ()))) (cond (x.1 == (2 : Int)) ((f122 k (x.2.1, ())).bind fun r2 => (some ((decide (r2.1 > (0 : Int))), ()))) (some (false, ()))))
def f120 (k : Nat) (x : f120_x) : Option f120_r := f120_m k x
def f120_lv : Nat → Lp := lps []
def f120_G : Env := findL [(122, ⟨[(.int .i64)], [(.int .i64)], f122, .no⟩)]
theorem f120_e (k : Nat) (x : f120_x) : fnK types f120_G f120_lv k Try.f120 [(.int .i64), (.int .i64)] [.bool] x =
    f120_m k x := by kernel_rfl
theorem f120_eq (k : Nat) (x : f120_x) : fnK types f120_G f120_lv k Try.f120 [(.int .i64), (.int .i64)] [.bool] x = f120 k x :=
  f120_e k x
theorem f120_c : Contract Try.prog 120 ⟨[(.int .i64), (.int .i64)], [.bool], f120, .no⟩ :=
  fn_contract types_all (env_cons f122_c env_nil) mixes (by kernel_rfl) (by kernel_rfl) (by kernel_rfl) (by kernel_rfl) f120_eq

/-! groat/digits.Put -/
abbrev f121_r := List UInt8 × Bool × Unit
abbrev f121_x := Int × Int × Unit
abbrev f121_t5 := Int × Int × List Int
def f121_s5 (p : f121_t5) : St := [(0, .tv (.f (.c (.v (.int .i64) p.1)))), (12, .tv (.f (.c (.own 1384)))), (14, .tv (.f (.c (.v (.int .i64) p.2.1)))), (2769, .row 5 (.int .u8) p.2.2)]
def f121_b5 (k : Nat) (R5 : f121_t5 → Option f121_r) (p : f121_t5) : Option f121_r :=
  (cond (decide (p.2.1 ≥ (0 : Int))) (chk (decide ((0 : Int) ≤ p.2.1)) (chk (decide (p.2.1 < ((((List.length p.2.2) : Nat) : Int)))) (chk (decide ((Int.toNat p.2.1) < (List.length p.2.2))) (R5 ((IntKind.i64.wrap (Int.tdiv p.1 (10 : Int))), ((IntKind.i64.wrap (p.2.1 - (1 : Int))), (List.set p.2.2 (Int.toNat p.2.1) (IntKind.u8.wrap (IntKind.i64.wrap ((48 : Int) + (Int.tmod p.1 (10 : Int)))))))))))) (cond (decide (p.1 > (0 : Int))) (some (([] : List UInt8), (false, ()))) (some ((List.map toByte p.2.2), (true, ())))))
def f121_l5 (k : Nat) : f121_t5 → Option f121_r := loopP (fun R5 p => f121_b5 k R5 p) k
def f121_m (k : Nat) (A5 : f121_t5 → Option f121_r) (x : f121_x) : Option f121_r :=
  (cond (decide (x.1 < (0 : Int))) (some (([] : List UInt8), (false, ()))) (cond (decide (x.2.1 < (1 : Int))) (some (([] : List UInt8), (false, ()))) (cond (decide (x.2.1 > (18 : Int))) (some (([] : List UInt8), (false, ()))) (chk (decide ((0 : Int) ≤ x.2.1)) (chk (decide (x.2.1 ≤ x.2.1)) (chk (decide ((x.2.1 * (((1 : Nat) : Nat) : Int)) ≤ (281474976710656 : Int))) (chk (decide (x.2.1 ≤ (9223372036854775807 : Int))) (A5 (x.1, ((IntKind.i64.wrap (x.2.1 - (1 : Int))), (List.replicate (Int.toNat x.2.1) (0 : Int))))))))))))
def f121 (k : Nat) (x : f121_x) : Option f121_r := f121_m k (f121_l5 k) x
def f121_lv : Nat → Lp := lps [(5, .keep [0, 6, 7] [])]
def f121_G : Env := findL []
theorem f121_e5 (k : Nat) (kn : St → Option f121_r) (p : f121_t5) : stepAt types f121_G f121_lv k Try.f121.ntmps (kns []) 5 (Try.f121.body.getD .skip) (topK types Try.f121 [.str, .bool]) (f121_s5 p) kn =
    f121_b5 k (fun p => kn (f121_s5 p)) p := by kernel_rfl
theorem f121_q5 (k : Nat) (n : Nat) (p : f121_t5) : loopAt types f121_G f121_lv k Try.f121.ntmps (kns []) 5 (Try.f121.body.getD .skip) (topK types Try.f121 [.str, .bool]) n (f121_s5 p) = loopP (fun R5 p => f121_b5 k R5 p) n p :=
  loopAt_eq (fun kn p => f121_e5 k kn p) n p
theorem f121_e (k : Nat) (x : f121_x) : fnK types f121_G f121_lv k Try.f121 [(.int .i64), (.int .i64)] [.str, .bool] x =
    f121_m k (fun p => loopAt types f121_G f121_lv k Try.f121.ntmps (kns []) 5 (Try.f121.body.getD .skip) (topK types Try.f121 [.str, .bool]) k (f121_s5 p)) x := by kernel_rfl
theorem f121_eq (k : Nat) (x : f121_x) : fnK types f121_G f121_lv k Try.f121 [(.int .i64), (.int .i64)] [.str, .bool] x = f121 k x :=
  (f121_e k x).trans (congrFun (congrArg (f121_m k) (funext fun p => f121_q5 k k p)) x)
theorem f121_c : Contract Try.prog 121 ⟨[(.int .i64), (.int .i64)], [.str, .bool], f121, .no⟩ :=
  fn_contract types_all env_nil mixes (by kernel_rfl) (by kernel_rfl) (by kernel_rfl) (by kernel_rfl) f121_eq

/-! groat/prefix.Put -/
abbrev f79_r := List UInt8 × Int × Unit
abbrev f79_x := Int × Int × Int × Unit
def f79_m (k : Nat) (x : f79_x) : Option f79_r :=
  ((f120 k (x.1, (x.2.1, ()))).bind fun r1 => (cond (!r1.1) (some (([] : List UInt8), ((1 : Int), ()))) ((f122 k (x.2.1, ())).bind fun r2 => ((f121 k (x.2.2.1, (r2.1, ()))).bind fun r3 => (cond (!r3.2.1) (some (([] : List UInt8), ((5 : Int), ()))) (cond (x.1 == (2 : Int)) ((f66 k (r3.1, ())).bind fun r4 => (some (r4.1, ((0 : Int), ())))) (some (r3.1, ((0 : Int), ())))))))))
def f79 (k : Nat) (x : f79_x) : Option f79_r := f79_m k x
def f79_lv : Nat → Lp := lps []
def f79_G : Env := findL [(66, ⟨[.str], [.str, .bool], f66, .no⟩), (120, ⟨[(.int .i64), (.int .i64)], [.bool], f120, .no⟩), (121, ⟨[(.int .i64), (.int .i64)], [.str, .bool], f121, .no⟩), (122, ⟨[(.int .i64)], [(.int .i64)], f122, .no⟩)]
theorem f79_e (k : Nat) (x : f79_x) : fnK types f79_G f79_lv k Try.f79 [(.int .i64), (.int .i64), (.int .i64)] [.str, (.int .i64)] x =
    f79_m k x := by kernel_rfl
theorem f79_eq (k : Nat) (x : f79_x) : fnK types f79_G f79_lv k Try.f79 [(.int .i64), (.int .i64), (.int .i64)] [.str, (.int .i64)] x = f79 k x :=
  f79_e k x
theorem f79_c : Contract Try.prog 79 ⟨[(.int .i64), (.int .i64), (.int .i64)], [.str, (.int .i64)], f79, .no⟩ :=
  fn_contract types_all (env_cons f66_c (env_cons f120_c (env_cons f121_c (env_cons f122_c env_nil)))) mixes (by kernel_rfl) (by kernel_rfl) (by kernel_rfl) (by kernel_rfl) f79_eq

/-! groat/cell.how -/
abbrev f80_r := Int × Unit
abbrev f80_x := Int × Int × Unit
def f80_m (k : Nat) (x : f80_x) : Option f80_r :=
  (cond (x.1 == (2 : Int)) (cond (x.2.1 == (1 : Int)) (some ((1 : Int), ())) (cond (x.1 == (1 : Int)) (cond (x.2.1 == (5 : Int)) (some ((2 : Int), ())) (cond (x.2.1 == (6 : Int)) (some ((2 : Int), ())) (some ((0 : Int), ())))) (some ((0 : Int), ())))) (cond (x.1 == (1 : Int)) (cond (x.2.1 == (5 : Int)) (some ((2 : Int), ())) (cond (x.2.1 == (6 : Int)) (some ((2 : Int), ())) (some ((0 : Int), ())))) (some ((0 : Int), ()))))
def f80 (k : Nat) (x : f80_x) : Option f80_r := f80_m k x
def f80_lv : Nat → Lp := lps []
def f80_G : Env := findL []
theorem f80_e (k : Nat) (x : f80_x) : fnK types f80_G f80_lv k Try.f80 [(.int .i64), (.int .i64)] [(.int .i64)] x =
    f80_m k x := by kernel_rfl
theorem f80_eq (k : Nat) (x : f80_x) : fnK types f80_G f80_lv k Try.f80 [(.int .i64), (.int .i64)] [(.int .i64)] x = f80 k x :=
  f80_e k x
theorem f80_c : Contract Try.prog 80 ⟨[(.int .i64), (.int .i64)], [(.int .i64)], f80, .no⟩ :=
  fn_contract types_all env_nil mixes (by kernel_rfl) (by kernel_rfl) (by kernel_rfl) (by kernel_rfl) f80_eq

/-! groat/hexa.Put -/
abbrev f81_r := List UInt8 × Unit
abbrev f81_x := List UInt8 × Unit
abbrev f81_t3 := List UInt8 × Int × List Int
def f81_s3 (p : f81_t3) : St := [(0, .tv (.f (.c (.v .str p.1)))), (6, .tv (.f (.c (.own 1192)))), (8, .tv (.f (.c (.v (.int .i64) p.2.1)))), (2385, .row 5 (.int .u8) p.2.2)]
def f81_b3 (k : Nat) (R3 : f81_t3 → Option f81_r) (p : f81_t3) : Option f81_r :=
  (cond (decide (p.2.1 < ((((List.length p.1) : Nat) : Int)))) (chk (decide ((0 : Int) ≤ p.2.1)) (chk (decide (p.2.1 < ((((List.length p.1) : Nat) : Int)))) (chk (decide ((0 : Int) ≤ (Int.fdiv (((UInt8.toNat (List.getD p.1 (Int.toNat p.2.1) 0) : Nat) : Int)) (2 ^ (min (Int.toNat (4 : Int)) (IntKind.bits IntKind.u8)))))) (chk (decide ((Int.fdiv (((UInt8.toNat (List.getD p.1 (Int.toNat p.2.1) 0) : Nat) : Int)) (2 ^ (min (Int.toNat (4 : Int)) (IntKind.bits IntKind.u8)))) < (16 : Int))) (chk (decide ((0 : Int) ≤ p.2.1)) (chk (decide (p.2.1 < ((((List.length p.1) : Nat) : Int)))) (chk (decide ((0 : Int) ≤ (bitsN .and .u8 (((UInt8.toNat (List.getD p.1 (Int.toNat p.2.1) 0) : Nat) : Int)) (15 : Int)))) (chk (decide ((bitsN .and .u8 (((UInt8.toNat (List.getD p.1 (Int.toNat p.2.1) 0) : Nat) : Int)) (15 : Int)) < (16 : Int))) (chk (decide ((((List.length p.2.2) + (List.length ([(((UInt8.toNat (List.getD ([48, 49, 50, 51, 52, 53, 54, 55, 56, 57, 65, 66, 67, 68, 69, 70] : List UInt8) (Int.toNat (Int.fdiv (((UInt8.toNat (List.getD p.1 (Int.toNat p.2.1) 0) : Nat) : Int)) (2 ^ (min (Int.toNat (4 : Int)) (IntKind.bits IntKind.u8))))) 0) : Nat) : Int)), (((UInt8.toNat (List.getD ([48, 49, 50, 51, 52, 53, 54, 55, 56, 57, 65, 66, 67, 68, 69, 70] : List UInt8) (Int.toNat (bitsN .and .u8 (((UInt8.toNat (List.getD p.1 (Int.toNat p.2.1) 0) : Nat) : Int)) (15 : Int))) 0) : Nat) : Int))]))) * (1 : Nat)) ≤ (140737488355328 : Nat))) (chk (decide (((List.length p.2.2) + (List.length ([(((UInt8.toNat (List.getD ([48, 49, 50, 51, 52, 53, 54, 55, 56, 57, 65, 66, 67, 68, 69, 70] : List UInt8) (Int.toNat (Int.fdiv (((UInt8.toNat (List.getD p.1 (Int.toNat p.2.1) 0) : Nat) : Int)) (2 ^ (min (Int.toNat (4 : Int)) (IntKind.bits IntKind.u8))))) 0) : Nat) : Int)), (((UInt8.toNat (List.getD ([48, 49, 50, 51, 52, 53, 54, 55, 56, 57, 65, 66, 67, 68, 69, 70] : List UInt8) (Int.toNat (bitsN .and .u8 (((UInt8.toNat (List.getD p.1 (Int.toNat p.2.1) 0) : Nat) : Int)) (15 : Int))) 0) : Nat) : Int))]))) ≤ (9223372036854775807 : Nat))) (R3 (p.1, ((IntKind.i64.wrap (p.2.1 + (1 : Int))), (p.2.2 ++ ([(((UInt8.toNat (List.getD ([48, 49, 50, 51, 52, 53, 54, 55, 56, 57, 65, 66, 67, 68, 69, 70] : List UInt8) (Int.toNat (Int.fdiv (((UInt8.toNat (List.getD p.1 (Int.toNat p.2.1) 0) : Nat) : Int)) (2 ^ (min (Int.toNat (4 : Int)) (IntKind.bits IntKind.u8))))) 0) : Nat) : Int)), (((UInt8.toNat (List.getD ([48, 49, 50, 51, 52, 53, 54, 55, 56, 57, 65, 66, 67, 68, 69, 70] : List UInt8) (Int.toNat (bitsN .and .u8 (((UInt8.toNat (List.getD p.1 (Int.toNat p.2.1) 0) : Nat) : Int)) (15 : Int))) 0) : Nat) : Int))]))))))))))))))) (some ((List.map toByte p.2.2), ())))
def f81_l3 (k : Nat) : f81_t3 → Option f81_r := loopP (fun R3 p => f81_b3 k R3 p) k
def f81_m (k : Nat) (A3 : f81_t3 → Option f81_r) (x : f81_x) : Option f81_r :=
  (chk (decide ((0 : Int) ≤ (IntKind.i64.wrap ((2 : Int) * ((((List.length x.1) : Nat) : Int)))))) (chk (decide (((IntKind.i64.wrap ((2 : Int) * ((((List.length x.1) : Nat) : Int)))) * (((1 : Nat) : Nat) : Int)) ≤ (281474976710656 : Int))) (chk (decide ((IntKind.i64.wrap ((2 : Int) * ((((List.length x.1) : Nat) : Int)))) ≤ (9223372036854775807 : Int))) (A3 (x.1, ((0 : Int), ([] : List Int)))))))
def f81 (k : Nat) (x : f81_x) : Option f81_r := f81_m k (f81_l3 k) x
def f81_lv : Nat → Lp := lps [(3, .keep [0, 3, 4] [])]
def f81_G : Env := findL []
theorem f81_e3 (k : Nat) (kn : St → Option f81_r) (p : f81_t3) : stepAt types f81_G f81_lv k Try.f81.ntmps (kns []) 3 (Try.f81.body.getD .skip) (topK types Try.f81 [.str]) (f81_s3 p) kn =
    f81_b3 k (fun p => kn (f81_s3 p)) p := by kernel_rfl
theorem f81_q3 (k : Nat) (n : Nat) (p : f81_t3) : loopAt types f81_G f81_lv k Try.f81.ntmps (kns []) 3 (Try.f81.body.getD .skip) (topK types Try.f81 [.str]) n (f81_s3 p) = loopP (fun R3 p => f81_b3 k R3 p) n p :=
  loopAt_eq (fun kn p => f81_e3 k kn p) n p
theorem f81_e (k : Nat) (x : f81_x) : fnK types f81_G f81_lv k Try.f81 [.str] [.str] x =
    f81_m k (fun p => loopAt types f81_G f81_lv k Try.f81.ntmps (kns []) 3 (Try.f81.body.getD .skip) (topK types Try.f81 [.str]) k (f81_s3 p)) x := by kernel_rfl
theorem f81_eq (k : Nat) (x : f81_x) : fnK types f81_G f81_lv k Try.f81 [.str] [.str] x = f81 k x :=
  (f81_e k x).trans (congrFun (congrArg (f81_m k) (funext fun p => f81_q3 k k p)) x)
theorem f81_c : Contract Try.prog 81 ⟨[.str], [.str], f81, .no⟩ :=
  fn_contract types_all env_nil mixes (by kernel_rfl) (by kernel_rfl) (by kernel_rfl) (by kernel_rfl) f81_eq

/-! groat/cell.Put -/
abbrev f41_r := List UInt8 × Int × Unit
abbrev f41_x := Int × (Int × Int × Int × Int × Int) × List UInt8 × Unit
def f41_m (k : Nat) (x : f41_x) : Option f41_r :=
  ((f78 k (x.1, ())).bind fun r1 => (cond (!r1.1) (some (([] : List UInt8), ((1 : Int), ()))) ((f65 k (x.2.1, (x.2.2.1, ()))).bind fun r2 => (cond (r2.1 != (0 : Int)) (some (([] : List UInt8), (r2.1, ()))) (cond (x.2.1.2.2.1 != (1 : Int)) ((f79 k (x.1, (x.2.1.2.2.1, (((((List.length x.2.2.1) : Nat) : Int)), ())))).bind fun r3 => ((f80 k (x.1, (x.2.1.2.1, ()))).bind fun r4 => (cond (r4.1 == (1 : Int)) ((f66 k (x.2.2.1, ())).bind fun r5 => (chk (decide (((List.length r3.1) + (List.length r5.1)) ≤ (9223372036854775807 : Nat))) (some ((r3.1 ++ r5.1), ((0 : Int), ()))))) (cond (r4.1 == (2 : Int)) ((f81 k (x.2.2.1, ())).bind fun r6 => (chk (decide (((List.length r3.1) + (List.length r6.1)) ≤ (9223372036854775807 : Nat))) (some ((r3.1 ++ r6.1), ((0 : Int), ()))))) (chk (decide (((List.length r3.1) + (List.length x.2.2.1)) ≤ (9223372036854775807 : Nat))) (some ((r3.1 ++ x.2.2.1), ((0 : Int), ())))))))) ((f80 k (x.1, (x.2.1.2.1, ()))).bind fun r7 => (cond (r7.1 == (1 : Int)) ((f66 k (x.2.2.1, ())).bind fun r8 => (chk (decide (((0 : Nat) + (List.length r8.1)) ≤ (9223372036854775807 : Nat))) (some ((([] : List UInt8) ++ r8.1), ((0 : Int), ()))))) (cond (r7.1 == (2 : Int)) ((f81 k (x.2.2.1, ())).bind fun r9 => (chk (decide (((0 : Nat) + (List.length r9.1)) ≤ (9223372036854775807 : Nat))) (some ((([] : List UInt8) ++ r9.1), ((0 : Int), ()))))) (chk (decide (((0 : Nat) + (List.length x.2.2.1)) ≤ (9223372036854775807 : Nat))) (some ((([] : List UInt8) ++ x.2.2.1), ((0 : Int), ()))))))))))))
def f41 (k : Nat) (x : f41_x) : Option f41_r := f41_m k x
def f41_lv : Nat → Lp := lps []
def f41_G : Env := findL [(65, ⟨[y66, .str], [(.int .i64)], f65, .no⟩), (66, ⟨[.str], [.str, .bool], f66, .no⟩), (78, ⟨[(.int .i64)], [.bool], f78, .no⟩), (79, ⟨[(.int .i64), (.int .i64), (.int .i64)], [.str, (.int .i64)], f79, .no⟩), (80, ⟨[(.int .i64), (.int .i64)], [(.int .i64)], f80, .no⟩), (81, ⟨[.str], [.str], f81, .no⟩)]
theorem f41_e (k : Nat) (x : f41_x) : fnK types f41_G f41_lv k Try.f41 [(.int .i64), y66, .str] [.str, (.int .i64)] x =
    f41_m k x := by kernel_rfl
theorem f41_eq (k : Nat) (x : f41_x) : fnK types f41_G f41_lv k Try.f41 [(.int .i64), y66, .str] [.str, (.int .i64)] x = f41 k x :=
  f41_e k x
theorem f41_c : Contract Try.prog 41 ⟨[(.int .i64), y66, .str], [.str, (.int .i64)], f41, .no⟩ :=
  fn_contract types_all (env_cons f65_c (env_cons f66_c (env_cons f78_c (env_cons f79_c (env_cons f80_c (env_cons f81_c env_nil)))))) mixes (by kernel_rfl) (by kernel_rfl) (by kernel_rfl) (by kernel_rfl) f41_eq

/-! (groat/fields.Set).Either -/
abbrev f123_r := (Int × Int) × Unit
abbrev f123_x := (Int × Int) × (Int × Int) × Unit
def f123_m (k : Nat) (x : f123_x) : Option f123_r :=
  (some (((bitsN .or .u64 x.1.1 x.2.1.1), (bitsN .or .u64 x.1.2 x.2.1.2)), ()))
def f123 (k : Nat) (x : f123_x) : Option f123_r := f123_m k x
def f123_lv : Nat → Lp := lps []
def f123_G : Env := findL []
theorem f123_e (k : Nat) (x : f123_x) : fnK types f123_G f123_lv k Try.f123 [(.pair (.int .u64) (.int .u64)), (.pair (.int .u64) (.int .u64))] [(.pair (.int .u64) (.int .u64))] x =
    f123_m k x := by kernel_rfl
theorem f123_eq (k : Nat) (x : f123_x) : fnK types f123_G f123_lv k Try.f123 [(.pair (.int .u64) (.int .u64)), (.pair (.int .u64) (.int .u64))] [(.pair (.int .u64) (.int .u64))] x = f123 k x :=
  f123_e k x
theorem f123_c : Contract Try.prog 123 ⟨[(.pair (.int .u64) (.int .u64)), (.pair (.int .u64) (.int .u64))], [(.pair (.int .u64) (.int .u64))], f123, .no⟩ :=
  fn_contract types_all env_nil mixes (by kernel_rfl) (by kernel_rfl) (by kernel_rfl) (by kernel_rfl) f123_eq

/-! groat/fields.bit -/
abbrev f124_r := (Int × Int) × Unit
abbrev f124_x := Int × Unit
def f124_m (k : Nat) (x : f124_x) : Option f124_r :=
  (cond (decide (x.1 < (1 : Int))) (some (((0 : Int), (0 : Int)), ())) (cond (decide (x.1 > (128 : Int))) (some (((0 : Int), (0 : Int)), ())) (cond (decide (x.1 ≤ (64 : Int))) (chk (decide ((0 : Int) ≤ (IntKind.i64.wrap ((64 : Int) - x.1)))) (some (((IntKind.u64.wrap ((1 : Int) * 2 ^ (min (Int.toNat (IntKind.i64.wrap ((64 : Int) - x.1))) (IntKind.bits IntKind.u64)))), (0 : Int)), ()))) (chk (decide ((0 : Int) ≤ (IntKind.i64.wrap ((128 : Int) - x.1)))) (some (((0 : Int), (IntKind.u64.wrap ((1 : Int) * 2 ^ (min (Int.toNat (IntKind.i64.wrap ((128 : Int) - x.1))) (IntKind.bits IntKind.u64))))), ()))))))
def f124 (k : Nat) (x : f124_x) : Option f124_r := f124_m k x
def f124_lv : Nat → Lp := lps []
def f124_G : Env := findL []
theorem f124_e (k : Nat) (x : f124_x) : fnK types f124_G f124_lv k Try.f124 [(.int .i64)] [(.pair (.int .u64) (.int .u64))] x =
    f124_m k x := by kernel_rfl
theorem f124_eq (k : Nat) (x : f124_x) : fnK types f124_G f124_lv k Try.f124 [(.int .i64)] [(.pair (.int .u64) (.int .u64))] x = f124 k x :=
  f124_e k x
theorem f124_c : Contract Try.prog 124 ⟨[(.int .i64)], [(.pair (.int .u64) (.int .u64))], f124, .no⟩ :=
  fn_contract types_all env_nil mixes (by kernel_rfl) (by kernel_rfl) (by kernel_rfl) (by kernel_rfl) f124_eq

/-! (groat/fields.Set).With -/
abbrev f82_r := (Int × Int) × Unit
abbrev f82_x := (Int × Int) × Int × Unit
def f82_m (k : Nat) (x : f82_x) : Option f82_r :=
  ((f124 k (x.2.1, ())).bind fun r1 => ((f123 k (x.1, (r1.1, ()))).bind fun r2 => (some (r2.1, ()))))
def f82 (k : Nat) (x : f82_x) : Option f82_r := f82_m k x
def f82_lv : Nat → Lp := lps []
def f82_G : Env := findL [(123, ⟨[(.pair (.int .u64) (.int .u64)), (.pair (.int .u64) (.int .u64))], [(.pair (.int .u64) (.int .u64))], f123, .no⟩), (124, ⟨[(.int .i64)], [(.pair (.int .u64) (.int .u64))], f124, .no⟩)]
theorem f82_e (k : Nat) (x : f82_x) : fnK types f82_G f82_lv k Try.f82 [(.pair (.int .u64) (.int .u64)), (.int .i64)] [(.pair (.int .u64) (.int .u64))] x =
    f82_m k x := by kernel_rfl
theorem f82_eq (k : Nat) (x : f82_x) : fnK types f82_G f82_lv k Try.f82 [(.pair (.int .u64) (.int .u64)), (.int .i64)] [(.pair (.int .u64) (.int .u64))] x = f82 k x :=
  f82_e k x
theorem f82_c : Contract Try.prog 82 ⟨[(.pair (.int .u64) (.int .u64)), (.int .i64)], [(.pair (.int .u64) (.int .u64))], f82, .no⟩ :=
  fn_contract types_all (env_cons f123_c (env_cons f124_c env_nil)) mixes (by kernel_rfl) (by kernel_rfl) (by kernel_rfl) (by kernel_rfl) f82_eq

/-! groat/msg.Set -/
abbrev f42_r := (Int × Int) × Unit
abbrev f42_x := (List UInt8 × List (Int × List UInt8)) × Unit
abbrev f42_t3 := List (Int × List UInt8) × Int × Int × Int × Int × Int × Int
def f42_s3 (p : f42_t3) : St := [(4, .tv (.f (.c (.ptr 1128 0)))), (6, .tv (.f (.c (.ptr 1192 0)))), (14, .tv (.f (.c (.v (.sl (.pair (.int .i64) .str)) p.1)))), (16, .tv (.f (.c (.v (.int .i64) p.2.1)))), (18, .tv (.f (.c (.v (.int .i64) p.2.2.1)))), (2257, .box [.v (.int .u64) p.2.2.2.1, .v (.int .u64) p.2.2.2.2.1]), (2385, .box [.v (.int .u64) p.2.2.2.2.2.1, .v (.int .u64) p.2.2.2.2.2.2])]
def f42_b3 (k : Nat) (R3 : f42_t3 → Option f42_r) (p : f42_t3) : Option f42_r :=
  (cond (decide (p.2.2.1 < p.2.1)) (chk (decide ((0 : Int) ≤ p.2.2.1)) (chk (decide (p.2.2.1 < ((((List.length p.1) : Nat) : Int)))) ((f82 k (p.2.2.2.2.2, ((List.getD p.1 (Int.toNat p.2.2.1) ((0 : Int), ([] : List UInt8))).1, ()))).bind fun r1 => (R3 (p.1, (p.2.1, ((IntKind.i64.wrap (p.2.2.1 + (1 : Int))), (p.2.2.2.1, (p.2.2.2.2.1, r1.1))))))))) (some (p.2.2.2.2.2, ())))
def f42_l3 (k : Nat) : f42_t3 → Option f42_r := loopP (fun R3 p => f42_b3 k R3 p) k
def f42_m (k : Nat) (A3 : f42_t3 → Option f42_r) (x : f42_x) : Option f42_r :=
  (A3 (x.1.2, (((((List.length x.1.2) : Nat) : Int)), ((0 : Int), ((0 : Int), ((0 : Int), ((0 : Int), (0 : Int))))))))
def f42 (k : Nat) (x : f42_x) : Option f42_r := f42_m k (f42_l3 k) x
def f42_lv : Nat → Lp := lps [(3, .keep [2, 3, 7, 8, 9] [])]
def f42_G : Env := findL [(82, ⟨[(.pair (.int .u64) (.int .u64)), (.int .i64)], [(.pair (.int .u64) (.int .u64))], f82, .no⟩)]
theorem f42_e3 (k : Nat) (kn : St → Option f42_r) (p : f42_t3) : stepAt types f42_G f42_lv k Try.f42.ntmps (kns []) 3 (Try.f42.body.getD .skip) (topK types Try.f42 [(.pair (.int .u64) (.int .u64))]) (f42_s3 p) kn =
    f42_b3 k (fun p => kn (f42_s3 p)) p := by kernel_rfl
theorem f42_q3 (k : Nat) (n : Nat) (p : f42_t3) : loopAt types f42_G f42_lv k Try.f42.ntmps (kns []) 3 (Try.f42.body.getD .skip) (topK types Try.f42 [(.pair (.int .u64) (.int .u64))]) n (f42_s3 p) = loopP (fun R3 p => f42_b3 k R3 p) n p :=
  loopAt_eq (fun kn p => f42_e3 k kn p) n p
theorem f42_e (k : Nat) (x : f42_x) : fnK types f42_G f42_lv k Try.f42 [y34] [(.pair (.int .u64) (.int .u64))] x =
    f42_m k (fun p => loopAt types f42_G f42_lv k Try.f42.ntmps (kns []) 3 (Try.f42.body.getD .skip) (topK types Try.f42 [(.pair (.int .u64) (.int .u64))]) k (f42_s3 p)) x := by kernel_rfl
theorem f42_eq (k : Nat) (x : f42_x) : fnK types f42_G f42_lv k Try.f42 [y34] [(.pair (.int .u64) (.int .u64))] x = f42 k x :=
  (f42_e k x).trans (congrFun (congrArg (f42_m k) (funext fun p => f42_q3 k k p)) x)
theorem f42_c : Contract Try.prog 42 ⟨[y34], [(.pair (.int .u64) (.int .u64))], f42, .no⟩ :=
  fn_contract types_all (env_cons f82_c env_nil) mixes (by kernel_rfl) (by kernel_rfl) (by kernel_rfl) (by kernel_rfl) f42_eq

/-! groat/bitmap.known -/
abbrev f88_r := Bool × Unit
abbrev f88_x := Int × Unit
def f88_m (k : Nat) (x : f88_x) : Option f88_r :=
  (cond (x.1 == (1 : Int)) (some (true, ())) (some ((x.1 == (2 : Int)), ())))
def f88 (k : Nat) (x : f88_x) : Option f88_r := f88_m k x
def f88_lv : Nat → Lp := lps []
def f88_G : Env := findL []
theorem f88_e (k : Nat) (x : f88_x) : fnK types f88_G f88_lv k Try.f88 [(.int .i64)] [.bool] x =
    f88_m k x := by kernel_rfl
theorem f88_eq (k : Nat) (x : f88_x) : fnK types f88_G f88_lv k Try.f88 [(.int .i64)] [.bool] x = f88 k x :=
  f88_e k x
theorem f88_c : Contract Try.prog 88 ⟨[(.int .i64)], [.bool], f88, .no⟩ :=
  fn_contract types_all env_nil mixes (by kernel_rfl) (by kernel_rfl) (by kernel_rfl) (by kernel_rfl) f88_eq

/-! (groat/fields.Set).Both -/
abbrev f145_r := (Int × Int) × Unit
abbrev f145_x := (Int × Int) × (Int × Int) × Unit
def f145_m (k : Nat) (x : f145_x) : Option f145_r :=
  (some (((bitsN .and .u64 x.1.1 x.2.1.1), (bitsN .and .u64 x.1.2 x.2.1.2)), ()))
def f145 (k : Nat) (x : f145_x) : Option f145_r := f145_m k x
def f145_lv : Nat → Lp := lps []
def f145_G : Env := findL []
theorem f145_e (k : Nat) (x : f145_x) : fnK types f145_G f145_lv k Try.f145 [(.pair (.int .u64) (.int .u64)), (.pair (.int .u64) (.int .u64))] [(.pair (.int .u64) (.int .u64))] x =
    f145_m k x := by kernel_rfl
theorem f145_eq (k : Nat) (x : f145_x) : fnK types f145_G f145_lv k Try.f145 [(.pair (.int .u64) (.int .u64)), (.pair (.int .u64) (.int .u64))] [(.pair (.int .u64) (.int .u64))] x = f145 k x :=
  f145_e k x
theorem f145_c : Contract Try.prog 145 ⟨[(.pair (.int .u64) (.int .u64)), (.pair (.int .u64) (.int .u64))], [(.pair (.int .u64) (.int .u64))], f145, .no⟩ :=
  fn_contract types_all env_nil mixes (by kernel_rfl) (by kernel_rfl) (by kernel_rfl) (by kernel_rfl) f145_eq

/-! (groat/fields.Set).Has -/
abbrev f113_r := Bool × Unit
abbrev f113_x := (Int × Int) × Int × Unit
def f113_m (k : Nat) (x : f113_x) : Option f113_r :=
  ((f124 k (x.2.1, ())).bind fun r1 => ((f145 k (x.1, (r1.1, ()))).bind fun r2 => (some ((!((r2.1.1 == (0 : Int)) && ((r2.1.2 == (0 : Int)) && true))), ()))))
def f113 (k : Nat) (x : f113_x) : Option f113_r := f113_m k x
def f113_lv : Nat → Lp := lps []
def f113_G : Env := findL [(124, ⟨[(.int .i64)], [(.pair (.int .u64) (.int .u64))], f124, .no⟩), (145, ⟨[(.pair (.int .u64) (.int .u64)), (.pair (.int .u64) (.int .u64))], [(.pair (.int .u64) (.int .u64))], f145, .no⟩)]
theorem f113_e (k : Nat) (x : f113_x) : fnK types f113_G f113_lv k Try.f113 [(.pair (.int .u64) (.int .u64)), (.int .i64)] [.bool] x =
    f113_m k x := by kernel_rfl
theorem f113_eq (k : Nat) (x : f113_x) : fnK types f113_G f113_lv k Try.f113 [(.pair (.int .u64) (.int .u64)), (.int .i64)] [.bool] x = f113 k x :=
  f113_e k x
theorem f113_c : Contract Try.prog 113 ⟨[(.pair (.int .u64) (.int .u64)), (.int .i64)], [.bool], f113, .no⟩ :=
  fn_contract types_all (env_cons f124_c (env_cons f145_c env_nil)) mixes (by kernel_rfl) (by kernel_rfl) (by kernel_rfl) (by kernel_rfl) f113_eq

/-! (groat/fields.Set).Halves -/
abbrev f114_r := Int × Int × Unit
abbrev f114_x := (Int × Int) × Unit
def f114_m (k : Nat) (x : f114_x) : Option f114_r :=
  (some (x.1.1, (x.1.2, ())))
def f114 (k : Nat) (x : f114_x) : Option f114_r := f114_m k x
def f114_lv : Nat → Lp := lps []
def f114_G : Env := findL []
theorem f114_e (k : Nat) (x : f114_x) : fnK types f114_G f114_lv k Try.f114 [(.pair (.int .u64) (.int .u64))] [(.int .u64), (.int .u64)] x =
    f114_m k x := by kernel_rfl
theorem f114_eq (k : Nat) (x : f114_x) : fnK types f114_G f114_lv k Try.f114 [(.pair (.int .u64) (.int .u64))] [(.int .u64), (.int .u64)] x = f114 k x :=
  f114_e k x
theorem f114_c : Contract Try.prog 114 ⟨[(.pair (.int .u64) (.int .u64))], [(.int .u64), (.int .u64)], f114, .no⟩ :=
  fn_contract types_all env_nil mixes (by kernel_rfl) (by kernel_rfl) (by kernel_rfl) (by kernel_rfl) f114_eq

/-! groat/bitmap.bytes -/
abbrev f115_r := (Int × Int × Int × Int × Int × Int × Int × Int) × Unit
abbrev f115_x := Int × Unit
def f115_m (k : Nat) (x : f115_x) : Option f115_r :=
  (some (((IntKind.u8.wrap (Int.fdiv x.1 (2 ^ (min (Int.toNat (56 : Int)) (IntKind.bits IntKind.u64))))), ((IntKind.u8.wrap (Int.fdiv x.1 (2 ^ (min (Int.toNat (48 : Int)) (IntKind.bits IntKind.u64))))), ((IntKind.u8.wrap (Int.fdiv x.1 (2 ^ (min (Int.toNat (40 : Int)) (IntKind.bits IntKind.u64))))), ((IntKind.u8.wrap (Int.fdiv x.1 (2 ^ (min (Int.toNat (32 : Int)) (IntKind.bits IntKind.u64))))), ((IntKind.u8.wrap (Int.fdiv x.1 (2 ^ (min (Int.toNat (24 : Int)) (IntKind.bits IntKind.u64))))), ((IntKind.u8.wrap (Int.fdiv x.1 (2 ^ (min (Int.toNat (16 : Int)) (IntKind.bits IntKind.u64))))), ((IntKind.u8.wrap (Int.fdiv x.1 (2 ^ (min (Int.toNat (8 : Int)) (IntKind.bits IntKind.u64))))), (IntKind.u8.wrap (Int.fdiv x.1 (2 ^ (min (Int.toNat (0 : Int)) (IntKind.bits IntKind.u64)))))))))))), ()))
def f115 (k : Nat) (x : f115_x) : Option f115_r := f115_m k x
def f115_lv : Nat → Lp := lps [(3, .unroll 9)]
def f115_G : Env := findL []
theorem f115_e (k : Nat) (x : f115_x) : fnK types f115_G f115_lv k Try.f115 [(.int .u64)] [y135] x =
    f115_m k x := by kernel_rfl
theorem f115_eq (k : Nat) (x : f115_x) : fnK types f115_G f115_lv k Try.f115 [(.int .u64)] [y135] x = f115 k x :=
  f115_e k x
theorem f115_c : Contract Try.prog 115 ⟨[(.int .u64)], [y135], f115, .no⟩ :=
  fn_contract types_all env_nil mixes (by kernel_rfl) (by kernel_rfl) (by kernel_rfl) (by kernel_rfl) f115_eq

/-! groat/bitmap.Put -/
abbrev f71_r := List UInt8 × Int × Unit
abbrev f71_x := Int × (Int × Int) × Unit
def f71_m (k : Nat) (x : f71_x) : Option f71_r :=
  ((f88 k (x.1, ())).bind fun r1 => (cond (!r1.1) (some (([] : List UInt8), ((1 : Int), ()))) ((f113 k (x.2.1, ((1 : Int), ()))).bind fun r2 => (cond r2.1 (some (([] : List UInt8), ((1 : Int), ()))) ((f114 k (x.2.1, ())).bind fun r3 => ((f115 k (r3.2.1, ())).bind fun r4 => (cond (!((r4.1.1 == (0 : Int)) && ((r4.1.2.1 == (0 : Int)) && ((r4.1.2.2.1 == (0 : Int)) && ((r4.1.2.2.2.1 == (0 : Int)) && ((r4.1.2.2.2.2.1 == (0 : Int)) && ((r4.1.2.2.2.2.2.1 == (0 : Int)) && ((r4.1.2.2.2.2.2.2.1 == (0 : Int)) && ((r4.1.2.2.2.2.2.2.2 == (0 : Int)) && true))))))))) ((f115 k ((bitsN .or .u64 r3.1 (9223372036854775808 : Int)), ())).bind fun r5 => (chk (decide (((List.length (List.map toByte ([r5.1.1, r5.1.2.1, r5.1.2.2.1, r5.1.2.2.2.1, r5.1.2.2.2.2.1, r5.1.2.2.2.2.2.1, r5.1.2.2.2.2.2.2.1, r5.1.2.2.2.2.2.2.2]))) + (List.length (List.map toByte ([r4.1.1, r4.1.2.1, r4.1.2.2.1, r4.1.2.2.2.1, r4.1.2.2.2.2.1, r4.1.2.2.2.2.2.1, r4.1.2.2.2.2.2.2.1, r4.1.2.2.2.2.2.2.2])))) ≤ (9223372036854775807 : Nat))) (cond (x.1 == (1 : Int)) ((f81 k (((List.map toByte ([r5.1.1, r5.1.2.1, r5.1.2.2.1, r5.1.2.2.2.1, r5.1.2.2.2.2.1, r5.1.2.2.2.2.2.1, r5.1.2.2.2.2.2.2.1, r5.1.2.2.2.2.2.2.2])) ++ (List.map toByte ([r4.1.1, r4.1.2.1, r4.1.2.2.1, r4.1.2.2.2.1, r4.1.2.2.2.2.1, r4.1.2.2.2.2.2.1, r4.1.2.2.2.2.2.2.1, r4.1.2.2.2.2.2.2.2]))), ())).bind fun r6 => (some (r6.1, ((0 : Int), ())))) (some (((List.map toByte ([r5.1.1, r5.1.2.1, r5.1.2.2.1, r5.1.2.2.2.1, r5.1.2.2.2.2.1, r5.1.2.2.2.2.2.1, r5.1.2.2.2.2.2.2.1, r5.1.2.2.2.2.2.2.2])) ++ (List.map toByte ([r4.1.1, r4.1.2.1, r4.1.2.2.1, r4.1.2.2.2.1, r4.1.2.2.2.2.1, r4.1.2.2.2.2.2.1, r4.1.2.2.2.2.2.2.1, r4.1.2.2.2.2.2.2.2]))), ((0 : Int), ())))))) ((f115 k (r3.1, ())).bind fun r7 => (chk (decide (((List.length (List.map toByte ([r7.1.1, r7.1.2.1, r7.1.2.2.1, r7.1.2.2.2.1, r7.1.2.2.2.2.1, r7.1.2.2.2.2.2.1, r7.1.2.2.2.2.2.2.1, r7.1.2.2.2.2.2.2.2]))) + (0 : Nat)) ≤ (9223372036854775807 : Nat))) (cond (x.1 == (1 : Int)) ((f81 k (((List.map toByte ([r7.1.1, r7.1.2.1, r7.1.2.2.1, r7.1.2.2.2.1, r7.1.2.2.2.2.1, r7.1.2.2.2.2.2.1, r7.1.2.2.2.2.2.2.1, r7.1.2.2.2.2.2.2.2])) ++ ([] : List UInt8)), ())).bind fun r8 => (some (r8.1, ((0 : Int), ())))) (some (((List.map toByte ([r7.1.1, r7.1.2.1, r7.1.2.2.1, r7.1.2.2.2.1, r7.1.2.2.2.2.1, r7.1.2.2.2.2.2.1, r7.1.2.2.2.2.2.2.1, r7.1.2.2.2.2.2.2.2])) ++ ([] : List UInt8)), ((0 : Int), ())))))))))))))
def f71 (k : Nat) (x : f71_x) : Option f71_r := f71_m k x
def f71_lv : Nat → Lp := lps []
def f71_G : Env := findL [(81, ⟨[.str], [.str], f81, .no⟩), (88, ⟨[(.int .i64)], [.bool], f88, .no⟩), (113, ⟨[(.pair (.int .u64) (.int .u64)), (.int .i64)], [.bool], f113, .no⟩), (114, ⟨[(.pair (.int .u64) (.int .u64))], [(.int .u64), (.int .u64)], f114, .no⟩), (115, ⟨[(.int .u64)], [y135], f115, .no⟩)]
theorem f71_e (k : Nat) (x : f71_x) : fnK types f71_G f71_lv k Try.f71 [(.int .i64), (.pair (.int .u64) (.int .u64))] [.str, (.int .i64)] x =
    f71_m k x := by kernel_rfl
theorem f71_eq (k : Nat) (x : f71_x) : fnK types f71_G f71_lv k Try.f71 [(.int .i64), (.pair (.int .u64) (.int .u64))] [.str, (.int .i64)] x = f71 k x :=
  f71_e k x
theorem f71_c : Contract Try.prog 71 ⟨[(.int .i64), (.pair (.int .u64) (.int .u64))], [.str, (.int .i64)], f71, .no⟩ :=
  fn_contract types_all (env_cons f81_c (env_cons f88_c (env_cons f113_c (env_cons f114_c (env_cons f115_c env_nil))))) mixes (by kernel_rfl) (by kernel_rfl) (by kernel_rfl) (by kernel_rfl) f71_eq

/-! groat/wire.Encode -/
abbrev f36_r := List UInt8 × (Int × Int) × Unit
abbrev f36_x := (Int × Int × List (Int × Int × Int × Int × Int)) × (List UInt8 × List (Int × List UInt8)) × Unit
abbrev f36_t11 := List (Int × List UInt8) × Int × Int × Int × Int × List (Int × Int × Int × Int × Int) × Int × Int × List Int
def f36_s11 (p : f36_t11) : St := [(4, .tv (.f (.c (.ptr 1128 0)))), (10, .tv (.f (.c (.ptr 1320 0)))), (14, .tv (.f (.c (.ptr 1448 0)))), (16, .tv (.f (.c (.clo 69 .bool 1448 0)))), (100, .tv (.f (.c (.v (.sl (.pair (.int .i64) .str)) p.1)))), (102, .tv (.f (.c (.v (.int .i64) p.2.1)))), (104, .tv (.f (.c (.v (.int .i64) p.2.2.1)))), (2257, .box [.v (.int .i64) p.2.2.2.1, .v (.int .i64) p.2.2.2.2.1, .v (.sl y66) p.2.2.2.2.2.1]), (2641, .box [.v (.int .i64) p.2.2.2.2.2.2.1, .v (.int .i64) p.2.2.2.2.2.2.2.1]), (2897, .bld 110 (.own 192672)), (385345, .row 5 (.int .u8) p.2.2.2.2.2.2.2.2)]
def f36_b11 (k : Nat) (R11 : f36_t11 → Option f36_r) (p : f36_t11) : Option f36_r :=
  (cond (decide (p.2.2.1 < p.2.1)) (chk (decide ((0 : Int) ≤ p.2.2.1)) (chk (decide (p.2.2.1 < ((((List.length p.1) : Nat) : Int)))) ((f40 k ((p.2.2.2.1, (p.2.2.2.2.1, p.2.2.2.2.2.1)), ((List.getD p.1 (Int.toNat p.2.2.1) ((0 : Int), ([] : List UInt8))).1, ()))).bind fun r5 => ((f41 k (p.2.2.2.1, (r5.1, ((List.getD p.1 (Int.toNat p.2.2.1) ((0 : Int), ([] : List UInt8))).2, ())))).bind fun r6 => (chk (decide ((List.length p.2.2.2.2.2.2.2.2) + (List.length r6.1) ≤ 140737488355328)) (R11 (p.1, (p.2.1, ((IntKind.i64.wrap (p.2.2.1 + (1 : Int))), (p.2.2.2.1, (p.2.2.2.2.1, (p.2.2.2.2.2.1, (p.2.2.2.2.2.2.1, (p.2.2.2.2.2.2.2.1, (p.2.2.2.2.2.2.2.2 ++ (List.map (fun b : UInt8 => ((b.toNat : Nat) : Int)) r6.1)))))))))))))))) (chk (bytesB p.2.2.2.2.2.2.2.2) (some ((List.map toByte p.2.2.2.2.2.2.2.2), (((0 : Int), (0 : Int)), ())))))
def f36_l11 (k : Nat) : f36_t11 → Option f36_r := loopP (fun R11 p => f36_b11 k R11 p) k
def f36_m (k : Nat) (A11 : f36_t11 → Option f36_r) (x : f36_x) : Option f36_r :=
  ((f31 k (x.1, (x.2.1, ()))).bind fun r1 => (cond (r1.1.1 != (0 : Int)) (some (([] : List UInt8), (r1.1, ()))) ((f33 k (x.1.1, (x.2.1.1, ()))).bind fun r2 => (chk (decide ((0 : Nat) + (List.length r2.1) ≤ 140737488355328)) ((f42 k (x.2.1, ())).bind fun r3 => ((f71 k (x.1.1, (r3.1, ()))).bind fun r4 => (chk (decide ((List.length (([] : List Int) ++ (List.map (fun b : UInt8 => ((b.toNat : Nat) : Int)) r2.1))) + (List.length r4.1) ≤ 140737488355328)) (A11 (x.2.1.2, (((((List.length x.2.1.2) : Nat) : Int)), ((0 : Int), (x.1.1, (x.1.2.1, (x.1.2.2, ((0 : Int), ((0 : Int), ((([] : List Int) ++ (List.map (fun b : UInt8 => ((b.toNat : Nat) : Int)) r2.1)) ++ (List.map (fun b : UInt8 => ((b.toNat : Nat) : Int)) r4.1))))))))))))))))))
def f36 (k : Nat) (x : f36_x) : Option f36_r := f36_m k (f36_l11 k) x
def f36_lv : Nat → Lp := lps [(11, .keep [2, 5, 7, 8, 50, 51, 52] [])]
def f36_G : Env := findL [(31, ⟨[(.pair (.int .i64) (.pair (.int .i64) (.sl y66))), y34], [(.pair (.int .i64) (.int .i64))], f31, .no⟩), (33, ⟨[(.int .i64), .str], [.str, .bool], f33, .no⟩), (40, ⟨[(.pair (.int .i64) (.pair (.int .i64) (.sl y66))), (.int .i64)], [y66, .bool], f40, .no⟩), (41, ⟨[(.int .i64), y66, .str], [.str, (.int .i64)], f41, .no⟩), (42, ⟨[y34], [(.pair (.int .u64) (.int .u64))], f42, .no⟩), (69, ⟨[.str, (.refp .bool)], [], fun _ _ => none, .put 5 110⟩), (71, ⟨[(.int .i64), (.pair (.int .u64) (.int .u64))], [.str, (.int .i64)], f71, .no⟩), (72, ⟨[], [.str], fun _ _ => none, .str 5 110⟩)]
theorem f36_e11 (k : Nat) (kn : St → Option f36_r) (p : f36_t11) : stepAt types f36_G f36_lv k Try.f36.ntmps (kns []) 11 (Try.f36.body.getD .skip) (topK types Try.f36 [.str, (.pair (.int .i64) (.int .i64))]) (f36_s11 p) kn =
    f36_b11 k (fun p => kn (f36_s11 p)) p := by kernel_rfl
theorem f36_q11 (k : Nat) (n : Nat) (p : f36_t11) : loopAt types f36_G f36_lv k Try.f36.ntmps (kns []) 11 (Try.f36.body.getD .skip) (topK types Try.f36 [.str, (.pair (.int .i64) (.int .i64))]) n (f36_s11 p) = loopP (fun R11 p => f36_b11 k R11 p) n p :=
  loopAt_eq (fun kn p => f36_e11 k kn p) n p
theorem f36_e (k : Nat) (x : f36_x) : fnK types f36_G f36_lv k Try.f36 [(.pair (.int .i64) (.pair (.int .i64) (.sl y66))), y34] [.str, (.pair (.int .i64) (.int .i64))] x =
    f36_m k (fun p => loopAt types f36_G f36_lv k Try.f36.ntmps (kns []) 11 (Try.f36.body.getD .skip) (topK types Try.f36 [.str, (.pair (.int .i64) (.int .i64))]) k (f36_s11 p)) x := by kernel_rfl
theorem f36_eq (k : Nat) (x : f36_x) : fnK types f36_G f36_lv k Try.f36 [(.pair (.int .i64) (.pair (.int .i64) (.sl y66))), y34] [.str, (.pair (.int .i64) (.int .i64))] x = f36 k x :=
  (f36_e k x).trans (congrFun (congrArg (f36_m k) (funext fun p => f36_q11 k k p)) x)
theorem f36_c : Contract Try.prog 36 ⟨[(.pair (.int .i64) (.pair (.int .i64) (.sl y66))), y34], [.str, (.pair (.int .i64) (.int .i64))], f36, .no⟩ :=
  fn_contract types_all (env_cons f31_c (env_cons f33_c (env_cons f40_c (env_cons f41_c (env_cons f42_c (env_put f69_c (env_cons f71_c (env_str f72_c env_nil)))))))) mixes (by kernel_rfl) (by kernel_rfl) (by kernel_rfl) (by kernel_rfl) f36_eq

/-! groat/groatlaw17.awake -/
abbrev f32_r := Bool × Unit
abbrev f32_x := Unit
def f32_m (k : Nat) (x : f32_x) : Option f32_r :=
  ((f49 k ((0 : Int), ())).bind fun r1 => ((f36 k (r1.1, ((([48, 56, 48, 48] : List UInt8), ([((11 : Int), ([49, 50, 51, 52, 53, 54] : List UInt8)), ((70 : Int), ([51, 48, 49] : List UInt8))])), ()))).bind fun r2 => ((f49 k ((1 : Int), ())).bind fun r3 => ((f36 k (r3.1, ((([49, 56, 48, 48] : List UInt8), ([((11 : Int), ([49, 50, 51, 52, 53, 54] : List UInt8)), ((70 : Int), ([51, 48, 49] : List UInt8))])), ()))).bind fun r4 => ((f49 k ((0 : Int), ())).bind fun r5 => ((f36 k (r5.1, ((([49, 56, 48, 48] : List UInt8), ([((11 : Int), ([49, 50, 51, 52, 53, 54] : List UInt8)), ((70 : Int), ([51, 48, 49] : List UInt8))])), ()))).bind fun r6 => (cond (r2.1 == ([48, 56, 48, 48, 56, 48, 50, 48, 48, 48, 48, 48, 48, 48, 48, 48, 48, 48, 48, 48, 48, 52, 48, 48, 48, 48, 48, 48, 48, 48, 48, 48, 48, 48, 48, 48, 49, 50, 51, 52, 53, 54, 51, 48, 49] : List UInt8)) (cond ((r2.2.1.1 == (0 : Int)) && ((r2.2.1.2 == (0 : Int)) && true)) (cond (r4.1 == ([24, 0, 128, 32, 0, 0, 0, 0, 0, 0, 4, 0, 0, 0, 0, 0, 0, 0, 18, 52, 86, 3, 1] : List UInt8)) (cond ((r4.2.1.1 == (0 : Int)) && ((r4.2.1.2 == (0 : Int)) && true)) (some (((r6.2.1.1 == (7 : Int)) && ((r6.2.1.2 == (0 : Int)) && true)), ())) (some (false, ()))) (some (false, ()))) (some (false, ()))) (some (false, ())))))))))
def f32 (k : Nat) (x : f32_x) : Option f32_r := f32_m k x
def f32_lv : Nat → Lp := lps []
def f32_G : Env := findL [(36, ⟨[(.pair (.int .i64) (.pair (.int .i64) (.sl y66))), y34], [.str, (.pair (.int .i64) (.int .i64))], f36, .no⟩), (49, ⟨[(.int .i64)], [(.pair (.int .i64) (.pair (.int .i64) (.sl y66)))], f49, .no⟩)]
theorem f32_e (k : Nat) (x : f32_x) : fnK types f32_G f32_lv k Try.f32 [] [.bool] x =
    f32_m k x := by kernel_rfl
theorem f32_eq (k : Nat) (x : f32_x) : fnK types f32_G f32_lv k Try.f32 [] [.bool] x = f32 k x :=
  f32_e k x
theorem f32_c : Contract Try.prog 32 ⟨[], [.bool], f32, .no⟩ :=
  fn_contract types_all (env_cons f36_c (env_cons f49_c env_nil)) mixes (by kernel_rfl) (by kernel_rfl) (by kernel_rfl) (by kernel_rfl) f32_eq

/-! groat/groatref03.Put -/
abbrev f68_r := List UInt8 × Bool × Unit
abbrev f68_x := List UInt8 × Unit
abbrev f68_t8 := List UInt8 × Int × Int × List Int
def f68_s8 (p : f68_t8) : St := [(0, .tv (.f (.c (.v .str p.1)))), (8, .tv (.f (.c (.own 1256)))), (10, .tv (.f (.c (.v (.int .i64) p.2.1)))), (12, .tv (.f (.c (.v (.int .i64) p.2.2.1)))), (2513, .row 5 (.int .u8) p.2.2.2)]
def f68_b8 (k : Nat) (R8 : f68_t8 → Option f68_r) (p : f68_t8) : Option f68_r :=
  (cond (decide (p.2.2.1 < ((((List.length p.1) : Nat) : Int)))) (chk (decide ((0 : Int) ≤ p.2.2.1)) (chk (decide (p.2.2.1 < ((((List.length p.1) : Nat) : Int)))) (cond (p.2.1 == (0 : Int)) (chk (decide ((((List.length p.2.2.2) + (List.length ([(IntKind.u8.wrap ((16 : Int) * (IntKind.u8.wrap ((((UInt8.toNat (List.getD p.1 (Int.toNat p.2.2.1) 0) : Nat) : Int)) - (48 : Int)))))]))) * (1 : Nat)) ≤ (140737488355328 : Nat))) (chk (decide (((List.length p.2.2.2) + (List.length ([(IntKind.u8.wrap ((16 : Int) * (IntKind.u8.wrap ((((UInt8.toNat (List.getD p.1 (Int.toNat p.2.2.1) 0) : Nat) : Int)) - (48 : Int)))))]))) ≤ (9223372036854775807 : Nat))) (R8 (p.1, ((IntKind.i64.wrap ((1 : Int) - p.2.1)), ((IntKind.i64.wrap (p.2.2.1 + (1 : Int))), (p.2.2.2 ++ ([(IntKind.u8.wrap ((16 : Int) * (IntKind.u8.wrap ((((UInt8.toNat (List.getD p.1 (Int.toNat p.2.2.1) 0) : Nat) : Int)) - (48 : Int)))))])))))))) (chk (decide ((0 : Int) ≤ (IntKind.i64.wrap (((((List.length p.2.2.2) : Nat) : Int)) - (1 : Int))))) (chk (decide ((IntKind.i64.wrap (((((List.length p.2.2.2) : Nat) : Int)) - (1 : Int))) < ((((List.length p.2.2.2) : Nat) : Int)))) (chk (decide ((Int.toNat (IntKind.i64.wrap (((((List.length p.2.2.2) : Nat) : Int)) - (1 : Int)))) < (List.length p.2.2.2))) (chk (decide ((0 : Int) ≤ (IntKind.i64.wrap (((((List.length p.2.2.2) : Nat) : Int)) - (1 : Int))))) (chk (decide ((IntKind.i64.wrap (((((List.length p.2.2.2) : Nat) : Int)) - (1 : Int))) < ((((List.length p.2.2.2) : Nat) : Int)))) (chk (decide ((Int.toNat (IntKind.i64.wrap (((((List.length p.2.2.2) : Nat) : Int)) - (1 : Int)))) < (List.length p.2.2.2))) (R8 (p.1, ((IntKind.i64.wrap ((1 : Int) - p.2.1)), ((IntKind.i64.wrap (p.2.2.1 + (1 : Int))), (List.set p.2.2.2 (Int.toNat (IntKind.i64.wrap (((((List.length p.2.2.2) : Nat) : Int)) - (1 : Int)))) (IntKind.u8.wrap ((List.getD p.2.2.2 (Int.toNat (IntKind.i64.wrap (((((List.length p.2.2.2) : Nat) : Int)) - (1 : Int)))) (0 : Int)) + (IntKind.u8.wrap ((((UInt8.toNat (List.getD p.1 (Int.toNat p.2.2.1) 0) : Nat) : Int)) - (48 : Int))))))))))))))))))) (some ((List.map toByte p.2.2.2), (true, ()))))
def f68_l8 (k : Nat) : f68_t8 → Option f68_r := loopP (fun R8 p => f68_b8 k R8 p) k
def f68_m (k : Nat) (A8 : f68_t8 → Option f68_r) (x : f68_x) : Option f68_r :=
  (cond (decide (((((List.length x.1) : Nat) : Int)) > (999 : Int))) (some (([] : List UInt8), (false, ()))) ((f67 k (x.1, ())).bind fun r1 => (cond (!r1.1) (some (([] : List UInt8), (false, ()))) (cond ((Int.tmod ((((List.length x.1) : Nat) : Int)) (2 : Int)) == (1 : Int)) (chk (decide ((((0 : Nat) + (List.length ([(0 : Int)]))) * (1 : Nat)) ≤ (140737488355328 : Nat))) (chk (decide (((0 : Nat) + (List.length ([(0 : Int)]))) ≤ (9223372036854775807 : Nat))) (A8 (x.1, ((Int.tmod ((((List.length x.1) : Nat) : Int)) (2 : Int)), ((0 : Int), (([] : List Int) ++ ([(0 : Int)])))))))) (A8 (x.1, ((Int.tmod ((((List.length x.1) : Nat) : Int)) (2 : Int)), ((0 : Int), ([] : List Int)))))))))
def f68 (k : Nat) (x : f68_x) : Option f68_r := f68_m k (f68_l8 k) x
def f68_lv : Nat → Lp := lps [(8, .keep [0, 4, 5, 6] [])]
def f68_G : Env := findL [(67, ⟨[.str], [.bool], f67, .no⟩)]
theorem f68_e8 (k : Nat) (kn : St → Option f68_r) (p : f68_t8) : stepAt types f68_G f68_lv k Try.f68.ntmps (kns []) 8 (Try.f68.body.getD .skip) (topK types Try.f68 [.str, .bool]) (f68_s8 p) kn =
    f68_b8 k (fun p => kn (f68_s8 p)) p := by kernel_rfl
theorem f68_q8 (k : Nat) (n : Nat) (p : f68_t8) : loopAt types f68_G f68_lv k Try.f68.ntmps (kns []) 8 (Try.f68.body.getD .skip) (topK types Try.f68 [.str, .bool]) n (f68_s8 p) = loopP (fun R8 p => f68_b8 k R8 p) n p :=
  loopAt_eq (fun kn p => f68_e8 k kn p) n p
theorem f68_e (k : Nat) (x : f68_x) : fnK types f68_G f68_lv k Try.f68 [.str] [.str, .bool] x =
    f68_m k (fun p => loopAt types f68_G f68_lv k Try.f68.ntmps (kns []) 8 (Try.f68.body.getD .skip) (topK types Try.f68 [.str, .bool]) k (f68_s8 p)) x := by kernel_rfl
theorem f68_eq (k : Nat) (x : f68_x) : fnK types f68_G f68_lv k Try.f68 [.str] [.str, .bool] x = f68 k x :=
  (f68_e k x).trans (congrFun (congrArg (f68_m k) (funext fun p => f68_q8 k k p)) x)
theorem f68_c : Contract Try.prog 68 ⟨[.str], [.str, .bool], f68, .no⟩ :=
  fn_contract types_all (env_cons f67_c env_nil) mixes (by kernel_rfl) (by kernel_rfl) (by kernel_rfl) (by kernel_rfl) f68_eq

/-! groat/groatref17.Type -/
abbrev f35_r := List UInt8 × Unit
abbrev f35_x := Int × List UInt8 × Unit
def f35_m (k : Nat) (x : f35_x) : Option f35_r :=
  (cond (x.1 == (1 : Int)) (some (x.2.1, ())) ((f68 k (x.2.1, ())).bind fun r1 => (some (r1.1, ()))))
def f35 (k : Nat) (x : f35_x) : Option f35_r := f35_m k x
def f35_lv : Nat → Lp := lps []
def f35_G : Env := findL [(68, ⟨[.str], [.str, .bool], f68, .no⟩)]
theorem f35_e (k : Nat) (x : f35_x) : fnK types f35_G f35_lv k Try.f35 [(.int .i64), .str] [.str] x =
    f35_m k x := by kernel_rfl
theorem f35_eq (k : Nat) (x : f35_x) : fnK types f35_G f35_lv k Try.f35 [(.int .i64), .str] [.str] x = f35 k x :=
  f35_e k x
theorem f35_c : Contract Try.prog 35 ⟨[(.int .i64), .str], [.str], f35, .no⟩ :=
  fn_contract types_all (env_cons f68_c env_nil) mixes (by kernel_rfl) (by kernel_rfl) (by kernel_rfl) (by kernel_rfl) f35_eq

/-! groat/groatlaw17.WireTypes -/
abbrev f6_r := Bool × Unit
abbrev f6_x := Int × List UInt8 × Unit
def f6_m (k : Nat) (x : f6_x) : Option f6_r :=
  ((f32 k ()).bind fun r1 => (cond (!r1.1) ((f32 k ()).bind fun r2 => (some (r2.1, ()))) (cond (decide (((((List.length x.2.1) : Nat) : Int)) > (100 : Int))) ((f32 k ()).bind fun r3 => (some (r3.1, ()))) ((f33 k (x.1, (x.2.1, ()))).bind fun r4 => (cond (x.1 != (1 : Int)) (cond (x.1 != (2 : Int)) (cond (!r4.2.1) (some ((r4.1 == ([] : List UInt8)), ())) (some (false, ()))) ((f34 k (x.2.1, ())).bind fun r5 => (cond (!r5.1) (cond (!r4.2.1) (some ((r4.1 == ([] : List UInt8)), ())) (some (false, ()))) (cond r4.2.1 ((f35 k (x.1, (x.2.1, ()))).bind fun r6 => (some ((r4.1 == r6.1), ()))) (some (false, ())))))) ((f34 k (x.2.1, ())).bind fun r7 => (cond (!r7.1) (cond (!r4.2.1) (some ((r4.1 == ([] : List UInt8)), ())) (some (false, ()))) (cond r4.2.1 ((f35 k (x.1, (x.2.1, ()))).bind fun r8 => (some ((r4.1 == r8.1), ()))) (some (false, ()))))))))))
def f6 (k : Nat) (x : f6_x) : Option f6_r := f6_m k x
def f6_lv : Nat → Lp := lps []
def f6_G : Env := findL [(32, ⟨[], [.bool], f32, .no⟩), (33, ⟨[(.int .i64), .str], [.str, .bool], f33, .no⟩), (34, ⟨[.str], [.bool], f34, .no⟩), (35, ⟨[(.int .i64), .str], [.str], f35, .no⟩)]
theorem f6_e (k : Nat) (x : f6_x) : fnK types f6_G f6_lv k Try.f6 [(.int .i64), .str] [.bool] x =
    f6_m k x := by kernel_rfl
theorem f6_eq (k : Nat) (x : f6_x) : fnK types f6_G f6_lv k Try.f6 [(.int .i64), .str] [.bool] x = f6 k x :=
  f6_e k x
theorem f6_c : Contract Try.prog 6 ⟨[(.int .i64), .str], [.bool], f6, .no⟩ :=
  fn_contract types_all (env_cons f32_c (env_cons f33_c (env_cons f34_c (env_cons f35_c env_nil)))) mixes (by kernel_rfl) (by kernel_rfl) (by kernel_rfl) (by kernel_rfl) f6_eq

/-! groat/groatref06.bytes -/
abbrev f116_r := List UInt8 × Unit
abbrev f116_x := List Int × Int × Unit
abbrev f116_t7 := List Int × Int × Int × Int × Int × List Int
abbrev f116_t3 := List Int × Int × Int × List Int
def f116_s7 (p : f116_t7) : St := [(0, .tv (.f (.c (.v (.sl (.int .i64)) p.1)))), (2, .tv (.f (.c (.v (.int .i64) p.2.1)))), (10, .tv (.f (.c (.own 1320)))), (12, .tv (.f (.c (.v (.int .i64) p.2.2.1)))), (14, .tv (.f (.c (.v (.int .u8) p.2.2.2.1)))), (16, .tv (.f (.c (.v (.int .i64) p.2.2.2.2.1)))), (2641, .row 5 (.int .u8) p.2.2.2.2.2)]
def f116_b7 (k : Nat) (R3 : f116_t3 → Option f116_r) (R7 : f116_t7 → Option f116_r) (p : f116_t7) : Option f116_r :=
  (cond (decide (p.2.2.2.2.1 < (8 : Int))) ((f28 k (p.1, ((IntKind.i64.wrap ((IntKind.i64.wrap (p.2.1 + (IntKind.i64.wrap ((8 : Int) * p.2.2.1)))) + p.2.2.2.2.1)), ()))).bind fun r1 => (cond r1.1 (R7 (p.1, (p.2.1, (p.2.2.1, ((IntKind.u8.wrap ((IntKind.u8.wrap (p.2.2.2.1 * (2 : Int))) + (1 : Int))), ((IntKind.i64.wrap (p.2.2.2.2.1 + (1 : Int))), p.2.2.2.2.2)))))) (R7 (p.1, (p.2.1, (p.2.2.1, ((IntKind.u8.wrap (p.2.2.2.1 * (2 : Int))), ((IntKind.i64.wrap (p.2.2.2.2.1 + (1 : Int))), p.2.2.2.2.2)))))))) (chk (decide ((((List.length p.2.2.2.2.2) + (List.length ([p.2.2.2.1]))) * (1 : Nat)) ≤ (140737488355328 : Nat))) (chk (decide (((List.length p.2.2.2.2.2) + (List.length ([p.2.2.2.1]))) ≤ (9223372036854775807 : Nat))) (R3 (p.1, (p.2.1, ((IntKind.i64.wrap (p.2.2.1 + (1 : Int))), (p.2.2.2.2.2 ++ ([p.2.2.2.1])))))))))
def f116_l7 (k : Nat) (R3 : f116_t3 → Option f116_r) : f116_t7 → Option f116_r := loopP (fun R7 p => f116_b7 k R3 R7 p) k
def f116_s3 (p : f116_t3) : St := [(0, .tv (.f (.c (.v (.sl (.int .i64)) p.1)))), (2, .tv (.f (.c (.v (.int .i64) p.2.1)))), (10, .tv (.f (.c (.own 1320)))), (12, .tv (.f (.c (.v (.int .i64) p.2.2.1)))), (2641, .row 5 (.int .u8) p.2.2.2)]
def f116_b3 (k : Nat) (A7 : f116_t7 → Option f116_r) (R3 : f116_t3 → Option f116_r) (p : f116_t3) : Option f116_r :=
  (cond (decide (p.2.2.1 < (8 : Int))) (A7 (p.1, (p.2.1, (p.2.2.1, ((0 : Int), ((0 : Int), p.2.2.2)))))) (some ((List.map toByte p.2.2.2), ())))
def f116_l3 (k : Nat) : f116_t3 → Option f116_r := loopP (fun R3 p => f116_b3 k (f116_l7 k R3) R3 p) k
def f116_m (k : Nat) (A3 : f116_t3 → Option f116_r) (x : f116_x) : Option f116_r :=
  (A3 (x.1, (x.2.1, ((0 : Int), ([] : List Int)))))
def f116 (k : Nat) (x : f116_x) : Option f116_r := f116_m k (f116_l3 k) x
def f116_lv : Nat → Lp := lps [(7, .keep [0, 1, 5, 6, 7, 8] []), (3, .keep [0, 1, 5, 6] [])]
def f116_G : Env := findL [(28, ⟨[(.sl (.int .i64)), (.int .i64)], [.bool], f28, .no⟩)]
theorem f116_e7 (k : Nat) (K3 : St → Option f116_r) (kn : St → Option f116_r) (p : f116_t7) : stepAt types f116_G f116_lv k Try.f116.ntmps (kns [(3, K3)]) 7 (Try.f116.body.getD .skip) (topK types Try.f116 [.str]) (f116_s7 p) kn =
    f116_b7 k (fun p => K3 (f116_s3 p)) (fun p => kn (f116_s7 p)) p := by kernel_rfl
theorem f116_q7 (k : Nat) (K3 : St → Option f116_r) (n : Nat) (p : f116_t7) : loopAt types f116_G f116_lv k Try.f116.ntmps (kns [(3, K3)]) 7 (Try.f116.body.getD .skip) (topK types Try.f116 [.str]) n (f116_s7 p) = loopP (fun R7 p => f116_b7 k (fun p => K3 (f116_s3 p)) R7 p) n p :=
  loopAt_eq (fun kn p => f116_e7 k K3 kn p) n p
theorem f116_e3 (k : Nat) (kn : St → Option f116_r) (p : f116_t3) : stepAt types f116_G f116_lv k Try.f116.ntmps (kns []) 3 (Try.f116.body.getD .skip) (topK types Try.f116 [.str]) (f116_s3 p) kn =
    f116_b3 k (fun p => loopAt types f116_G f116_lv k Try.f116.ntmps (kns [(3, kn)]) 7 (Try.f116.body.getD .skip) (topK types Try.f116 [.str]) k (f116_s7 p)) (fun p => kn (f116_s3 p)) p := by kernel_rfl
theorem f116_q3 (k : Nat) (n : Nat) (p : f116_t3) : loopAt types f116_G f116_lv k Try.f116.ntmps (kns []) 3 (Try.f116.body.getD .skip) (topK types Try.f116 [.str]) n (f116_s3 p) = loopP (fun R3 p => f116_b3 k (f116_l7 k R3) R3 p) n p :=
  loopAt_eq (fun kn p => (f116_e3 k kn p).trans (congrFun (congrFun (congrArg (f116_b3 k) (funext fun p => f116_q7 k kn k p)) _) _)) n p
theorem f116_e (k : Nat) (x : f116_x) : fnK types f116_G f116_lv k Try.f116 [(.sl (.int .i64)), (.int .i64)] [.str] x =
    f116_m k (fun p => loopAt types f116_G f116_lv k Try.f116.ntmps (kns []) 3 (Try.f116.body.getD .skip) (topK types Try.f116 [.str]) k (f116_s3 p)) x := by kernel_rfl
theorem f116_eq (k : Nat) (x : f116_x) : fnK types f116_G f116_lv k Try.f116 [(.sl (.int .i64)), (.int .i64)] [.str] x = f116 k x :=
  (f116_e k x).trans (congrFun (congrArg (f116_m k) (funext fun p => f116_q3 k k p)) x)
theorem f116_c : Contract Try.prog 116 ⟨[(.sl (.int .i64)), (.int .i64)], [.str], f116, .no⟩ :=
  fn_contract types_all (env_cons f28_c env_nil) mixes (by kernel_rfl) (by kernel_rfl) (by kernel_rfl) (by kernel_rfl) f116_eq

/-! groat/groatref02.Digits -/
abbrev f146_r := List UInt8 × Unit
abbrev f146_x := Unit
def f146_m (k : Nat) (x : f146_x) : Option f146_r :=
  (some (([48, 49, 50, 51, 52, 53, 54, 55, 56, 57, 65, 66, 67, 68, 69, 70] : List UInt8), ()))
def f146 (k : Nat) (x : f146_x) : Option f146_r := f146_m k x
def f146_lv : Nat → Lp := lps []
def f146_G : Env := findL []
theorem f146_e (k : Nat) (x : f146_x) : fnK types f146_G f146_lv k Try.f146 [] [.str] x =
    f146_m k x := by kernel_rfl
theorem f146_eq (k : Nat) (x : f146_x) : fnK types f146_G f146_lv k Try.f146 [] [.str] x = f146 k x :=
  f146_e k x
theorem f146_c : Contract Try.prog 146 ⟨[], [.str], f146, .no⟩ :=
  fn_contract types_all env_nil mixes (by kernel_rfl) (by kernel_rfl) (by kernel_rfl) (by kernel_rfl) f146_eq

/-! groat/groatref02.Put -/
abbrev f117_r := List UInt8 × Unit
abbrev f117_x := List UInt8 × Unit
abbrev f117_t3 := List UInt8 × Int × List Int
def f117_s3 (p : f117_t3) : St := [(0, .tv (.f (.c (.v .str p.1)))), (6, .tv (.f (.c (.own 1192)))), (8, .tv (.f (.c (.v (.int .i64) p.2.1)))), (2385, .row 5 (.int .u8) p.2.2)]
def f117_b3 (k : Nat) (R3 : f117_t3 → Option f117_r) (p : f117_t3) : Option f117_r :=
  (cond (decide (p.2.1 < ((((List.length p.1) : Nat) : Int)))) ((f146 k ()).bind fun r1 => (chk (decide ((0 : Int) ≤ p.2.1)) (chk (decide (p.2.1 < ((((List.length p.1) : Nat) : Int)))) (chk (decide ((0 : Int) ≤ (IntKind.u8.wrap (Int.tdiv (((UInt8.toNat (List.getD p.1 (Int.toNat p.2.1) 0) : Nat) : Int)) (16 : Int))))) (chk (decide ((IntKind.u8.wrap (Int.tdiv (((UInt8.toNat (List.getD p.1 (Int.toNat p.2.1) 0) : Nat) : Int)) (16 : Int))) < ((((List.length r1.1) : Nat) : Int)))) ((f146 k ()).bind fun r2 => (chk (decide ((0 : Int) ≤ p.2.1)) (chk (decide (p.2.1 < ((((List.length p.1) : Nat) : Int)))) (chk (decide ((0 : Int) ≤ (Int.tmod (((UInt8.toNat (List.getD p.1 (Int.toNat p.2.1) 0) : Nat) : Int)) (16 : Int)))) (chk (decide ((Int.tmod (((UInt8.toNat (List.getD p.1 (Int.toNat p.2.1) 0) : Nat) : Int)) (16 : Int)) < ((((List.length r2.1) : Nat) : Int)))) (chk (decide ((((List.length p.2.2) + (List.length ([(((UInt8.toNat (List.getD r1.1 (Int.toNat (IntKind.u8.wrap (Int.tdiv (((UInt8.toNat (List.getD p.1 (Int.toNat p.2.1) 0) : Nat) : Int)) (16 : Int)))) 0) : Nat) : Int)), (((UInt8.toNat (List.getD r2.1 (Int.toNat (Int.tmod (((UInt8.toNat (List.getD p.1 (Int.toNat p.2.1) 0) : Nat) : Int)) (16 : Int))) 0) : Nat) : Int))]))) * (1 : Nat)) ≤ (140737488355328 : Nat))) (chk (decide (((List.length p.2.2) + (List.length ([(((UInt8.toNat (List.getD r1.1 (Int.toNat (IntKind.u8.wrap (Int.tdiv (((UInt8.toNat (List.getD p.1 (Int.toNat p.2.1) 0) : Nat) : Int)) (16 : Int)))) 0) : Nat) : Int)), (((UInt8.toNat (List.getD r2.1 (Int.toNat (Int.tmod (((UInt8.toNat (List.getD p.1 (Int.toNat p.2.1) 0) : Nat) : Int)) (16 : Int))) 0) : Nat) : Int))]))) ≤ (9223372036854775807 : Nat))) (R3 (p.1, ((IntKind.i64.wrap (p.2.1 + (1 : Int))), (p.2.2 ++ ([(((UInt8.toNat (List.getD r1.1 (Int.toNat (IntKind.u8.wrap (Int.tdiv (((UInt8.toNat (List.getD p.1 (Int.toNat p.2.1) 0) : Nat) : Int)) (16 : Int)))) 0) : Nat) : Int)), (((UInt8.toNat (List.getD r2.1 (Int.toNat (Int.tmod (((UInt8.toNat (List.getD p.1 (Int.toNat p.2.1) 0) : Nat) : Int)) (16 : Int))) 0) : Nat) : Int))]))))))))))))))))) (some ((List.map toByte p.2.2), ())))
def f117_l3 (k : Nat) : f117_t3 → Option f117_r := loopP (fun R3 p => f117_b3 k R3 p) k
def f117_m (k : Nat) (A3 : f117_t3 → Option f117_r) (x : f117_x) : Option f117_r :=
  (A3 (x.1, ((0 : Int), ([] : List Int))))
def f117 (k : Nat) (x : f117_x) : Option f117_r := f117_m k (f117_l3 k) x
def f117_lv : Nat → Lp := lps [(3, .keep [0, 3, 4] [])]
def f117_G : Env := findL [(146, ⟨[], [.str], f146, .no⟩)]
theorem f117_e3 (k : Nat) (kn : St → Option f117_r) (p : f117_t3) : stepAt types f117_G f117_lv k Try.f117.ntmps (kns []) 3 (Try.f117.body.getD .skip) (topK types Try.f117 [.str]) (f117_s3 p) kn =
    f117_b3 k (fun p => kn (f117_s3 p)) p := by kernel_rfl
theorem f117_q3 (k : Nat) (n : Nat) (p : f117_t3) : loopAt types f117_G f117_lv k Try.f117.ntmps (kns []) 3 (Try.f117.body.getD .skip) (topK types Try.f117 [.str]) n (f117_s3 p) = loopP (fun R3 p => f117_b3 k R3 p) n p :=
  loopAt_eq (fun kn p => f117_e3 k kn p) n p
theorem f117_e (k : Nat) (x : f117_x) : fnK types f117_G f117_lv k Try.f117 [.str] [.str] x =
    f117_m k (fun p => loopAt types f117_G f117_lv k Try.f117.ntmps (kns []) 3 (Try.f117.body.getD .skip) (topK types Try.f117 [.str]) k (f117_s3 p)) x := by kernel_rfl
theorem f117_eq (k : Nat) (x : f117_x) : fnK types f117_G f117_lv k Try.f117 [.str] [.str] x = f117 k x :=
  (f117_e k x).trans (congrFun (congrArg (f117_m k) (funext fun p => f117_q3 k k p)) x)
theorem f117_c : Contract Try.prog 117 ⟨[.str], [.str], f117, .no⟩ :=
  fn_contract types_all (env_cons f146_c env_nil) mixes (by kernel_rfl) (by kernel_rfl) (by kernel_rfl) (by kernel_rfl) f117_eq

/-! groat/groatref06.Put -/
abbrev f73_r := List UInt8 × Bool × Unit
abbrev f73_x := Int × List Int × Unit
abbrev f73_t5 := Int × List Int × Bool × Int
def f73_s5 (p : f73_t5) : St := [(0, .tv (.f (.c (.v (.int .i64) p.1)))), (2, .tv (.f (.c (.v (.sl (.int .i64)) p.2.1)))), (12, .tv (.f (.c (.v .bool p.2.2.1)))), (14, .tv (.f (.c (.v (.int .i64) p.2.2.2))))]
def f73_b5 (k : Nat) (R5 : f73_t5 → Option f73_r) (p : f73_t5) : Option f73_r :=
  (cond (decide (p.2.2.2 ≤ (128 : Int))) (cond p.2.2.1 (R5 (p.1, (p.2.1, (true, (IntKind.i64.wrap (p.2.2.2 + (1 : Int))))))) ((f28 k (p.2.1, (p.2.2.2, ()))).bind fun r2 => (R5 (p.1, (p.2.1, (r2.1, (IntKind.i64.wrap (p.2.2.2 + (1 : Int))))))))) ((f116 k (p.2.1, ((1 : Int), ()))).bind fun r3 => (cond p.2.2.1 (chk (decide ((((List.length ([(1 : Int)])) + (List.length p.2.1)) * (8 : Nat)) ≤ (140737488355328 : Nat))) (chk (decide (((List.length ([(1 : Int)])) + (List.length p.2.1)) ≤ (9223372036854775807 : Nat))) ((f116 k ((([(1 : Int)]) ++ p.2.1), ((1 : Int), ()))).bind fun r4 => ((f116 k (p.2.1, ((65 : Int), ()))).bind fun r5 => (chk (decide (((List.length r4.1) + (List.length r5.1)) ≤ (9223372036854775807 : Nat))) (cond (p.1 == (1 : Int)) ((f117 k ((r4.1 ++ r5.1), ())).bind fun r6 => (some (r6.1, (true, ())))) (some ((r4.1 ++ r5.1), (true, ()))))))))) (cond (p.1 == (1 : Int)) ((f117 k (r3.1, ())).bind fun r7 => (some (r7.1, (true, ())))) (some (r3.1, (true, ())))))))
def f73_l5 (k : Nat) : f73_t5 → Option f73_r := loopP (fun R5 p => f73_b5 k R5 p) k
def f73_m (k : Nat) (A5 : f73_t5 → Option f73_r) (x : f73_x) : Option f73_r :=
  (cond (x.1 != (1 : Int)) (cond (x.1 != (2 : Int)) (some (([] : List UInt8), (false, ()))) ((f28 k (x.2.1, ((1 : Int), ()))).bind fun r1 => (cond r1.1 (some (([] : List UInt8), (false, ()))) (A5 (x.1, (x.2.1, (false, (65 : Int)))))))) ((f28 k (x.2.1, ((1 : Int), ()))).bind fun r8 => (cond r8.1 (some (([] : List UInt8), (false, ()))) (A5 (x.1, (x.2.1, (false, (65 : Int))))))))
def f73 (k : Nat) (x : f73_x) : Option f73_r := f73_m k (f73_l5 k) x
def f73_lv : Nat → Lp := lps [(5, .keep [0, 1, 6, 7] [])]
def f73_G : Env := findL [(28, ⟨[(.sl (.int .i64)), (.int .i64)], [.bool], f28, .no⟩), (116, ⟨[(.sl (.int .i64)), (.int .i64)], [.str], f116, .no⟩), (117, ⟨[.str], [.str], f117, .no⟩)]
theorem f73_e5 (k : Nat) (kn : St → Option f73_r) (p : f73_t5) : stepAt types f73_G f73_lv k Try.f73.ntmps (kns []) 5 (Try.f73.body.getD .skip) (topK types Try.f73 [.str, .bool]) (f73_s5 p) kn =
    f73_b5 k (fun p => kn (f73_s5 p)) p := by kernel_rfl
theorem f73_q5 (k : Nat) (n : Nat) (p : f73_t5) : loopAt types f73_G f73_lv k Try.f73.ntmps (kns []) 5 (Try.f73.body.getD .skip) (topK types Try.f73 [.str, .bool]) n (f73_s5 p) = loopP (fun R5 p => f73_b5 k R5 p) n p :=
  loopAt_eq (fun kn p => f73_e5 k kn p) n p
theorem f73_e (k : Nat) (x : f73_x) : fnK types f73_G f73_lv k Try.f73 [(.int .i64), (.sl (.int .i64))] [.str, .bool] x =
    f73_m k (fun p => loopAt types f73_G f73_lv k Try.f73.ntmps (kns []) 5 (Try.f73.body.getD .skip) (topK types Try.f73 [.str, .bool]) k (f73_s5 p)) x := by kernel_rfl
theorem f73_eq (k : Nat) (x : f73_x) : fnK types f73_G f73_lv k Try.f73 [(.int .i64), (.sl (.int .i64))] [.str, .bool] x = f73 k x :=
  (f73_e k x).trans (congrFun (congrArg (f73_m k) (funext fun p => f73_q5 k k p)) x)
theorem f73_c : Contract Try.prog 73 ⟨[(.int .i64), (.sl (.int .i64))], [.str, .bool], f73, .no⟩ :=
  fn_contract types_all (env_cons f28_c (env_cons f116_c (env_cons f117_c env_nil))) mixes (by kernel_rfl) (by kernel_rfl) (by kernel_rfl) (by kernel_rfl) f73_eq

/-! groat/groatref16.Numbers -/
abbrev f74_r := List Int × Unit
abbrev f74_x := (List UInt8 × List (Int × List UInt8)) × Unit
abbrev f74_t3 := Int × List UInt8 × List (Int × List UInt8) × List Int
def f74_s3 (p : f74_t3) : St := [(2, .tv (.f (.c (.ptr 1064 0)))), (6, .tv (.f (.c (.own 1192)))), (8, .tv (.f (.c (.v (.int .i64) p.1)))), (2129, .box [.v .str p.2.1, .v (.sl (.pair (.int .i64) .str)) p.2.2.1]), (2385, .row 3 (.int .i64) p.2.2.2)]
def f74_b3 (k : Nat) (R3 : f74_t3 → Option f74_r) (p : f74_t3) : Option f74_r :=
  (cond (decide (p.1 < ((((List.length p.2.2.1) : Nat) : Int)))) (chk (decide ((0 : Int) ≤ p.1)) (chk (decide (p.1 < ((((List.length p.2.2.1) : Nat) : Int)))) (chk (decide ((((List.length p.2.2.2) + (List.length ([(List.getD p.2.2.1 (Int.toNat p.1) ((0 : Int), ([] : List UInt8))).1]))) * (8 : Nat)) ≤ (140737488355328 : Nat))) (chk (decide (((List.length p.2.2.2) + (List.length ([(List.getD p.2.2.1 (Int.toNat p.1) ((0 : Int), ([] : List UInt8))).1]))) ≤ (9223372036854775807 : Nat))) (R3 ((IntKind.i64.wrap (p.1 + (1 : Int))), (p.2.1, (p.2.2.1, (p.2.2.2 ++ ([(List.getD p.2.2.1 (Int.toNat p.1) ((0 : Int), ([] : List UInt8))).1])))))))))) (some (p.2.2.2, ())))
def f74_l3 (k : Nat) : f74_t3 → Option f74_r := loopP (fun R3 p => f74_b3 k R3 p) k
def f74_m (k : Nat) (A3 : f74_t3 → Option f74_r) (x : f74_x) : Option f74_r :=
  (A3 ((0 : Int), (x.1.1, (x.1.2, ([] : List Int)))))
def f74 (k : Nat) (x : f74_x) : Option f74_r := f74_m k (f74_l3 k) x
def f74_lv : Nat → Lp := lps [(3, .keep [1, 3, 4] [])]
def f74_G : Env := findL []
theorem f74_e3 (k : Nat) (kn : St → Option f74_r) (p : f74_t3) : stepAt types f74_G f74_lv k Try.f74.ntmps (kns []) 3 (Try.f74.body.getD .skip) (topK types Try.f74 [(.sl (.int .i64))]) (f74_s3 p) kn =
    f74_b3 k (fun p => kn (f74_s3 p)) p := by kernel_rfl
theorem f74_q3 (k : Nat) (n : Nat) (p : f74_t3) : loopAt types f74_G f74_lv k Try.f74.ntmps (kns []) 3 (Try.f74.body.getD .skip) (topK types Try.f74 [(.sl (.int .i64))]) n (f74_s3 p) = loopP (fun R3 p => f74_b3 k R3 p) n p :=
  loopAt_eq (fun kn p => f74_e3 k kn p) n p
theorem f74_e (k : Nat) (x : f74_x) : fnK types f74_G f74_lv k Try.f74 [y34] [(.sl (.int .i64))] x =
    f74_m k (fun p => loopAt types f74_G f74_lv k Try.f74.ntmps (kns []) 3 (Try.f74.body.getD .skip) (topK types Try.f74 [(.sl (.int .i64))]) k (f74_s3 p)) x := by kernel_rfl
theorem f74_eq (k : Nat) (x : f74_x) : fnK types f74_G f74_lv k Try.f74 [y34] [(.sl (.int .i64))] x = f74 k x :=
  (f74_e k x).trans (congrFun (congrArg (f74_m k) (funext fun p => f74_q3 k k p)) x)
theorem f74_c : Contract Try.prog 74 ⟨[y34], [(.sl (.int .i64))], f74, .no⟩ :=
  fn_contract types_all env_nil mixes (by kernel_rfl) (by kernel_rfl) (by kernel_rfl) (by kernel_rfl) f74_eq

/-! groat/groatref07.Width -/
abbrev f147_r := Int × Unit
abbrev f147_x := Int × Unit
def f147_m (k : Nat) (x : f147_x) : Option f147_r :=
  (cond (x.1 == (2 : Int)) (some (x.1, ())) (cond (x.1 == (3 : Int)) (some (x.1, ())) (some ((0 : Int), ()))))
def f147 (k : Nat) (x : f147_x) : Option f147_r := f147_m k x
def f147_lv : Nat → Lp := lps []
def f147_G : Env := findL []
theorem f147_e (k : Nat) (x : f147_x) : fnK types f147_G f147_lv k Try.f147 [(.int .i64)] [(.int .i64)] x =
    f147_m k x := by kernel_rfl
theorem f147_eq (k : Nat) (x : f147_x) : fnK types f147_G f147_lv k Try.f147 [(.int .i64)] [(.int .i64)] x = f147 k x :=
  f147_e k x
theorem f147_c : Contract Try.prog 147 ⟨[(.int .i64)], [(.int .i64)], f147, .no⟩ :=
  fn_contract types_all env_nil mixes (by kernel_rfl) (by kernel_rfl) (by kernel_rfl) (by kernel_rfl) f147_eq

/-! groat/groatref07.Put -/
abbrev f118_r := List UInt8 × Int × Unit
abbrev f118_x := Int × Int × Int × Unit
def f118_m (k : Nat) (x : f118_x) : Option f118_r :=
  (cond (x.1 != (1 : Int)) (cond (x.1 != (2 : Int)) (some (([] : List UInt8), ((1 : Int), ()))) ((f147 k (x.2.1, ())).bind fun r1 => (cond (r1.1 == (0 : Int)) (some (([] : List UInt8), ((1 : Int), ()))) ((f101 k (x.2.2.1, (x.2.1, ()))).bind fun r2 => (cond (!r2.2.1) (some (([] : List UInt8), ((5 : Int), ()))) (cond (x.1 == (2 : Int)) ((f68 k (r2.1, ())).bind fun r3 => (some (r3.1, ((0 : Int), ())))) (some (r2.1, ((0 : Int), ()))))))))) ((f147 k (x.2.1, ())).bind fun r4 => (cond (r4.1 == (0 : Int)) (some (([] : List UInt8), ((1 : Int), ()))) ((f101 k (x.2.2.1, (x.2.1, ()))).bind fun r5 => (cond (!r5.2.1) (some (([] : List UInt8), ((5 : Int), ()))) (cond (x.1 == (2 : Int)) ((f68 k (r5.1, ())).bind fun r6 => (some (r6.1, ((0 : Int), ())))) (some (r5.1, ((0 : Int), ())))))))))
def f118 (k : Nat) (x : f118_x) : Option f118_r := f118_m k x
def f118_lv : Nat → Lp := lps []
def f118_G : Env := findL [(68, ⟨[.str], [.str, .bool], f68, .no⟩), (101, ⟨[(.int .i64), (.int .i64)], [.str, .bool], f101, .no⟩), (147, ⟨[(.int .i64)], [(.int .i64)], f147, .no⟩)]
theorem f118_e (k : Nat) (x : f118_x) : fnK types f118_G f118_lv k Try.f118 [(.int .i64), (.int .i64), (.int .i64)] [.str, (.int .i64)] x =
    f118_m k x := by kernel_rfl
theorem f118_eq (k : Nat) (x : f118_x) : fnK types f118_G f118_lv k Try.f118 [(.int .i64), (.int .i64), (.int .i64)] [.str, (.int .i64)] x = f118 k x :=
  f118_e k x
theorem f118_c : Contract Try.prog 118 ⟨[(.int .i64), (.int .i64), (.int .i64)], [.str, (.int .i64)], f118, .no⟩ :=
  fn_contract types_all (env_cons f68_c (env_cons f101_c (env_cons f147_c env_nil))) mixes (by kernel_rfl) (by kernel_rfl) (by kernel_rfl) (by kernel_rfl) f118_eq

/-! groat/groatref12.content -/
abbrev f119_r := List UInt8 × Unit
abbrev f119_x := Int × Int × List UInt8 × Unit
def f119_m (k : Nat) (x : f119_x) : Option f119_r :=
  (cond (x.1 == (2 : Int)) (cond (x.2.1 == (1 : Int)) ((f68 k (x.2.2.1, ())).bind fun r1 => (some (r1.1, ()))) (cond (x.1 == (1 : Int)) (cond (decide (x.2.1 ≥ (5 : Int))) ((f117 k (x.2.2.1, ())).bind fun r2 => (some (r2.1, ()))) (some (x.2.2.1, ()))) (some (x.2.2.1, ())))) (cond (x.1 == (1 : Int)) (cond (decide (x.2.1 ≥ (5 : Int))) ((f117 k (x.2.2.1, ())).bind fun r3 => (some (r3.1, ()))) (some (x.2.2.1, ()))) (some (x.2.2.1, ()))))
def f119 (k : Nat) (x : f119_x) : Option f119_r := f119_m k x
def f119_lv : Nat → Lp := lps []
def f119_G : Env := findL [(68, ⟨[.str], [.str, .bool], f68, .no⟩), (117, ⟨[.str], [.str], f117, .no⟩)]
theorem f119_e (k : Nat) (x : f119_x) : fnK types f119_G f119_lv k Try.f119 [(.int .i64), (.int .i64), .str] [.str] x =
    f119_m k x := by kernel_rfl
theorem f119_eq (k : Nat) (x : f119_x) : fnK types f119_G f119_lv k Try.f119 [(.int .i64), (.int .i64), .str] [.str] x = f119 k x :=
  f119_e k x
theorem f119_c : Contract Try.prog 119 ⟨[(.int .i64), (.int .i64), .str], [.str], f119, .no⟩ :=
  fn_contract types_all (env_cons f68_c (env_cons f117_c env_nil)) mixes (by kernel_rfl) (by kernel_rfl) (by kernel_rfl) (by kernel_rfl) f119_eq

/-! groat/groatref12.Put -/
abbrev f75_r := List UInt8 × Int × Unit
abbrev f75_x := Int × (Int × Int × Int × Int × Int) × List UInt8 × Unit
def f75_m (k : Nat) (x : f75_x) : Option f75_r :=
  (cond (x.1 != (1 : Int)) (cond (x.1 != (2 : Int)) (some (([] : List UInt8), ((1 : Int), ()))) ((f61 k (x.2.1, (x.2.2.1, ()))).bind fun r1 => (cond (r1.1 != (0 : Int)) (some (([] : List UInt8), (r1.1, ()))) (cond (x.2.1.2.2.1 != (1 : Int)) ((f118 k (x.1, (x.2.1.2.2.1, (((((List.length x.2.2.1) : Nat) : Int)), ())))).bind fun r2 => ((f119 k (x.1, (x.2.1.2.1, (x.2.2.1, ())))).bind fun r3 => (chk (decide (((List.length r2.1) + (List.length r3.1)) ≤ (9223372036854775807 : Nat))) (some ((r2.1 ++ r3.1), ((0 : Int), ())))))) ((f119 k (x.1, (x.2.1.2.1, (x.2.2.1, ())))).bind fun r4 => (chk (decide (((0 : Nat) + (List.length r4.1)) ≤ (9223372036854775807 : Nat))) (some ((([] : List UInt8) ++ r4.1), ((0 : Int), ()))))))))) ((f61 k (x.2.1, (x.2.2.1, ()))).bind fun r5 => (cond (r5.1 != (0 : Int)) (some (([] : List UInt8), (r5.1, ()))) (cond (x.2.1.2.2.1 != (1 : Int)) ((f118 k (x.1, (x.2.1.2.2.1, (((((List.length x.2.2.1) : Nat) : Int)), ())))).bind fun r6 => ((f119 k (x.1, (x.2.1.2.1, (x.2.2.1, ())))).bind fun r7 => (chk (decide (((List.length r6.1) + (List.length r7.1)) ≤ (9223372036854775807 : Nat))) (some ((r6.1 ++ r7.1), ((0 : Int), ())))))) ((f119 k (x.1, (x.2.1.2.1, (x.2.2.1, ())))).bind fun r8 => (chk (decide (((0 : Nat) + (List.length r8.1)) ≤ (9223372036854775807 : Nat))) (some ((([] : List UInt8) ++ r8.1), ((0 : Int), ())))))))))
def f75 (k : Nat) (x : f75_x) : Option f75_r := f75_m k x
def f75_lv : Nat → Lp := lps []
def f75_G : Env := findL [(61, ⟨[y66, .str], [(.int .i64)], f61, .no⟩), (118, ⟨[(.int .i64), (.int .i64), (.int .i64)], [.str, (.int .i64)], f118, .no⟩), (119, ⟨[(.int .i64), (.int .i64), .str], [.str], f119, .no⟩)]
theorem f75_e (k : Nat) (x : f75_x) : fnK types f75_G f75_lv k Try.f75 [(.int .i64), y66, .str] [.str, (.int .i64)] x =
    f75_m k x := by kernel_rfl
theorem f75_eq (k : Nat) (x : f75_x) : fnK types f75_G f75_lv k Try.f75 [(.int .i64), y66, .str] [.str, (.int .i64)] x = f75 k x :=
  f75_e k x
theorem f75_c : Contract Try.prog 75 ⟨[(.int .i64), y66, .str], [.str, (.int .i64)], f75, .no⟩ :=
  fn_contract types_all (env_cons f61_c (env_cons f118_c (env_cons f119_c env_nil))) mixes (by kernel_rfl) (by kernel_rfl) (by kernel_rfl) (by kernel_rfl) f75_eq

/-! groat/groatref17.Bytes -/
abbrev f37_r := List UInt8 × Unit
abbrev f37_x := (Int × Int × List (Int × Int × Int × Int × Int)) × (List UInt8 × List (Int × List UInt8)) × Unit
abbrev f37_t4 := List UInt8 × Int × Int × Int × List (Int × Int × Int × Int × Int) × List UInt8 × List (Int × List UInt8)
def f37_s4 (p : f37_t4) : St := [(4, .tv (.f (.c (.ptr 1128 0)))), (6, .tv (.f (.c (.ptr 1192 0)))), (14, .tv (.f (.c (.v .str p.1)))), (16, .tv (.f (.c (.v (.int .i64) p.2.1)))), (2257, .box [.v (.int .i64) p.2.2.1, .v (.int .i64) p.2.2.2.1, .v (.sl y66) p.2.2.2.2.1]), (2385, .box [.v .str p.2.2.2.2.2.1, .v (.sl (.pair (.int .i64) .str)) p.2.2.2.2.2.2])]
def f37_b4 (k : Nat) (R4 : f37_t4 → Option f37_r) (p : f37_t4) : Option f37_r :=
  (cond (decide (p.2.1 < ((((List.length p.2.2.2.2.2.2) : Nat) : Int)))) (chk (decide ((0 : Int) ≤ p.2.1)) (chk (decide (p.2.1 < ((((List.length p.2.2.2.2.2.2) : Nat) : Int)))) ((f60 k ((p.2.2.1, (p.2.2.2.1, p.2.2.2.2.1)), ((List.getD p.2.2.2.2.2.2 (Int.toNat p.2.1) ((0 : Int), ([] : List UInt8))).1, ()))).bind fun r4 => (chk (decide ((0 : Int) ≤ r4.1)) (chk (decide (r4.1 < ((((List.length p.2.2.2.2.1) : Nat) : Int)))) (chk (decide ((0 : Int) ≤ p.2.1)) (chk (decide (p.2.1 < ((((List.length p.2.2.2.2.2.2) : Nat) : Int)))) ((f75 k (p.2.2.1, ((List.getD p.2.2.2.2.1 (Int.toNat r4.1) ((0 : Int), ((0 : Int), ((0 : Int), ((0 : Int), (0 : Int)))))), ((List.getD p.2.2.2.2.2.2 (Int.toNat p.2.1) ((0 : Int), ([] : List UInt8))).2, ())))).bind fun r5 => (chk (decide (((List.length p.1) + (List.length r5.1)) ≤ (9223372036854775807 : Nat))) (R4 ((p.1 ++ r5.1), ((IntKind.i64.wrap (p.2.1 + (1 : Int))), p.2.2)))))))))))) (some (p.1, ())))
def f37_l4 (k : Nat) : f37_t4 → Option f37_r := loopP (fun R4 p => f37_b4 k R4 p) k
def f37_m (k : Nat) (A4 : f37_t4 → Option f37_r) (x : f37_x) : Option f37_r :=
  ((f74 k (x.2.1, ())).bind fun r1 => ((f73 k (x.1.1, (r1.1, ()))).bind fun r2 => ((f35 k (x.1.1, (x.2.1.1, ()))).bind fun r3 => (chk (decide (((List.length r3.1) + (List.length r2.1)) ≤ (9223372036854775807 : Nat))) (A4 ((r3.1 ++ r2.1), ((0 : Int), (x.1.1, (x.1.2.1, (x.1.2.2, x.2.1))))))))))
def f37 (k : Nat) (x : f37_x) : Option f37_r := f37_m k (f37_l4 k) x
def f37_lv : Nat → Lp := lps [(4, .keep [2, 3, 7, 8] [])]
def f37_G : Env := findL [(35, ⟨[(.int .i64), .str], [.str], f35, .no⟩), (60, ⟨[(.pair (.int .i64) (.pair (.int .i64) (.sl y66))), (.int .i64)], [(.int .i64)], f60, .no⟩), (73, ⟨[(.int .i64), (.sl (.int .i64))], [.str, .bool], f73, .no⟩), (74, ⟨[y34], [(.sl (.int .i64))], f74, .no⟩), (75, ⟨[(.int .i64), y66, .str], [.str, (.int .i64)], f75, .no⟩)]
theorem f37_e4 (k : Nat) (kn : St → Option f37_r) (p : f37_t4) : stepAt types f37_G f37_lv k Try.f37.ntmps (kns []) 4 (Try.f37.body.getD .skip) (topK types Try.f37 [.str]) (f37_s4 p) kn =
    f37_b4 k (fun p => kn (f37_s4 p)) p := by kernel_rfl
theorem f37_q4 (k : Nat) (n : Nat) (p : f37_t4) : loopAt types f37_G f37_lv k Try.f37.ntmps (kns []) 4 (Try.f37.body.getD .skip) (topK types Try.f37 [.str]) n (f37_s4 p) = loopP (fun R4 p => f37_b4 k R4 p) n p :=
  loopAt_eq (fun kn p => f37_e4 k kn p) n p
theorem f37_e (k : Nat) (x : f37_x) : fnK types f37_G f37_lv k Try.f37 [(.pair (.int .i64) (.pair (.int .i64) (.sl y66))), y34] [.str] x =
    f37_m k (fun p => loopAt types f37_G f37_lv k Try.f37.ntmps (kns []) 4 (Try.f37.body.getD .skip) (topK types Try.f37 [.str]) k (f37_s4 p)) x := by kernel_rfl
theorem f37_eq (k : Nat) (x : f37_x) : fnK types f37_G f37_lv k Try.f37 [(.pair (.int .i64) (.pair (.int .i64) (.sl y66))), y34] [.str] x = f37 k x :=
  (f37_e k x).trans (congrFun (congrArg (f37_m k) (funext fun p => f37_q4 k k p)) x)
theorem f37_c : Contract Try.prog 37 ⟨[(.pair (.int .i64) (.pair (.int .i64) (.sl y66))), y34], [.str], f37, .no⟩ :=
  fn_contract types_all (env_cons f35_c (env_cons f60_c (env_cons f73_c (env_cons f74_c (env_cons f75_c env_nil))))) mixes (by kernel_rfl) (by kernel_rfl) (by kernel_rfl) (by kernel_rfl) f37_eq

/-! groat/groatlaw17.WireEncodes -/
abbrev f7_r := Bool × Unit
abbrev f7_x := (Int × Int × List (Int × Int × Int × Int × Int)) × (List UInt8 × List (Int × List UInt8)) × Unit
def f7_m (k : Nat) (x : f7_x) : Option f7_r :=
  ((f32 k ()).bind fun r1 => (cond (!r1.1) ((f32 k ()).bind fun r2 => (some (r2.1, ()))) (cond (decide (((((List.length x.1.2.2) : Nat) : Int)) > (200 : Int))) ((f32 k ()).bind fun r3 => (some (r3.1, ()))) ((f19 k (x.2.1, ())).bind fun r4 => (cond r4.1 ((f32 k ()).bind fun r5 => (some (r5.1, ()))) ((f22 k (x.2.1, ())).bind fun r6 => ((f36 k (x.1, (r6.1, ()))).bind fun r7 => ((f29 k (x.1, (x.2.1, ()))).bind fun r8 => (cond (!((r7.2.1.1 == r8.1.1) && ((r7.2.1.2 == r8.1.2) && true))) (cond ((r7.2.1.1 == r8.1.1) && ((r7.2.1.2 == r8.1.2) && true)) (some ((r7.1 == ([] : List UInt8)), ())) (some (false, ()))) (cond (!((r8.1.1 == (0 : Int)) && ((r8.1.2 == (0 : Int)) && true))) (cond ((r7.2.1.1 == r8.1.1) && ((r7.2.1.2 == r8.1.2) && true)) (some ((r7.1 == ([] : List UInt8)), ())) (some (false, ()))) ((f37 k (x.1, (x.2.1, ()))).bind fun r9 => (some ((r7.1 == r9.1), ())))))))))))))
def f7 (k : Nat) (x : f7_x) : Option f7_r := f7_m k x
def f7_lv : Nat → Lp := lps []
def f7_G : Env := findL [(19, ⟨[y34], [.bool], f19, .no⟩), (22, ⟨[y34], [y34], f22, .no⟩), (29, ⟨[(.pair (.int .i64) (.pair (.int .i64) (.sl y66))), y34], [(.pair (.int .i64) (.int .i64))], f29, .no⟩), (32, ⟨[], [.bool], f32, .no⟩), (36, ⟨[(.pair (.int .i64) (.pair (.int .i64) (.sl y66))), y34], [.str, (.pair (.int .i64) (.int .i64))], f36, .no⟩), (37, ⟨[(.pair (.int .i64) (.pair (.int .i64) (.sl y66))), y34], [.str], f37, .no⟩)]
theorem f7_e (k : Nat) (x : f7_x) : fnK types f7_G f7_lv k Try.f7 [(.pair (.int .i64) (.pair (.int .i64) (.sl y66))), y34] [.bool] x =
    f7_m k x := by kernel_rfl
theorem f7_eq (k : Nat) (x : f7_x) : fnK types f7_G f7_lv k Try.f7 [(.pair (.int .i64) (.pair (.int .i64) (.sl y66))), y34] [.bool] x = f7 k x :=
  f7_e k x
theorem f7_c : Contract Try.prog 7 ⟨[(.pair (.int .i64) (.pair (.int .i64) (.sl y66))), y34], [.bool], f7, .no⟩ :=
  fn_contract types_all (env_cons f19_c (env_cons f22_c (env_cons f29_c (env_cons f32_c (env_cons f36_c (env_cons f37_c env_nil)))))) mixes (by kernel_rfl) (by kernel_rfl) (by kernel_rfl) (by kernel_rfl) f7_eq

/-! groat/groatlaw17.WireApart -/
abbrev f8_r := Bool × Unit
abbrev f8_x := (Int × Int × List (Int × Int × Int × Int × Int)) × (List UInt8 × List (Int × List UInt8)) × (List UInt8 × List (Int × List UInt8)) × Unit
def f8_m (k : Nat) (x : f8_x) : Option f8_r :=
  ((f32 k ()).bind fun r1 => (cond (!r1.1) ((f32 k ()).bind fun r2 => (some (r2.1, ()))) (cond (decide (((((List.length x.1.2.2) : Nat) : Int)) > (200 : Int))) ((f32 k ()).bind fun r3 => (some (r3.1, ()))) ((f19 k (x.2.1, ())).bind fun r4 => (cond r4.1 ((f32 k ()).bind fun r5 => (some (r5.1, ()))) ((f19 k (x.2.2.1, ())).bind fun r6 => (cond r6.1 ((f32 k ()).bind fun r7 => (some (r7.1, ()))) ((f36 k (x.1, (x.2.1, ()))).bind fun r8 => ((f36 k (x.1, (x.2.2.1, ()))).bind fun r9 => (cond (!((r8.2.1.1 == (0 : Int)) && ((r8.2.1.2 == (0 : Int)) && true))) (some (true, ())) (cond (!((r9.2.1.1 == (0 : Int)) && ((r9.2.1.2 == (0 : Int)) && true))) (some (true, ())) (chk (decide ((0 : Int) ≤ (if ((((List.length r9.1) : Nat) : Int)) < ((((List.length r8.1) : Nat) : Int)) then ((((List.length r9.1) : Nat) : Int)) else ((((List.length r8.1) : Nat) : Int))))) (chk (decide ((if ((((List.length r9.1) : Nat) : Int)) < ((((List.length r8.1) : Nat) : Int)) then ((((List.length r9.1) : Nat) : Int)) else ((((List.length r8.1) : Nat) : Int))) ≤ ((((List.length r8.1) : Nat) : Int)))) (chk (decide ((0 : Int) ≤ (if ((((List.length r9.1) : Nat) : Int)) < ((((List.length r8.1) : Nat) : Int)) then ((((List.length r9.1) : Nat) : Int)) else ((((List.length r8.1) : Nat) : Int))))) (chk (decide ((if ((((List.length r9.1) : Nat) : Int)) < ((((List.length r8.1) : Nat) : Int)) then ((((List.length r9.1) : Nat) : Int)) else ((((List.length r8.1) : Nat) : Int))) ≤ ((((List.length r9.1) : Nat) : Int)))) ((f24 k (x.2.1, (x.2.2.1, ()))).bind fun r10 => (some ((((List.drop (0 : Nat) (List.take (Int.toNat (if ((((List.length r9.1) : Nat) : Int)) < ((((List.length r8.1) : Nat) : Int)) then ((((List.length r9.1) : Nat) : Int)) else ((((List.length r8.1) : Nat) : Int)))) r8.1)) == (List.drop (0 : Nat) (List.take (Int.toNat (if ((((List.length r9.1) : Nat) : Int)) < ((((List.length r8.1) : Nat) : Int)) then ((((List.length r9.1) : Nat) : Int)) else ((((List.length r8.1) : Nat) : Int)))) r9.1))) == r10.1), ()))))))))))))))))))
def f8 (k : Nat) (x : f8_x) : Option f8_r := f8_m k x
def f8_lv : Nat → Lp := lps []
def f8_G : Env := findL [(19, ⟨[y34], [.bool], f19, .no⟩), (24, ⟨[y34, y34], [.bool], f24, .no⟩), (32, ⟨[], [.bool], f32, .no⟩), (36, ⟨[(.pair (.int .i64) (.pair (.int .i64) (.sl y66))), y34], [.str, (.pair (.int .i64) (.int .i64))], f36, .no⟩)]
theorem f8_e (k : Nat) (x : f8_x) : fnK types f8_G f8_lv k Try.f8 [(.pair (.int .i64) (.pair (.int .i64) (.sl y66))), y34, y34] [.bool] x =
    f8_m k x := by kernel_rfl
theorem f8_eq (k : Nat) (x : f8_x) : fnK types f8_G f8_lv k Try.f8 [(.pair (.int .i64) (.pair (.int .i64) (.sl y66))), y34, y34] [.bool] x = f8 k x :=
  f8_e k x
theorem f8_c : Contract Try.prog 8 ⟨[(.pair (.int .i64) (.pair (.int .i64) (.sl y66))), y34, y34], [.bool], f8, .no⟩ :=
  fn_contract types_all (env_cons f19_c (env_cons f24_c (env_cons f32_c (env_cons f36_c env_nil)))) mixes (by kernel_rfl) (by kernel_rfl) (by kernel_rfl) (by kernel_rfl) f8_eq

/-! math/bits.Len64 -/
abbrev f125_r := Int × Unit
abbrev f125_x := Int × Unit
def f125_m (k : Nat) (x : f125_x) : Option f125_r :=
  (cond (decide (x.1 ≥ (4294967296 : Int))) (cond (decide ((Int.fdiv x.1 (2 ^ (min (Int.toNat (32 : Int)) (IntKind.bits IntKind.u64)))) ≥ (65536 : Int))) (cond (decide ((Int.fdiv (Int.fdiv x.1 (2 ^ (min (Int.toNat (32 : Int)) (IntKind.bits IntKind.u64)))) (2 ^ (min (Int.toNat (16 : Int)) (IntKind.bits IntKind.u64)))) ≥ (256 : Int))) (chk (decide ((0 : Int) ≤ (IntKind.u8.wrap (Int.fdiv (Int.fdiv (Int.fdiv x.1 (2 ^ (min (Int.toNat (32 : Int)) (IntKind.bits IntKind.u64)))) (2 ^ (min (Int.toNat (16 : Int)) (IntKind.bits IntKind.u64)))) (2 ^ (min (Int.toNat (8 : Int)) (IntKind.bits IntKind.u64))))))) (chk (decide ((IntKind.u8.wrap (Int.fdiv (Int.fdiv (Int.fdiv x.1 (2 ^ (min (Int.toNat (32 : Int)) (IntKind.bits IntKind.u64)))) (2 ^ (min (Int.toNat (16 : Int)) (IntKind.bits IntKind.u64)))) (2 ^ (min (Int.toNat (8 : Int)) (IntKind.bits IntKind.u64))))) < (256 : Int))) (some ((IntKind.i64.wrap ((56 : Int) + (IntKind.i64.wrap (((UInt8.toNat (List.getD ([0, 1, 2, 2, 3, 3, 3, 3, 4, 4, 4, 4, 4, 4, 4, 4, 5, 5, 5, 5, 5, 5, 5, 5, 5, 5, 5, 5, 5, 5, 5, 5, 6, 6, 6, 6, 6, 6, 6, 6, 6, 6, 6, 6, 6, 6, 6, 6, 6, 6, 6, 6, 6, 6, 6, 6, 6, 6, 6, 6, 6, 6, 6, 6, 7, 7, 7, 7, 7, 7, 7, 7, 7, 7, 7, 7, 7, 7, 7, 7, 7, 7, 7, 7, 7, 7, 7, 7, 7, 7, 7, 7, 7, 7, 7, 7, 7, 7, 7, 7, 7, 7, 7, 7, 7, 7, 7, 7, 7, 7, 7, 7, 7, 7, 7, 7, 7, 7, 7, 7, 7, 7, 7, 7, 7, 7, 7, 7, 8, 8, 8, 8, 8, 8, 8, 8, 8, 8, 8, 8, 8, 8, 8, 8, 8, 8, 8, 8, 8, 8, 8, 8, 8, 8, 8, 8, 8, 8, 8, 8, 8, 8, 8, 8, 8, 8, 8, 8, 8, 8, 8, 8, 8, 8, 8, 8, 8, 8, 8, 8, 8, 8, 8, 8, 8, 8, 8, 8, 8, 8, 8, 8, 8, 8, 8, 8, 8, 8, 8, 8, 8, 8, 8, 8, 8, 8, 8, 8, 8, 8, 8, 8, 8, 8, 8, 8, 8, 8, 8, 8, 8, 8, 8, 8, 8, 8, 8, 8, 8, 8, 8, 8, 8, 8, 8, 8, 8, 8, 8, 8, 8, 8, 8, 8, 8, 8, 8, 8, 8, 8, 8, 8, 8, 8, 8, 8] : List UInt8) (Int.toNat (IntKind.u8.wrap (Int.fdiv (Int.fdiv (Int.fdiv x.1 (2 ^ (min (Int.toNat (32 : Int)) (IntKind.bits IntKind.u64)))) (2 ^ (min (Int.toNat (16 : Int)) (IntKind.bits IntKind.u64)))) (2 ^ (min (Int.toNat (8 : Int)) (IntKind.bits IntKind.u64)))))) 0) : Nat) : Int))))), ())))) (chk (decide ((0 : Int) ≤ (IntKind.u8.wrap (Int.fdiv (Int.fdiv x.1 (2 ^ (min (Int.toNat (32 : Int)) (IntKind.bits IntKind.u64)))) (2 ^ (min (Int.toNat (16 : Int)) (IntKind.bits IntKind.u64))))))) (chk (decide ((IntKind.u8.wrap (Int.fdiv (Int.fdiv x.1 (2 ^ (min (Int.toNat (32 : Int)) (IntKind.bits IntKind.u64)))) (2 ^ (min (Int.toNat (16 : Int)) (IntKind.bits IntKind.u64))))) < (256 : Int))) (some ((IntKind.i64.wrap ((48 : Int) + (IntKind.i64.wrap (((UInt8.toNat (List.getD ([0, 1, 2, 2, 3, 3, 3, 3, 4, 4, 4, 4, 4, 4, 4, 4, 5, 5, 5, 5, 5, 5, 5, 5, 5, 5, 5, 5, 5, 5, 5, 5, 6, 6, 6, 6, 6, 6, 6, 6, 6, 6, 6, 6, 6, 6, 6, 6, 6, 6, 6, 6, 6, 6, 6, 6, 6, 6, 6, 6, 6, 6, 6, 6, 7, 7, 7, 7, 7, 7, 7, 7, 7, 7, 7, 7, 7, 7, 7, 7, 7, 7, 7, 7, 7, 7, 7, 7, 7, 7, 7, 7, 7, 7, 7, 7, 7, 7, 7, 7, 7, 7, 7, 7, 7, 7, 7, 7, 7, 7, 7, 7, 7, 7, 7, 7, 7, 7, 7, 7, 7, 7, 7, 7, 7, 7, 7, 7, 8, 8, 8, 8, 8, 8, 8, 8, 8, 8, 8, 8, 8, 8, 8, 8, 8, 8, 8, 8, 8, 8, 8, 8, 8, 8, 8, 8, 8, 8, 8, 8, 8, 8, 8, 8, 8, 8, 8, 8, 8, 8, 8, 8, 8, 8, 8, 8, 8, 8, 8, 8, 8, 8, 8, 8, 8, 8, 8, 8, 8, 8, 8, 8, 8, 8, 8, 8, 8, 8, 8, 8, 8, 8, 8, 8, 8, 8, 8, 8, 8, 8, 8, 8, 8, 8, 8, 8, 8, 8, 8, 8, 8, 8, 8, 8, 8, 8, 8, 8, 8, 8, 8, 8, 8, 8, 8, 8, 8, 8, 8, 8, 8, 8, 8, 8, 8, 8, 8, 8, 8, 8, 8, 8, 8, 8, 8, 8] : List UInt8) (Int.toNat (IntKind.u8.wrap (Int.fdiv (Int.fdiv x.1 (2 ^ (min (Int.toNat (32 : Int)) (IntKind.bits IntKind.u64)))) (2 ^ (min (Int.toNat (16 : Int)) (IntKind.bits IntKind.u64)))))) 0) : Nat) : Int))))), ()))))) (cond (decide ((Int.fdiv x.1 (2 ^ (min (Int.toNat (32 : Int)) (IntKind.bits IntKind.u64)))) ≥ (256 : Int))) (chk (decide ((0 : Int) ≤ (IntKind.u8.wrap (Int.fdiv (Int.fdiv x.1 (2 ^ (min (Int.toNat (32 : Int)) (IntKind.bits IntKind.u64)))) (2 ^ (min (Int.toNat (8 : Int)) (IntKind.bits IntKind.u64))))))) (chk (decide ((IntKind.u8.wrap (Int.fdiv (Int.fdiv x.1 (2 ^ (min (Int.toNat (32 : Int)) (IntKind.bits IntKind.u64)))) (2 ^ (min (Int.toNat (8 : Int)) (IntKind.bits IntKind.u64))))) < (256 : Int))) (some ((IntKind.i64.wrap ((40 : Int) + (IntKind.i64.wrap (((UInt8.toNat (List.getD ([0, 1, 2, 2, 3, 3, 3, 3, 4, 4, 4, 4, 4, 4, 4, 4, 5, 5, 5, 5, 5, 5, 5, 5, 5, 5, 5, 5, 5, 5, 5, 5, 6, 6, 6, 6, 6, 6, 6, 6, 6, 6, 6, 6, 6, 6, 6, 6, 6, 6, 6, 6, 6, 6, 6, 6, 6, 6, 6, 6, 6, 6, 6, 6, 7, 7, 7, 7, 7, 7, 7, 7, 7, 7, 7, 7, 7, 7, 7, 7, 7, 7, 7, 7, 7, 7, 7, 7, 7, 7, 7, 7, 7, 7, 7, 7, 7, 7, 7, 7, 7, 7, 7, 7, 7, 7, 7, 7, 7, 7, 7, 7, 7, 7, 7, 7, 7, 7, 7, 7, 7, 7, 7, 7, 7, 7, 7, 7, 8, 8, 8, 8, 8, 8, 8, 8, 8, 8, 8, 8, 8, 8, 8, 8, 8, 8, 8, 8, 8, 8, 8, 8, 8, 8, 8, 8, 8, 8, 8, 8, 8, 8, 8, 8, 8, 8, 8, 8, 8, 8, 8, 8, 8, 8, 8, 8, 8, 8, 8, 8, 8, 8, 8, 8, 8, 8, 8, 8, 8, 8, 8, 8, 8, 8, 8, 8, 8, 8, 8, 8, 8, 8, 8, 8, 8, 8, 8, 8, 8, 8, 8, 8, 8, 8, 8, 8, 8, 8, 8, 8, 8, 8, 8, 8, 8, 8, 8, 8, 8, 8, 8, 8, 8, 8, 8, 8, 8, 8, 8, 8, 8, 8, 8, 8, 8, 8, 8, 8, 8, 8, 8, 8, 8, 8, 8, 8] : List UInt8) (Int.toNat (IntKind.u8.wrap (Int.fdiv (Int.fdiv x.1 (2 ^ (min (Int.toNat (32 : Int)) (IntKind.bits IntKind.u64)))) (2 ^ (min (Int.toNat (8 : Int)) (IntKind.bits IntKind.u64)))))) 0) : Nat) : Int))))), ())))) (chk (decide ((0 : Int) ≤ (IntKind.u8.wrap (Int.fdiv x.1 (2 ^ (min (Int.toNat (32 : Int)) (IntKind.bits IntKind.u64))))))) (chk (decide ((IntKind.u8.wrap (Int.fdiv x.1 (2 ^ (min (Int.toNat (32 : Int)) (IntKind.bits IntKind.u64))))) < (256 : Int))) (some ((IntKind.i64.wrap ((32 : Int) + (IntKind.i64.wrap (((UInt8.toNat (List.getD ([0, 1, 2, 2, 3, 3, 3, 3, 4, 4, 4, 4, 4, 4, 4, 4, 5, 5, 5, 5, 5, 5, 5, 5, 5, 5, 5, 5, 5, 5, 5, 5, 6, 6, 6, 6, 6, 6, 6, 6, 6, 6, 6, 6, 6, 6, 6, 6, 6, 6, 6, 6, 6, 6, 6, 6, 6, 6, 6, 6, 6, 6, 6, 6, 7, 7, 7, 7, 7, 7, 7, 7, 7, 7, 7, 7, 7, 7, 7, 7, 7, 7, 7, 7, 7, 7, 7, 7, 7, 7, 7, 7, 7, 7, 7, 7, 7, 7, 7, 7, 7, 7, 7, 7, 7, 7, 7, 7, 7, 7, 7, 7, 7, 7, 7, 7, 7, 7, 7, 7, 7, 7, 7, 7, 7, 7, 7, 7, 8, 8, 8, 8, 8, 8, 8, 8, 8, 8, 8, 8, 8, 8, 8, 8, 8, 8, 8, 8, 8, 8, 8, 8, 8, 8, 8, 8, 8, 8, 8, 8, 8, 8, 8, 8, 8, 8, 8, 8, 8, 8, 8, 8, 8, 8, 8, 8, 8, 8, 8, 8, 8, 8, 8, 8, 8, 8, 8, 8, 8, 8, 8, 8, 8, 8, 8, 8, 8, 8, 8, 8, 8, 8, 8, 8, 8, 8, 8, 8, 8, 8, 8, 8, 8, 8, 8, 8, 8, 8, 8, 8, 8, 8, 8, 8, 8, 8, 8, 8, 8, 8, 8, 8, 8, 8, 8, 8, 8, 8, 8, 8, 8, 8, 8, 8, 8, 8, 8, 8, 8, 8, 8, 8, 8, 8, 8, 8] : List UInt8) (Int.toNat (IntKind.u8.wrap (Int.fdiv x.1 (2 ^ (min (Int.toNat (32 : Int)) (IntKind.bits IntKind.u64)))))) 0) : Nat) : Int))))), ())))))) (cond (decide (x.1 ≥ (65536 : Int))) (cond (decide ((Int.fdiv x.1 (2 ^ (min (Int.toNat (16 : Int)) (IntKind.bits IntKind.u64)))) ≥ (256 : Int))) (chk (decide ((0 : Int) ≤ (IntKind.u8.wrap (Int.fdiv (Int.fdiv x.1 (2 ^ (min (Int.toNat (16 : Int)) (IntKind.bits IntKind.u64)))) (2 ^ (min (Int.toNat (8 : Int)) (IntKind.bits IntKind.u64))))))) (chk (decide ((IntKind.u8.wrap (Int.fdiv (Int.fdiv x.1 (2 ^ (min (Int.toNat (16 : Int)) (IntKind.bits IntKind.u64)))) (2 ^ (min (Int.toNat (8 : Int)) (IntKind.bits IntKind.u64))))) < (256 : Int))) (some ((IntKind.i64.wrap ((24 : Int) + (IntKind.i64.wrap (((UInt8.toNat (List.getD ([0, 1, 2, 2, 3, 3, 3, 3, 4, 4, 4, 4, 4, 4, 4, 4, 5, 5, 5, 5, 5, 5, 5, 5, 5, 5, 5, 5, 5, 5, 5, 5, 6, 6, 6, 6, 6, 6, 6, 6, 6, 6, 6, 6, 6, 6, 6, 6, 6, 6, 6, 6, 6, 6, 6, 6, 6, 6, 6, 6, 6, 6, 6, 6, 7, 7, 7, 7, 7, 7, 7, 7, 7, 7, 7, 7, 7, 7, 7, 7, 7, 7, 7, 7, 7, 7, 7, 7, 7, 7, 7, 7, 7, 7, 7, 7, 7, 7, 7, 7, 7, 7, 7, 7, 7, 7, 7, 7, 7, 7, 7, 7, 7, 7, 7, 7, 7, 7, 7, 7, 7, 7, 7, 7, 7, 7, 7, 7, 8, 8, 8, 8, 8, 8, 8, 8, 8, 8, 8, 8, 8, 8, 8, 8, 8, 8, 8, 8, 8, 8, 8, 8, 8, 8, 8, 8, 8, 8, 8, 8, 8, 8, 8, 8, 8, 8, 8, 8, 8, 8, 8, 8, 8, 8, 8, 8, 8, 8, 8, 8, 8, 8, 8, 8, 8, 8, 8, 8, 8, 8, 8, 8, 8, 8, 8, 8, 8, 8, 8, 8, 8, 8, 8, 8, 8, 8, 8, 8, 8, 8, 8, 8, 8, 8, 8, 8, 8, 8, 8, 8, 8, 8, 8, 8, 8, 8, 8, 8, 8, 8, 8, 8, 8, 8, 8, 8, 8, 8, 8, 8, 8, 8, 8, 8, 8, 8, 8, 8, 8, 8, 8, 8, 8, 8, 8, 8] : List UInt8) (Int.toNat (IntKind.u8.wrap (Int.fdiv (Int.fdiv x.1 (2 ^ (min (Int.toNat (16 : Int)) (IntKind.bits IntKind.u64)))) (2 ^ (min (Int.toNat (8 : Int)) (IntKind.bits IntKind.u64)))))) 0) : Nat) : Int))))), ())))) (chk (decide ((0 : Int) ≤ (IntKind.u8.wrap (Int.fdiv x.1 (2 ^ (min (Int.toNat (16 : Int)) (IntKind.bits IntKind.u64))))))) (chk (decide ((IntKind.u8.wrap (Int.fdiv x.1 (2 ^ (min (Int.toNat (16 : Int)) (IntKind.bits IntKind.u64))))) < (256 : Int))) (some ((IntKind.i64.wrap ((16 : Int) + (IntKind.i64.wrap (((UInt8.toNat (List.getD ([0, 1, 2, 2, 3, 3, 3, 3, 4, 4, 4, 4, 4, 4, 4, 4, 5, 5, 5, 5, 5, 5, 5, 5, 5, 5, 5, 5, 5, 5, 5, 5, 6, 6, 6, 6, 6, 6, 6, 6, 6, 6, 6, 6, 6, 6, 6, 6, 6, 6, 6, 6, 6, 6, 6, 6, 6, 6, 6, 6, 6, 6, 6, 6, 7, 7, 7, 7, 7, 7, 7, 7, 7, 7, 7, 7, 7, 7, 7, 7, 7, 7, 7, 7, 7, 7, 7, 7, 7, 7, 7, 7, 7, 7, 7, 7, 7, 7, 7, 7, 7, 7, 7, 7, 7, 7, 7, 7, 7, 7, 7, 7, 7, 7, 7, 7, 7, 7, 7, 7, 7, 7, 7, 7, 7, 7, 7, 7, 8, 8, 8, 8, 8, 8, 8, 8, 8, 8, 8, 8, 8, 8, 8, 8, 8, 8, 8, 8, 8, 8, 8, 8, 8, 8, 8, 8, 8, 8, 8, 8, 8, 8, 8, 8, 8, 8, 8, 8, 8, 8, 8, 8, 8, 8, 8, 8, 8, 8, 8, 8, 8, 8, 8, 8, 8, 8, 8, 8, 8, 8, 8, 8, 8, 8, 8, 8, 8, 8, 8, 8, 8, 8, 8, 8, 8, 8, 8, 8, 8, 8, 8, 8, 8, 8, 8, 8, 8, 8, 8, 8, 8, 8, 8, 8, 8, 8, 8, 8, 8, 8, 8, 8, 8, 8, 8, 8, 8, 8, 8, 8, 8, 8, 8, 8, 8, 8, 8, 8, 8, 8, 8, 8, 8, 8, 8, 8] : List UInt8) (Int.toNat (IntKind.u8.wrap (Int.fdiv x.1 (2 ^ (min (Int.toNat (16 : Int)) (IntKind.bits IntKind.u64)))))) 0) : Nat) : Int))))), ()))))) (cond (decide (x.1 ≥ (256 : Int))) (chk (decide ((0 : Int) ≤ (IntKind.u8.wrap (Int.fdiv x.1 (2 ^ (min (Int.toNat (8 : Int)) (IntKind.bits IntKind.u64))))))) (chk (decide ((IntKind.u8.wrap (Int.fdiv x.1 (2 ^ (min (Int.toNat (8 : Int)) (IntKind.bits IntKind.u64))))) < (256 : Int))) (some ((IntKind.i64.wrap ((8 : Int) + (IntKind.i64.wrap (((UInt8.toNat (List.getD ([0, 1, 2, 2, 3, 3, 3, 3, 4, 4, 4, 4, 4, 4, 4, 4, 5, 5, 5, 5, 5, 5, 5, 5, 5, 5, 5, 5, 5, 5, 5, 5, 6, 6, 6, 6, 6, 6, 6, 6, 6, 6, 6, 6, 6, 6, 6, 6, 6, 6, 6, 6, 6, 6, 6, 6, 6, 6, 6, 6, 6, 6, 6, 6, 7, 7, 7, 7, 7, 7, 7, 7, 7, 7, 7, 7, 7, 7, 7, 7, 7, 7, 7, 7, 7, 7, 7, 7, 7, 7, 7, 7, 7, 7, 7, 7, 7, 7, 7, 7, 7, 7, 7, 7, 7, 7, 7, 7, 7, 7, 7, 7, 7, 7, 7, 7, 7, 7, 7, 7, 7, 7, 7, 7, 7, 7, 7, 7, 8, 8, 8, 8, 8, 8, 8, 8, 8, 8, 8, 8, 8, 8, 8, 8, 8, 8, 8, 8, 8, 8, 8, 8, 8, 8, 8, 8, 8, 8, 8, 8, 8, 8, 8, 8, 8, 8, 8, 8, 8, 8, 8, 8, 8, 8, 8, 8, 8, 8, 8, 8, 8, 8, 8, 8, 8, 8, 8, 8, 8, 8, 8, 8, 8, 8, 8, 8, 8, 8, 8, 8, 8, 8, 8, 8, 8, 8, 8, 8, 8, 8, 8, 8, 8, 8, 8, 8, 8, 8, 8, 8, 8, 8, 8, 8, 8, 8, 8, 8, 8, 8, 8, 8, 8, 8, 8, 8, 8, 8, 8, 8, 8, 8, 8, 8, 8, 8, 8, 8, 8, 8, 8, 8, 8, 8, 8, 8] : List UInt8) (Int.toNat (IntKind.u8.wrap (Int.fdiv x.1 (2 ^ (min (Int.toNat (8 : Int)) (IntKind.bits IntKind.u64)))))) 0) : Nat) : Int))))), ())))) (chk (decide ((0 : Int) ≤ (IntKind.u8.wrap x.1))) (chk (decide ((IntKind.u8.wrap x.1) < (256 : Int))) (some ((IntKind.i64.wrap ((0 : Int) + (IntKind.i64.wrap (((UInt8.toNat (List.getD ([0, 1, 2, 2, 3, 3, 3, 3, 4, 4, 4, 4, 4, 4, 4, 4, 5, 5, 5, 5, 5, 5, 5, 5, 5, 5, 5, 5, 5, 5, 5, 5, 6, 6, 6, 6, 6, 6, 6, 6, 6, 6, 6, 6, 6, 6, 6, 6, 6, 6, 6, 6, 6, 6, 6, 6, 6, 6, 6, 6, 6, 6, 6, 6, 7, 7, 7, 7, 7, 7, 7, 7, 7, 7, 7, 7, 7, 7, 7, 7, 7, 7, 7, 7, 7, 7, 7, 7, 7, 7, 7, 7, 7, 7, 7, 7, 7, 7, 7, 7, 7, 7, 7, 7, 7, 7, 7, 7, 7, 7, 7, 7, 7, 7, 7, 7, 7, 7, 7, 7, 7, 7, 7, 7, 7, 7, 7, 7, 8, 8, 8, 8, 8, 8, 8, 8, 8, 8, 8, 8, 8, 8, 8, 8, 8, 8, 8, 8, 8, 8, 8, 8, 8, 8, 8, 8, 8, 8, 8, 8, 8, 8, 8, 8, 8, 8, 8, 8, 8, 8, 8, 8, 8, 8, 8, 8, 8, 8, 8, 8, 8, 8, 8, 8, 8, 8, 8, 8, 8, 8, 8, 8, 8, 8, 8, 8, 8, 8, 8, 8, 8, 8, 8, 8, 8, 8, 8, 8, 8, 8, 8, 8, 8, 8, 8, 8, 8, 8, 8, 8, 8, 8, 8, 8, 8, 8, 8, 8, 8, 8, 8, 8, 8, 8, 8, 8, 8, 8, 8, 8, 8, 8, 8, 8, 8, 8, 8, 8, 8, 8, 8, 8, 8, 8, 8, 8] : List UInt8) (Int.toNat (IntKind.u8.wrap x.1)) 0) : Nat) : Int))))), ())))))))
def f125 (k : Nat) (x : f125_x) : Option f125_r := f125_m k x
def f125_lv : Nat → Lp := lps []
def f125_G : Env := findL []
theorem f125_e (k : Nat) (x : f125_x) : fnK types f125_G f125_lv k Try.f125 [(.int .u64)] [(.int .i64)] x =
    f125_m k x := by kernel_rfl
theorem f125_eq (k : Nat) (x : f125_x) : fnK types f125_G f125_lv k Try.f125 [(.int .u64)] [(.int .i64)] x = f125 k x :=
  f125_e k x
theorem f125_c : Contract Try.prog 125 ⟨[(.int .u64)], [(.int .i64)], f125, .no⟩ :=
  fn_contract types_all env_nil mixes (by kernel_rfl) (by kernel_rfl) (by kernel_rfl) (by kernel_rfl) f125_eq

/-! math/bits.LeadingZeros64 -/
abbrev f83_r := Int × Unit
abbrev f83_x := Int × Unit
def f83_m (k : Nat) (x : f83_x) : Option f83_r :=
  ((f125 k (x.1, ())).bind fun r1 => (some ((IntKind.i64.wrap ((64 : Int) - r1.1)), ())))
def f83 (k : Nat) (x : f83_x) : Option f83_r := f83_m k x
def f83_lv : Nat → Lp := lps []
def f83_G : Env := findL [(125, ⟨[(.int .u64)], [(.int .i64)], f125, .no⟩)]
theorem f83_e (k : Nat) (x : f83_x) : fnK types f83_G f83_lv k Try.f83 [(.int .u64)] [(.int .i64)] x =
    f83_m k x := by kernel_rfl
theorem f83_eq (k : Nat) (x : f83_x) : fnK types f83_G f83_lv k Try.f83 [(.int .u64)] [(.int .i64)] x = f83 k x :=
  f83_e k x
theorem f83_c : Contract Try.prog 83 ⟨[(.int .u64)], [(.int .i64)], f83, .no⟩ :=
  fn_contract types_all (env_cons f125_c env_nil) mixes (by kernel_rfl) (by kernel_rfl) (by kernel_rfl) (by kernel_rfl) f83_eq

/-! (groat/fields.Set).Next -/
abbrev f43_r := Int × Unit
abbrev f43_x := (Int × Int) × Int × Unit
def f43_m (k : Nat) (x : f43_x) : Option f43_r :=
  (cond (decide ((if x.2.1 < (0 : Int) then (0 : Int) else x.2.1) < (64 : Int))) (chk (decide ((0 : Int) ≤ (if x.2.1 < (0 : Int) then (0 : Int) else x.2.1))) (cond ((IntKind.u64.wrap (x.1.1 * 2 ^ (min (Int.toNat (if x.2.1 < (0 : Int) then (0 : Int) else x.2.1)) (IntKind.bits IntKind.u64)))) != (0 : Int)) ((f83 k ((IntKind.u64.wrap (x.1.1 * 2 ^ (min (Int.toNat (if x.2.1 < (0 : Int) then (0 : Int) else x.2.1)) (IntKind.bits IntKind.u64)))), ())).bind fun r1 => (some ((IntKind.i64.wrap ((IntKind.i64.wrap ((if x.2.1 < (0 : Int) then (0 : Int) else x.2.1) + r1.1)) + (1 : Int))), ()))) (cond ((IntKind.u64.wrap (x.1.2 * 2 ^ (min (Int.toNat (0 : Int)) (IntKind.bits IntKind.u64)))) != (0 : Int)) ((f83 k ((IntKind.u64.wrap (x.1.2 * 2 ^ (min (Int.toNat (0 : Int)) (IntKind.bits IntKind.u64)))), ())).bind fun r2 => (some ((IntKind.i64.wrap ((IntKind.i64.wrap ((64 : Int) + r2.1)) + (1 : Int))), ()))) (some ((0 : Int), ()))))) (chk (decide ((0 : Int) ≤ (if (64 : Int) < (IntKind.i64.wrap ((if x.2.1 < (0 : Int) then (0 : Int) else x.2.1) - (64 : Int))) then (64 : Int) else (IntKind.i64.wrap ((if x.2.1 < (0 : Int) then (0 : Int) else x.2.1) - (64 : Int)))))) (cond ((IntKind.u64.wrap (x.1.2 * 2 ^ (min (Int.toNat (if (64 : Int) < (IntKind.i64.wrap ((if x.2.1 < (0 : Int) then (0 : Int) else x.2.1) - (64 : Int))) then (64 : Int) else (IntKind.i64.wrap ((if x.2.1 < (0 : Int) then (0 : Int) else x.2.1) - (64 : Int))))) (IntKind.bits IntKind.u64)))) != (0 : Int)) ((f83 k ((IntKind.u64.wrap (x.1.2 * 2 ^ (min (Int.toNat (if (64 : Int) < (IntKind.i64.wrap ((if x.2.1 < (0 : Int) then (0 : Int) else x.2.1) - (64 : Int))) then (64 : Int) else (IntKind.i64.wrap ((if x.2.1 < (0 : Int) then (0 : Int) else x.2.1) - (64 : Int))))) (IntKind.bits IntKind.u64)))), ())).bind fun r3 => (some ((IntKind.i64.wrap ((IntKind.i64.wrap ((if x.2.1 < (0 : Int) then (0 : Int) else x.2.1) + r3.1)) + (1 : Int))), ()))) (some ((0 : Int), ())))))
def f43 (k : Nat) (x : f43_x) : Option f43_r := f43_m k x
def f43_lv : Nat → Lp := lps []
def f43_G : Env := findL [(83, ⟨[(.int .u64)], [(.int .i64)], f83, .no⟩)]
theorem f43_e (k : Nat) (x : f43_x) : fnK types f43_G f43_lv k Try.f43 [(.pair (.int .u64) (.int .u64)), (.int .i64)] [(.int .i64)] x =
    f43_m k x := by kernel_rfl
theorem f43_eq (k : Nat) (x : f43_x) : fnK types f43_G f43_lv k Try.f43 [(.pair (.int .u64) (.int .u64)), (.int .i64)] [(.int .i64)] x = f43 k x :=
  f43_e k x
theorem f43_c : Contract Try.prog 43 ⟨[(.pair (.int .u64) (.int .u64)), (.int .i64)], [(.int .i64)], f43, .no⟩ :=
  fn_contract types_all (env_cons f83_c env_nil) mixes (by kernel_rfl) (by kernel_rfl) (by kernel_rfl) (by kernel_rfl) f43_eq

/-! groat/groatlaw17.WireAdds -/
abbrev f9_r := Bool × Unit
abbrev f9_x := (Int × Int × List (Int × Int × Int × Int × Int)) × (List UInt8 × List (Int × List UInt8)) × (Int × List UInt8) × Unit
def f9_m (k : Nat) (x : f9_x) : Option f9_r :=
  ((f32 k ()).bind fun r1 => (cond (!r1.1) ((f32 k ()).bind fun r2 => (some (r2.1, ()))) (cond (decide (((((List.length x.1.2.2) : Nat) : Int)) > (200 : Int))) ((f32 k ()).bind fun r3 => (some (r3.1, ()))) ((f19 k (x.2.1, ())).bind fun r4 => (cond r4.1 ((f32 k ()).bind fun r5 => (some (r5.1, ()))) (cond (decide (((((List.length x.2.2.1.2) : Nat) : Int)) > (1000 : Int))) ((f32 k ()).bind fun r6 => (some (r6.1, ()))) ((f38 k (x.2.1, (x.2.2.1.1, ()))).bind fun r7 => ((f36 k (x.1, (r7.1, ()))).bind fun r8 => ((f39 k (x.2.1, (x.2.2.1.1, (x.2.2.1.2, ())))).bind fun r9 => ((f36 k (x.1, (r9.1, ()))).bind fun r10 => (cond (!((r8.2.1.1 == (0 : Int)) && ((r8.2.1.2 == (0 : Int)) && true))) (some (true, ())) (cond (!((r10.2.1.1 == (0 : Int)) && ((r10.2.1.2 == (0 : Int)) && true))) (some (true, ())) ((f40 k (x.1, (x.2.2.1.1, ()))).bind fun r11 => ((f41 k (x.1.1, (r11.1, (x.2.2.1.2, ())))).bind fun r12 => (cond (decide (x.2.2.1.1 > (64 : Int))) ((f38 k (x.2.1, (x.2.2.1.1, ()))).bind fun r13 => ((f42 k (r13.1, ())).bind fun r14 => ((f43 k (r14.1, ((64 : Int), ()))).bind fun r15 => (cond (r15.1 == (0 : Int)) (cond (x.1.1 == (1 : Int)) (cond (r12.2.1 == (0 : Int)) (some ((((((List.length r10.1) : Nat) : Int)) == (IntKind.i64.wrap ((IntKind.i64.wrap (((((List.length r8.1) : Nat) : Int)) + ((((List.length r12.1) : Nat) : Int)))) + (16 : Int)))), ())) (some (false, ()))) (cond (r12.2.1 == (0 : Int)) (some ((((((List.length r10.1) : Nat) : Int)) == (IntKind.i64.wrap ((IntKind.i64.wrap (((((List.length r8.1) : Nat) : Int)) + ((((List.length r12.1) : Nat) : Int)))) + (8 : Int)))), ())) (some (false, ())))) (cond (r12.2.1 == (0 : Int)) (some ((((((List.length r10.1) : Nat) : Int)) == (IntKind.i64.wrap ((IntKind.i64.wrap (((((List.length r8.1) : Nat) : Int)) + ((((List.length r12.1) : Nat) : Int)))) + (0 : Int)))), ())) (some (false, ()))))))) (cond (r12.2.1 == (0 : Int)) (some ((((((List.length r10.1) : Nat) : Int)) == (IntKind.i64.wrap ((IntKind.i64.wrap (((((List.length r8.1) : Nat) : Int)) + ((((List.length r12.1) : Nat) : Int)))) + (0 : Int)))), ())) (some (false, ()))))))))))))))))))
def f9 (k : Nat) (x : f9_x) : Option f9_r := f9_m k x
def f9_lv : Nat → Lp := lps []
def f9_G : Env := findL [(19, ⟨[y34], [.bool], f19, .no⟩), (32, ⟨[], [.bool], f32, .no⟩), (36, ⟨[(.pair (.int .i64) (.pair (.int .i64) (.sl y66))), y34], [.str, (.pair (.int .i64) (.int .i64))], f36, .no⟩), (38, ⟨[y34, (.int .i64)], [y34], f38, .no⟩), (39, ⟨[y34, (.int .i64), .str], [y34], f39, .no⟩), (40, ⟨[(.pair (.int .i64) (.pair (.int .i64) (.sl y66))), (.int .i64)], [y66, .bool], f40, .no⟩), (41, ⟨[(.int .i64), y66, .str], [.str, (.int .i64)], f41, .no⟩), (42, ⟨[y34], [(.pair (.int .u64) (.int .u64))], f42, .no⟩), (43, ⟨[(.pair (.int .u64) (.int .u64)), (.int .i64)], [(.int .i64)], f43, .no⟩)]
theorem f9_e (k : Nat) (x : f9_x) : fnK types f9_G f9_lv k Try.f9 [(.pair (.int .i64) (.pair (.int .i64) (.sl y66))), y34, (.pair (.int .i64) .str)] [.bool] x =
    f9_m k x := by kernel_rfl
theorem f9_eq (k : Nat) (x : f9_x) : fnK types f9_G f9_lv k Try.f9 [(.pair (.int .i64) (.pair (.int .i64) (.sl y66))), y34, (.pair (.int .i64) .str)] [.bool] x = f9 k x :=
  f9_e k x
theorem f9_c : Contract Try.prog 9 ⟨[(.pair (.int .i64) (.pair (.int .i64) (.sl y66))), y34, (.pair (.int .i64) .str)], [.bool], f9, .no⟩ :=
  fn_contract types_all (env_cons f19_c (env_cons f32_c (env_cons f36_c (env_cons f38_c (env_cons f39_c (env_cons f40_c (env_cons f41_c (env_cons f42_c (env_cons f43_c env_nil))))))))) mixes (by kernel_rfl) (by kernel_rfl) (by kernel_rfl) (by kernel_rfl) f9_eq

/-! groat/hexa.Digit -/
abbrev f132_r := Int × Bool × Unit
abbrev f132_x := Int × Unit
def f132_m (k : Nat) (x : f132_x) : Option f132_r :=
  (cond (decide (x.1 ≥ (48 : Int))) (cond (decide (x.1 ≤ (57 : Int))) (some ((IntKind.i64.wrap (IntKind.u8.wrap (x.1 - (48 : Int)))), (true, ()))) (cond (decide (x.1 ≥ (65 : Int))) (cond (decide (x.1 ≤ (70 : Int))) (some ((IntKind.i64.wrap ((IntKind.i64.wrap (IntKind.u8.wrap (x.1 - (65 : Int)))) + (10 : Int))), (true, ()))) (some ((0 : Int), (false, ())))) (some ((0 : Int), (false, ()))))) (cond (decide (x.1 ≥ (65 : Int))) (cond (decide (x.1 ≤ (70 : Int))) (some ((IntKind.i64.wrap ((IntKind.i64.wrap (IntKind.u8.wrap (x.1 - (65 : Int)))) + (10 : Int))), (true, ()))) (some ((0 : Int), (false, ())))) (some ((0 : Int), (false, ())))))
def f132 (k : Nat) (x : f132_x) : Option f132_r := f132_m k x
def f132_lv : Nat → Lp := lps []
def f132_G : Env := findL []
theorem f132_e (k : Nat) (x : f132_x) : fnK types f132_G f132_lv k Try.f132 [(.int .u8)] [(.int .i64), .bool] x =
    f132_m k x := by kernel_rfl
theorem f132_eq (k : Nat) (x : f132_x) : fnK types f132_G f132_lv k Try.f132 [(.int .u8)] [(.int .i64), .bool] x = f132 k x :=
  f132_e k x
theorem f132_c : Contract Try.prog 132 ⟨[(.int .u8)], [(.int .i64), .bool], f132, .no⟩ :=
  fn_contract types_all env_nil mixes (by kernel_rfl) (by kernel_rfl) (by kernel_rfl) (by kernel_rfl) f132_eq

/-! groat/hexa.Get -/
abbrev f96_r := List UInt8 × Int × Bool × Unit
abbrev f96_x := List UInt8 × Unit
abbrev f96_t4 := List UInt8 × Int × Int × List Int
def f96_s4 (p : f96_t4) : St := [(0, .tv (.f (.c (.v .str p.1)))), (10, .tv (.f (.c (.own 1320)))), (12, .tv (.f (.c (.v (.int .i64) p.2.1)))), (14, .tv (.f (.c (.v (.int .i64) p.2.2.1)))), (2641, .row 5 (.int .u8) p.2.2.2)]
def f96_b4 (k : Nat) (R4 : f96_t4 → Option f96_r) (p : f96_t4) : Option f96_r :=
  (cond (decide (p.2.2.1 < ((((List.length p.1) : Nat) : Int)))) (chk (decide ((0 : Int) ≤ p.2.2.1)) (chk (decide (p.2.2.1 < ((((List.length p.1) : Nat) : Int)))) ((f132 k ((((UInt8.toNat (List.getD p.1 (Int.toNat p.2.2.1) 0) : Nat) : Int)), ())).bind fun r1 => (cond (!r1.2.1) (some (([] : List UInt8), (p.2.2.1, (false, ())))) (cond ((Int.tmod p.2.2.1 (2 : Int)) == (0 : Int)) (R4 (p.1, (r1.1, ((IntKind.i64.wrap (p.2.2.1 + (1 : Int))), p.2.2.2)))) (chk (decide ((((List.length p.2.2.2) + (List.length ([(IntKind.u8.wrap (bitsN .or .i64 (IntKind.i64.wrap (p.2.1 * 2 ^ (min (Int.toNat (4 : Int)) (IntKind.bits IntKind.i64)))) r1.1))]))) * (1 : Nat)) ≤ (140737488355328 : Nat))) (chk (decide (((List.length p.2.2.2) + (List.length ([(IntKind.u8.wrap (bitsN .or .i64 (IntKind.i64.wrap (p.2.1 * 2 ^ (min (Int.toNat (4 : Int)) (IntKind.bits IntKind.i64)))) r1.1))]))) ≤ (9223372036854775807 : Nat))) (R4 (p.1, (p.2.1, ((IntKind.i64.wrap (p.2.2.1 + (1 : Int))), (p.2.2.2 ++ ([(IntKind.u8.wrap (bitsN .or .i64 (IntKind.i64.wrap (p.2.1 * 2 ^ (min (Int.toNat (4 : Int)) (IntKind.bits IntKind.i64)))) r1.1))]))))))))))))) (cond ((Int.tmod ((((List.length p.1) : Nat) : Int)) (2 : Int)) != (0 : Int)) (some (([] : List UInt8), (((((List.length p.1) : Nat) : Int)), (false, ())))) (some ((List.map toByte p.2.2.2), ((0 : Int), (true, ()))))))
def f96_l4 (k : Nat) : f96_t4 → Option f96_r := loopP (fun R4 p => f96_b4 k R4 p) k
def f96_m (k : Nat) (A4 : f96_t4 → Option f96_r) (x : f96_x) : Option f96_r :=
  (chk (decide ((0 : Int) ≤ (IntKind.i64.wrap (Int.tdiv ((((List.length x.1) : Nat) : Int)) (2 : Int))))) (chk (decide (((IntKind.i64.wrap (Int.tdiv ((((List.length x.1) : Nat) : Int)) (2 : Int))) * (((1 : Nat) : Nat) : Int)) ≤ (281474976710656 : Int))) (chk (decide ((IntKind.i64.wrap (Int.tdiv ((((List.length x.1) : Nat) : Int)) (2 : Int))) ≤ (9223372036854775807 : Int))) (A4 (x.1, ((0 : Int), ((0 : Int), ([] : List Int))))))))
def f96 (k : Nat) (x : f96_x) : Option f96_r := f96_m k (f96_l4 k) x
def f96_lv : Nat → Lp := lps [(4, .keep [0, 5, 6, 7] [])]
def f96_G : Env := findL [(132, ⟨[(.int .u8)], [(.int .i64), .bool], f132, .no⟩)]
theorem f96_e4 (k : Nat) (kn : St → Option f96_r) (p : f96_t4) : stepAt types f96_G f96_lv k Try.f96.ntmps (kns []) 4 (Try.f96.body.getD .skip) (topK types Try.f96 [.str, (.int .i64), .bool]) (f96_s4 p) kn =
    f96_b4 k (fun p => kn (f96_s4 p)) p := by kernel_rfl
theorem f96_q4 (k : Nat) (n : Nat) (p : f96_t4) : loopAt types f96_G f96_lv k Try.f96.ntmps (kns []) 4 (Try.f96.body.getD .skip) (topK types Try.f96 [.str, (.int .i64), .bool]) n (f96_s4 p) = loopP (fun R4 p => f96_b4 k R4 p) n p :=
  loopAt_eq (fun kn p => f96_e4 k kn p) n p
theorem f96_e (k : Nat) (x : f96_x) : fnK types f96_G f96_lv k Try.f96 [.str] [.str, (.int .i64), .bool] x =
    f96_m k (fun p => loopAt types f96_G f96_lv k Try.f96.ntmps (kns []) 4 (Try.f96.body.getD .skip) (topK types Try.f96 [.str, (.int .i64), .bool]) k (f96_s4 p)) x := by kernel_rfl
theorem f96_eq (k : Nat) (x : f96_x) : fnK types f96_G f96_lv k Try.f96 [.str] [.str, (.int .i64), .bool] x = f96 k x :=
  (f96_e k x).trans (congrFun (congrArg (f96_m k) (funext fun p => f96_q4 k k p)) x)
theorem f96_c : Contract Try.prog 96 ⟨[.str], [.str, (.int .i64), .bool], f96, .no⟩ :=
  fn_contract types_all (env_cons f132_c env_nil) mixes (by kernel_rfl) (by kernel_rfl) (by kernel_rfl) (by kernel_rfl) f96_eq

/-! groat/bitmap.take -/
abbrev f89_r := (Int × Int × Int × Int × Int × Int × Int × Int) × Int × Int × Unit
abbrev f89_x := Int × List UInt8 × Int × Unit
def f89_m (k : Nat) (x : f89_x) : Option f89_r :=
  (cond (x.1 == (1 : Int)) (cond (decide ((IntKind.i64.wrap (((((List.length x.2.1) : Nat) : Int)) - x.2.2.1)) < (16 : Int))) (some (((0 : Int), ((0 : Int), ((0 : Int), ((0 : Int), ((0 : Int), ((0 : Int), ((0 : Int), (0 : Int)))))))), ((0 : Int), ((2 : Int), ())))) (chk (decide ((0 : Int) ≤ x.2.2.1)) (chk (decide (x.2.2.1 ≤ (IntKind.i64.wrap (x.2.2.1 + (16 : Int))))) (chk (decide ((IntKind.i64.wrap (x.2.2.1 + (16 : Int))) ≤ ((((List.length x.2.1) : Nat) : Int)))) (cond (x.1 == (1 : Int)) ((f96 k ((List.drop (Int.toNat x.2.2.1) (List.take (Int.toNat (IntKind.i64.wrap (x.2.2.1 + (16 : Int)))) x.2.1)), ())).bind fun r1 => (cond (!r1.2.2.1) (some (((0 : Int), ((0 : Int), ((0 : Int), ((0 : Int), ((0 : Int), ((0 : Int), ((0 : Int), (0 : Int)))))))), ((0 : Int), ((3 : Int), ())))) (some (((List.getD (laid 0 (min (List.length (List.map (fun b : UInt8 => ((b.toNat : Nat) : Int)) r1.1)) (8 : Nat)) ([(0 : Int), (0 : Int), (0 : Int), (0 : Int), (0 : Int), (0 : Int), (0 : Int), (0 : Int)]) (List.map (fun b : UInt8 => ((b.toNat : Nat) : Int)) r1.1)) 0 0), ((List.getD (laid 0 (min (List.length (List.map (fun b : UInt8 => ((b.toNat : Nat) : Int)) r1.1)) (8 : Nat)) ([(0 : Int), (0 : Int), (0 : Int), (0 : Int), (0 : Int), (0 : Int), (0 : Int), (0 : Int)]) (List.map (fun b : UInt8 => ((b.toNat : Nat) : Int)) r1.1)) 1 0), ((List.getD (laid 0 (min (List.length (List.map (fun b : UInt8 => ((b.toNat : Nat) : Int)) r1.1)) (8 : Nat)) ([(0 : Int), (0 : Int), (0 : Int), (0 : Int), (0 : Int), (0 : Int), (0 : Int), (0 : Int)]) (List.map (fun b : UInt8 => ((b.toNat : Nat) : Int)) r1.1)) 2 0), ((List.getD (laid 0 (min (List.length (List.map (fun b : UInt8 => ((b.toNat : Nat) : Int)) r1.1)) (8 : Nat)) ([(0 : Int), (0 : Int), (0 : Int), (0 : Int), (0 : Int), (0 : Int), (0 : Int), (0 : Int)]) (List.map (fun b : UInt8 => ((b.toNat : Nat) : Int)) r1.1)) 3 0), ((List.getD (laid 0 (min (List.length (List.map (fun b : UInt8 => ((b.toNat : Nat) : Int)) r1.1)) (8 : Nat)) ([(0 : Int), (0 : Int), (0 : Int), (0 : Int), (0 : Int), (0 : Int), (0 : Int), (0 : Int)]) (List.map (fun b : UInt8 => ((b.toNat : Nat) : Int)) r1.1)) 4 0), ((List.getD (laid 0 (min (List.length (List.map (fun b : UInt8 => ((b.toNat : Nat) : Int)) r1.1)) (8 : Nat)) ([(0 : Int), (0 : Int), (0 : Int), (0 : Int), (0 : Int), (0 : Int), (0 : Int), (0 : Int)]) (List.map (fun b : UInt8 => ((b.toNat : Nat) : Int)) r1.1)) 5 0), ((List.getD (laid 0 (min (List.length (List.map (fun b : UInt8 => ((b.toNat : Nat) : Int)) r1.1)) (8 : Nat)) ([(0 : Int), (0 : Int), (0 : Int), (0 : Int), (0 : Int), (0 : Int), (0 : Int), (0 : Int)]) (List.map (fun b : UInt8 => ((b.toNat : Nat) : Int)) r1.1)) 6 0), (List.getD (laid 0 (min (List.length (List.map (fun b : UInt8 => ((b.toNat : Nat) : Int)) r1.1)) (8 : Nat)) ([(0 : Int), (0 : Int), (0 : Int), (0 : Int), (0 : Int), (0 : Int), (0 : Int), (0 : Int)]) (List.map (fun b : UInt8 => ((b.toNat : Nat) : Int)) r1.1)) 7 0)))))))), ((IntKind.i64.wrap (x.2.2.1 + (16 : Int))), ((0 : Int), ())))))) (some (((List.getD (laid 0 (min (List.length (List.map (fun b : UInt8 => ((b.toNat : Nat) : Int)) (List.drop (Int.toNat x.2.2.1) (List.take (Int.toNat (IntKind.i64.wrap (x.2.2.1 + (16 : Int)))) x.2.1)))) (8 : Nat)) ([(0 : Int), (0 : Int), (0 : Int), (0 : Int), (0 : Int), (0 : Int), (0 : Int), (0 : Int)]) (List.map (fun b : UInt8 => ((b.toNat : Nat) : Int)) (List.drop (Int.toNat x.2.2.1) (List.take (Int.toNat (IntKind.i64.wrap (x.2.2.1 + (16 : Int)))) x.2.1)))) 0 0), ((List.getD (laid 0 (min (List.length (List.map (fun b : UInt8 => ((b.toNat : Nat) : Int)) (List.drop (Int.toNat x.2.2.1) (List.take (Int.toNat (IntKind.i64.wrap (x.2.2.1 + (16 : Int)))) x.2.1)))) (8 : Nat)) ([(0 : Int), (0 : Int), (0 : Int), (0 : Int), (0 : Int), (0 : Int), (0 : Int), (0 : Int)]) (List.map (fun b : UInt8 => ((b.toNat : Nat) : Int)) (List.drop (Int.toNat x.2.2.1) (List.take (Int.toNat (IntKind.i64.wrap (x.2.2.1 + (16 : Int)))) x.2.1)))) 1 0), ((List.getD (laid 0 (min (List.length (List.map (fun b : UInt8 => ((b.toNat : Nat) : Int)) (List.drop (Int.toNat x.2.2.1) (List.take (Int.toNat (IntKind.i64.wrap (x.2.2.1 + (16 : Int)))) x.2.1)))) (8 : Nat)) ([(0 : Int), (0 : Int), (0 : Int), (0 : Int), (0 : Int), (0 : Int), (0 : Int), (0 : Int)]) (List.map (fun b : UInt8 => ((b.toNat : Nat) : Int)) (List.drop (Int.toNat x.2.2.1) (List.take (Int.toNat (IntKind.i64.wrap (x.2.2.1 + (16 : Int)))) x.2.1)))) 2 0), ((List.getD (laid 0 (min (List.length (List.map (fun b : UInt8 => ((b.toNat : Nat) : Int)) (List.drop (Int.toNat x.2.2.1) (List.take (Int.toNat (IntKind.i64.wrap (x.2.2.1 + (16 : Int)))) x.2.1)))) (8 : Nat)) ([(0 : Int), (0 : Int), (0 : Int), (0 : Int), (0 : Int), (0 : Int), (0 : Int), (0 : Int)]) (List.map (fun b : UInt8 => ((b.toNat : Nat) : Int)) (List.drop (Int.toNat x.2.2.1) (List.take (Int.toNat (IntKind.i64.wrap (x.2.2.1 + (16 : Int)))) x.2.1)))) 3 0), ((List.getD (laid 0 (min (List.length (List.map (fun b : UInt8 => ((b.toNat : Nat) : Int)) (List.drop (Int.toNat x.2.2.1) (List.take (Int.toNat (IntKind.i64.wrap (x.2.2.1 + (16 : Int)))) x.2.1)))) (8 : Nat)) ([(0 : Int), (0 : Int), (0 : Int), (0 : Int), (0 : Int), (0 : Int), (0 : Int), (0 : Int)]) (List.map (fun b : UInt8 => ((b.toNat : Nat) : Int)) (List.drop (Int.toNat x.2.2.1) (List.take (Int.toNat (IntKind.i64.wrap (x.2.2.1 + (16 : Int)))) x.2.1)))) 4 0), ((List.getD (laid 0 (min (List.length (List.map (fun b : UInt8 => ((b.toNat : Nat) : Int)) (List.drop (Int.toNat x.2.2.1) (List.take (Int.toNat (IntKind.i64.wrap (x.2.2.1 + (16 : Int)))) x.2.1)))) (8 : Nat)) ([(0 : Int), (0 : Int), (0 : Int), (0 : Int), (0 : Int), (0 : Int), (0 : Int), (0 : Int)]) (List.map (fun b : UInt8 => ((b.toNat : Nat) : Int)) (List.drop (Int.toNat x.2.2.1) (List.take (Int.toNat (IntKind.i64.wrap (x.2.2.1 + (16 : Int)))) x.2.1)))) 5 0), ((List.getD (laid 0 (min (List.length (List.map (fun b : UInt8 => ((b.toNat : Nat) : Int)) (List.drop (Int.toNat x.2.2.1) (List.take (Int.toNat (IntKind.i64.wrap (x.2.2.1 + (16 : Int)))) x.2.1)))) (8 : Nat)) ([(0 : Int), (0 : Int), (0 : Int), (0 : Int), (0 : Int), (0 : Int), (0 : Int), (0 : Int)]) (List.map (fun b : UInt8 => ((b.toNat : Nat) : Int)) (List.drop (Int.toNat x.2.2.1) (List.take (Int.toNat (IntKind.i64.wrap (x.2.2.1 + (16 : Int)))) x.2.1)))) 6 0), (List.getD (laid 0 (min (List.length (List.map (fun b : UInt8 => ((b.toNat : Nat) : Int)) (List.drop (Int.toNat x.2.2.1) (List.take (Int.toNat (IntKind.i64.wrap (x.2.2.1 + (16 : Int)))) x.2.1)))) (8 : Nat)) ([(0 : Int), (0 : Int), (0 : Int), (0 : Int), (0 : Int), (0 : Int), (0 : Int), (0 : Int)]) (List.map (fun b : UInt8 => ((b.toNat : Nat) : Int)) (List.drop (Int.toNat x.2.2.1) (List.take (Int.toNat (IntKind.i64.wrap (x.2.2.1 + (16 : Int)))) x.2.1)))) 7 0)))))))), ((IntKind.i64.wrap (x.2.2.1 + (16 : Int))), ((0 : Int), ()))))))))) (cond (decide ((IntKind.i64.wrap (((((List.length x.2.1) : Nat) : Int)) - x.2.2.1)) < (8 : Int))) (some (((0 : Int), ((0 : Int), ((0 : Int), ((0 : Int), ((0 : Int), ((0 : Int), ((0 : Int), (0 : Int)))))))), ((0 : Int), ((2 : Int), ())))) (chk (decide ((0 : Int) ≤ x.2.2.1)) (chk (decide (x.2.2.1 ≤ (IntKind.i64.wrap (x.2.2.1 + (8 : Int))))) (chk (decide ((IntKind.i64.wrap (x.2.2.1 + (8 : Int))) ≤ ((((List.length x.2.1) : Nat) : Int)))) (cond (x.1 == (1 : Int)) ((f96 k ((List.drop (Int.toNat x.2.2.1) (List.take (Int.toNat (IntKind.i64.wrap (x.2.2.1 + (8 : Int)))) x.2.1)), ())).bind fun r2 => (cond (!r2.2.2.1) (some (((0 : Int), ((0 : Int), ((0 : Int), ((0 : Int), ((0 : Int), ((0 : Int), ((0 : Int), (0 : Int)))))))), ((0 : Int), ((3 : Int), ())))) (some (((List.getD (laid 0 (min (List.length (List.map (fun b : UInt8 => ((b.toNat : Nat) : Int)) r2.1)) (8 : Nat)) ([(0 : Int), (0 : Int), (0 : Int), (0 : Int), (0 : Int), (0 : Int), (0 : Int), (0 : Int)]) (List.map (fun b : UInt8 => ((b.toNat : Nat) : Int)) r2.1)) 0 0), ((List.getD (laid 0 (min (List.length (List.map (fun b : UInt8 => ((b.toNat : Nat) : Int)) r2.1)) (8 : Nat)) ([(0 : Int), (0 : Int), (0 : Int), (0 : Int), (0 : Int), (0 : Int), (0 : Int), (0 : Int)]) (List.map (fun b : UInt8 => ((b.toNat : Nat) : Int)) r2.1)) 1 0), ((List.getD (laid 0 (min (List.length (List.map (fun b : UInt8 => ((b.toNat : Nat) : Int)) r2.1)) (8 : Nat)) ([(0 : Int), (0 : Int), (0 : Int), (0 : Int), (0 : Int), (0 : Int), (0 : Int), (0 : Int)]) (List.map (fun b : UInt8 => ((b.toNat : Nat) : Int)) r2.1)) 2 0), ((List.getD (laid 0 (min (List.length (List.map (fun b : UInt8 => ((b.toNat : Nat) : Int)) r2.1)) (8 : Nat)) ([(0 : Int), (0 : Int), (0 : Int), (0 : Int), (0 : Int), (0 : Int), (0 : Int), (0 : Int)]) (List.map (fun b : UInt8 => ((b.toNat : Nat) : Int)) r2.1)) 3 0), ((List.getD (laid 0 (min (List.length (List.map (fun b : UInt8 => ((b.toNat : Nat) : Int)) r2.1)) (8 : Nat)) ([(0 : Int), (0 : Int), (0 : Int), (0 : Int), (0 : Int), (0 : Int), (0 : Int), (0 : Int)]) (List.map (fun b : UInt8 => ((b.toNat : Nat) : Int)) r2.1)) 4 0), ((List.getD (laid 0 (min (List.length (List.map (fun b : UInt8 => ((b.toNat : Nat) : Int)) r2.1)) (8 : Nat)) ([(0 : Int), (0 : Int), (0 : Int), (0 : Int), (0 : Int), (0 : Int), (0 : Int), (0 : Int)]) (List.map (fun b : UInt8 => ((b.toNat : Nat) : Int)) r2.1)) 5 0), ((List.getD (laid 0 (min (List.length (List.map (fun b : UInt8 => ((b.toNat : Nat) : Int)) r2.1)) (8 : Nat)) ([(0 : Int), (0 : Int), (0 : Int), (0 : Int), (0 : Int), (0 : Int), (0 : Int), (0 : Int)]) (List.map (fun b : UInt8 => ((b.toNat : Nat) : Int)) r2.1)) 6 0), (List.getD (laid 0 (min (List.length (List.map (fun b : UInt8 => ((b.toNat : Nat) : Int)) r2.1)) (8 : Nat)) ([(0 : Int), (0 : Int), (0 : Int), (0 : Int), (0 : Int), (0 : Int), (0 : Int), (0 : Int)]) (List.map (fun b : UInt8 => ((b.toNat : Nat) : Int)) r2.1)) 7 0)))))))), ((IntKind.i64.wrap (x.2.2.1 + (8 : Int))), ((0 : Int), ())))))) (some (((List.getD (laid 0 (min (List.length (List.map (fun b : UInt8 => ((b.toNat : Nat) : Int)) (List.drop (Int.toNat x.2.2.1) (List.take (Int.toNat (IntKind.i64.wrap (x.2.2.1 + (8 : Int)))) x.2.1)))) (8 : Nat)) ([(0 : Int), (0 : Int), (0 : Int), (0 : Int), (0 : Int), (0 : Int), (0 : Int), (0 : Int)]) (List.map (fun b : UInt8 => ((b.toNat : Nat) : Int)) (List.drop (Int.toNat x.2.2.1) (List.take (Int.toNat (IntKind.i64.wrap (x.2.2.1 + (8 : Int)))) x.2.1)))) 0 0), ((List.getD (laid 0 (min (List.length (List.map (fun b : UInt8 => ((b.toNat : Nat) : Int)) (List.drop (Int.toNat x.2.2.1) (List.take (Int.toNat (IntKind.i64.wrap (x.2.2.1 + (8 : Int)))) x.2.1)))) (8 : Nat)) ([(0 : Int), (0 : Int), (0 : Int), (0 : Int), (0 : Int), (0 : Int), (0 : Int), (0 : Int)]) (List.map (fun b : UInt8 => ((b.toNat : Nat) : Int)) (List.drop (Int.toNat x.2.2.1) (List.take (Int.toNat (IntKind.i64.wrap (x.2.2.1 + (8 : Int)))) x.2.1)))) 1 0), ((List.getD (laid 0 (min (List.length (List.map (fun b : UInt8 => ((b.toNat : Nat) : Int)) (List.drop (Int.toNat x.2.2.1) (List.take (Int.toNat (IntKind.i64.wrap (x.2.2.1 + (8 : Int)))) x.2.1)))) (8 : Nat)) ([(0 : Int), (0 : Int), (0 : Int), (0 : Int), (0 : Int), (0 : Int), (0 : Int), (0 : Int)]) (List.map (fun b : UInt8 => ((b.toNat : Nat) : Int)) (List.drop (Int.toNat x.2.2.1) (List.take (Int.toNat (IntKind.i64.wrap (x.2.2.1 + (8 : Int)))) x.2.1)))) 2 0), ((List.getD (laid 0 (min (List.length (List.map (fun b : UInt8 => ((b.toNat : Nat) : Int)) (List.drop (Int.toNat x.2.2.1) (List.take (Int.toNat (IntKind.i64.wrap (x.2.2.1 + (8 : Int)))) x.2.1)))) (8 : Nat)) ([(0 : Int), (0 : Int), (0 : Int), (0 : Int), (0 : Int), (0 : Int), (0 : Int), (0 : Int)]) (List.map (fun b : UInt8 => ((b.toNat : Nat) : Int)) (List.drop (Int.toNat x.2.2.1) (List.take (Int.toNat (IntKind.i64.wrap (x.2.2.1 + (8 : Int)))) x.2.1)))) 3 0), ((List.getD (laid 0 (min (List.length (List.map (fun b : UInt8 => ((b.toNat : Nat) : Int)) (List.drop (Int.toNat x.2.2.1) (List.take (Int.toNat (IntKind.i64.wrap (x.2.2.1 + (8 : Int)))) x.2.1)))) (8 : Nat)) ([(0 : Int), (0 : Int), (0 : Int), (0 : Int), (0 : Int), (0 : Int), (0 : Int), (0 : Int)]) (List.map (fun b : UInt8 => ((b.toNat : Nat) : Int)) (List.drop (Int.toNat x.2.2.1) (List.take (Int.toNat (IntKind.i64.wrap (x.2.2.1 + (8 : Int)))) x.2.1)))) 4 0), ((List.getD (laid 0 (min (List.length (List.map (fun b : UInt8 => ((b.toNat : Nat) : Int)) (List.drop (Int.toNat x.2.2.1) (List.take (Int.toNat (IntKind.i64.wrap (x.2.2.1 + (8 : Int)))) x.2.1)))) (8 : Nat)) ([(0 : Int), (0 : Int), (0 : Int), (0 : Int), (0 : Int), (0 : Int), (0 : Int), (0 : Int)]) (List.map (fun b : UInt8 => ((b.toNat : Nat) : Int)) (List.drop (Int.toNat x.2.2.1) (List.take (Int.toNat (IntKind.i64.wrap (x.2.2.1 + (8 : Int)))) x.2.1)))) 5 0), ((List.getD (laid 0 (min (List.length (List.map (fun b : UInt8 => ((b.toNat : Nat) : Int)) (List.drop (Int.toNat x.2.2.1) (List.take (Int.toNat (IntKind.i64.wrap (x.2.2.1 + (8 : Int)))) x.2.1)))) (8 : Nat)) ([(0 : Int), (0 : Int), (0 : Int), (0 : Int), (0 : Int), (0 : Int), (0 : Int), (0 : Int)]) (List.map (fun b : UInt8 => ((b.toNat : Nat) : Int)) (List.drop (Int.toNat x.2.2.1) (List.take (Int.toNat (IntKind.i64.wrap (x.2.2.1 + (8 : Int)))) x.2.1)))) 6 0), (List.getD (laid 0 (min (List.length (List.map (fun b : UInt8 => ((b.toNat : Nat) : Int)) (List.drop (Int.toNat x.2.2.1) (List.take (Int.toNat (IntKind.i64.wrap (x.2.2.1 + (8 : Int)))) x.2.1)))) (8 : Nat)) ([(0 : Int), (0 : Int), (0 : Int), (0 : Int), (0 : Int), (0 : Int), (0 : Int), (0 : Int)]) (List.map (fun b : UInt8 => ((b.toNat : Nat) : Int)) (List.drop (Int.toNat x.2.2.1) (List.take (Int.toNat (IntKind.i64.wrap (x.2.2.1 + (8 : Int)))) x.2.1)))) 7 0)))))))), ((IntKind.i64.wrap (x.2.2.1 + (8 : Int))), ((0 : Int), ()))))))))))
def f89 (k : Nat) (x : f89_x) : Option f89_r := f89_m k x
def f89_lv : Nat → Lp := lps []
def f89_G : Env := findL [(96, ⟨[.str], [.str, (.int .i64), .bool], f96, .no⟩)]
theorem f89_e (k : Nat) (x : f89_x) : fnK types f89_G f89_lv k Try.f89 [(.int .i64), .str, (.int .i64)] [y135, (.int .i64), (.int .i64)] x =
    f89_m k x := by kernel_rfl
theorem f89_eq (k : Nat) (x : f89_x) : fnK types f89_G f89_lv k Try.f89 [(.int .i64), .str, (.int .i64)] [y135, (.int .i64), (.int .i64)] x = f89 k x :=
  f89_e k x
theorem f89_c : Contract Try.prog 89 ⟨[(.int .i64), .str, (.int .i64)], [y135, (.int .i64), (.int .i64)], f89, .no⟩ :=
  fn_contract types_all (env_cons f96_c env_nil) mixes (by kernel_rfl) (by kernel_rfl) (by kernel_rfl) (by kernel_rfl) f89_eq

/-! groat/bitmap.bits -/
abbrev f90_r := Int × Unit
abbrev f90_x := (Int × Int × Int × Int × Int × Int × Int × Int) × Unit
def f90_m (k : Nat) (x : f90_x) : Option f90_r :=
  (some ((bitsN .or .u64 (IntKind.u64.wrap ((bitsN .or .u64 (IntKind.u64.wrap ((bitsN .or .u64 (IntKind.u64.wrap ((bitsN .or .u64 (IntKind.u64.wrap ((bitsN .or .u64 (IntKind.u64.wrap ((bitsN .or .u64 (IntKind.u64.wrap ((bitsN .or .u64 (IntKind.u64.wrap ((bitsN .or .u64 (0 : Int) (IntKind.u64.wrap x.1.1)) * 2 ^ (min (Int.toNat (8 : Int)) (IntKind.bits IntKind.u64)))) (IntKind.u64.wrap x.1.2.1)) * 2 ^ (min (Int.toNat (8 : Int)) (IntKind.bits IntKind.u64)))) (IntKind.u64.wrap x.1.2.2.1)) * 2 ^ (min (Int.toNat (8 : Int)) (IntKind.bits IntKind.u64)))) (IntKind.u64.wrap x.1.2.2.2.1)) * 2 ^ (min (Int.toNat (8 : Int)) (IntKind.bits IntKind.u64)))) (IntKind.u64.wrap x.1.2.2.2.2.1)) * 2 ^ (min (Int.toNat (8 : Int)) (IntKind.bits IntKind.u64)))) (IntKind.u64.wrap x.1.2.2.2.2.2.1)) * 2 ^ (min (Int.toNat (8 : Int)) (IntKind.bits IntKind.u64)))) (IntKind.u64.wrap x.1.2.2.2.2.2.2.1)) * 2 ^ (min (Int.toNat (8 : Int)) (IntKind.bits IntKind.u64)))) (IntKind.u64.wrap x.1.2.2.2.2.2.2.2)), ()))
def f90 (k : Nat) (x : f90_x) : Option f90_r := f90_m k x
def f90_lv : Nat → Lp := lps [(3, .unroll 9)]
def f90_G : Env := findL []
theorem f90_e (k : Nat) (x : f90_x) : fnK types f90_G f90_lv k Try.f90 [y135] [(.int .u64)] x =
    f90_m k x := by kernel_rfl
theorem f90_eq (k : Nat) (x : f90_x) : fnK types f90_G f90_lv k Try.f90 [y135] [(.int .u64)] x = f90 k x :=
  f90_e k x
theorem f90_c : Contract Try.prog 90 ⟨[y135], [(.int .u64)], f90, .no⟩ :=
  fn_contract types_all env_nil mixes (by kernel_rfl) (by kernel_rfl) (by kernel_rfl) (by kernel_rfl) f90_eq

/-! groat/fields.Bits -/
abbrev f91_r := (Int × Int) × Unit
abbrev f91_x := Int × Int × Unit
def f91_m (k : Nat) (x : f91_x) : Option f91_r :=
  (some ((x.1, x.2.1), ()))
def f91 (k : Nat) (x : f91_x) : Option f91_r := f91_m k x
def f91_lv : Nat → Lp := lps []
def f91_G : Env := findL []
theorem f91_e (k : Nat) (x : f91_x) : fnK types f91_G f91_lv k Try.f91 [(.int .u64), (.int .u64)] [(.pair (.int .u64) (.int .u64))] x =
    f91_m k x := by kernel_rfl
theorem f91_eq (k : Nat) (x : f91_x) : fnK types f91_G f91_lv k Try.f91 [(.int .u64), (.int .u64)] [(.pair (.int .u64) (.int .u64))] x = f91 k x :=
  f91_e k x
theorem f91_c : Contract Try.prog 91 ⟨[(.int .u64), (.int .u64)], [(.pair (.int .u64) (.int .u64))], f91, .no⟩ :=
  fn_contract types_all env_nil mixes (by kernel_rfl) (by kernel_rfl) (by kernel_rfl) (by kernel_rfl) f91_eq

/-! groat/bitmap.Get -/
abbrev f47_r := (Int × Int) × Int × Int × Unit
abbrev f47_x := Int × List UInt8 × Int × Unit
def f47_m (k : Nat) (x : f47_x) : Option f47_r :=
  ((f88 k (x.1, ())).bind fun r1 => (cond (!r1.1) (some (((0 : Int), (0 : Int)), ((0 : Int), ((1 : Int), ())))) (cond (decide (x.2.2.1 < (0 : Int))) (some (((0 : Int), (0 : Int)), ((0 : Int), ((1 : Int), ())))) (cond (decide (x.2.2.1 > ((((List.length x.2.1) : Nat) : Int)))) (some (((0 : Int), (0 : Int)), ((0 : Int), ((1 : Int), ())))) ((f89 k (x.1, (x.2.1, (x.2.2.1, ())))).bind fun r2 => (cond (r2.2.2.1 != (0 : Int)) (some (((0 : Int), (0 : Int)), ((0 : Int), (r2.2.2.1, ())))) ((f90 k (r2.1, ())).bind fun r3 => (cond ((bitsN .and .u64 r3.1 (9223372036854775808 : Int)) == (0 : Int)) ((f91 k (r3.1, ((0 : Int), ()))).bind fun r4 => (some (r4.1, (r2.2.1, ((0 : Int), ()))))) ((f89 k (x.1, (x.2.1, (r2.2.1, ())))).bind fun r5 => (cond (r5.2.2.1 != (0 : Int)) (some (((0 : Int), (0 : Int)), ((0 : Int), (r5.2.2.1, ())))) (cond ((r5.1.1 == (0 : Int)) && ((r5.1.2.1 == (0 : Int)) && ((r5.1.2.2.1 == (0 : Int)) && ((r5.1.2.2.2.1 == (0 : Int)) && ((r5.1.2.2.2.2.1 == (0 : Int)) && ((r5.1.2.2.2.2.2.1 == (0 : Int)) && ((r5.1.2.2.2.2.2.2.1 == (0 : Int)) && ((r5.1.2.2.2.2.2.2.2 == (0 : Int)) && true)))))))) (some (((0 : Int), (0 : Int)), ((0 : Int), ((8 : Int), ())))) ((f90 k (r5.1, ())).bind fun r6 => ((f91 k ((bitsN .andNot .u64 r3.1 (9223372036854775808 : Int)), (r6.1, ()))).bind fun r7 => (some (r7.1, (r5.2.1, ((0 : Int), ())))))))))))))))))
def f47 (k : Nat) (x : f47_x) : Option f47_r := f47_m k x
def f47_lv : Nat → Lp := lps []
def f47_G : Env := findL [(88, ⟨[(.int .i64)], [.bool], f88, .no⟩), (89, ⟨[(.int .i64), .str, (.int .i64)], [y135, (.int .i64), (.int .i64)], f89, .no⟩), (90, ⟨[y135], [(.int .u64)], f90, .no⟩), (91, ⟨[(.int .u64), (.int .u64)], [(.pair (.int .u64) (.int .u64))], f91, .no⟩)]
theorem f47_e (k : Nat) (x : f47_x) : fnK types f47_G f47_lv k Try.f47 [(.int .i64), .str, (.int .i64)] [(.pair (.int .u64) (.int .u64)), (.int .i64), (.int .i64)] x =
    f47_m k x := by kernel_rfl
theorem f47_eq (k : Nat) (x : f47_x) : fnK types f47_G f47_lv k Try.f47 [(.int .i64), .str, (.int .i64)] [(.pair (.int .u64) (.int .u64)), (.int .i64), (.int .i64)] x = f47 k x :=
  f47_e k x
theorem f47_c : Contract Try.prog 47 ⟨[(.int .i64), .str, (.int .i64)], [(.pair (.int .u64) (.int .u64)), (.int .i64), (.int .i64)], f47, .no⟩ :=
  fn_contract types_all (env_cons f88_c (env_cons f89_c (env_cons f90_c (env_cons f91_c env_nil)))) mixes (by kernel_rfl) (by kernel_rfl) (by kernel_rfl) (by kernel_rfl) f47_eq

/-! groat/bcd.Size -/
abbrev f94_r := Int × Unit
abbrev f94_x := Int × Unit
def f94_m (k : Nat) (x : f94_x) : Option f94_r :=
  (cond (decide (x.1 < (1 : Int))) (some ((0 : Int), ())) (some ((IntKind.i64.wrap ((IntKind.i64.wrap (Int.tdiv x.1 (2 : Int))) + (Int.tmod x.1 (2 : Int)))), ())))
def f94 (k : Nat) (x : f94_x) : Option f94_r := f94_m k x
def f94_lv : Nat → Lp := lps []
def f94_G : Env := findL []
theorem f94_e (k : Nat) (x : f94_x) : fnK types f94_G f94_lv k Try.f94 [(.int .i64)] [(.int .i64)] x =
    f94_m k x := by kernel_rfl
theorem f94_eq (k : Nat) (x : f94_x) : fnK types f94_G f94_lv k Try.f94 [(.int .i64)] [(.int .i64)] x = f94 k x :=
  f94_e k x
theorem f94_c : Contract Try.prog 94 ⟨[(.int .i64)], [(.int .i64)], f94, .no⟩ :=
  fn_contract types_all env_nil mixes (by kernel_rfl) (by kernel_rfl) (by kernel_rfl) (by kernel_rfl) f94_eq

/-! groat/bcd.Get -/
abbrev f95_r := List UInt8 × Int × Int × Unit
abbrev f95_x := List UInt8 × Int × Unit
abbrev f95_t7 := List UInt8 × Int × Int × Int × List Int
def f95_s7 (p : f95_t7) : St := [(0, .tv (.f (.c (.v .str p.1)))), (2, .tv (.f (.c (.v (.int .i64) p.2.1)))), (14, .tv (.f (.c (.own 1448)))), (60, .tv (.f (.c (.v (.int .i64) p.2.2.1)))), (62, .tv (.f (.c (.v (.int .i64) p.2.2.2.1)))), (2897, .row 5 (.int .u8) p.2.2.2.2)]
def f95_b7 (k : Nat) (R7 : f95_t7 → Option f95_r) (p : f95_t7) : Option f95_r :=
  (cond (decide (p.2.2.2.1 < p.2.2.1)) (chk (decide ((0 : Int) ≤ p.2.2.2.1)) (chk (decide (p.2.2.2.1 < ((((List.length p.1) : Nat) : Int)))) (chk (decide ((0 : Int) ≤ p.2.2.2.1)) (chk (decide (p.2.2.2.1 < ((((List.length p.1) : Nat) : Int)))) (cond (p.2.2.2.1 == (0 : Int)) (cond ((Int.tmod p.2.1 (2 : Int)) != (0 : Int)) (cond ((Int.fdiv (((UInt8.toNat (List.getD p.1 (Int.toNat p.2.2.2.1) 0) : Nat) : Int)) (2 ^ (min (Int.toNat (4 : Int)) (IntKind.bits IntKind.u8)))) != (0 : Int)) (some (([] : List UInt8), ((4 : Int), ((0 : Int), ())))) (cond (decide ((Int.fdiv (((UInt8.toNat (List.getD p.1 (Int.toNat p.2.2.2.1) 0) : Nat) : Int)) (2 ^ (min (Int.toNat (4 : Int)) (IntKind.bits IntKind.u8)))) > (9 : Int))) (some (([] : List UInt8), ((3 : Int), (p.2.2.2.1, ())))) (cond (decide ((bitsN .and .u8 (((UInt8.toNat (List.getD p.1 (Int.toNat p.2.2.2.1) 0) : Nat) : Int)) (15 : Int)) > (9 : Int))) (some (([] : List UInt8), ((3 : Int), (p.2.2.2.1, ())))) (chk (decide ((((List.length p.2.2.2.2) + (List.length ([(IntKind.u8.wrap ((48 : Int) + (Int.fdiv (((UInt8.toNat (List.getD p.1 (Int.toNat p.2.2.2.1) 0) : Nat) : Int)) (2 ^ (min (Int.toNat (4 : Int)) (IntKind.bits IntKind.u8)))))), (IntKind.u8.wrap ((48 : Int) + (bitsN .and .u8 (((UInt8.toNat (List.getD p.1 (Int.toNat p.2.2.2.1) 0) : Nat) : Int)) (15 : Int))))]))) * (1 : Nat)) ≤ (140737488355328 : Nat))) (chk (decide (((List.length p.2.2.2.2) + (List.length ([(IntKind.u8.wrap ((48 : Int) + (Int.fdiv (((UInt8.toNat (List.getD p.1 (Int.toNat p.2.2.2.1) 0) : Nat) : Int)) (2 ^ (min (Int.toNat (4 : Int)) (IntKind.bits IntKind.u8)))))), (IntKind.u8.wrap ((48 : Int) + (bitsN .and .u8 (((UInt8.toNat (List.getD p.1 (Int.toNat p.2.2.2.1) 0) : Nat) : Int)) (15 : Int))))]))) ≤ (9223372036854775807 : Nat))) (R7 (p.1, (p.2.1, (p.2.2.1, ((IntKind.i64.wrap (p.2.2.2.1 + (1 : Int))), (p.2.2.2.2 ++ ([(IntKind.u8.wrap ((48 : Int) + (Int.fdiv (((UInt8.toNat (List.getD p.1 (Int.toNat p.2.2.2.1) 0) : Nat) : Int)) (2 ^ (min (Int.toNat (4 : Int)) (IntKind.bits IntKind.u8)))))), (IntKind.u8.wrap ((48 : Int) + (bitsN .and .u8 (((UInt8.toNat (List.getD p.1 (Int.toNat p.2.2.2.1) 0) : Nat) : Int)) (15 : Int))))])))))))))))) (cond (decide ((Int.fdiv (((UInt8.toNat (List.getD p.1 (Int.toNat p.2.2.2.1) 0) : Nat) : Int)) (2 ^ (min (Int.toNat (4 : Int)) (IntKind.bits IntKind.u8)))) > (9 : Int))) (some (([] : List UInt8), ((3 : Int), (p.2.2.2.1, ())))) (cond (decide ((bitsN .and .u8 (((UInt8.toNat (List.getD p.1 (Int.toNat p.2.2.2.1) 0) : Nat) : Int)) (15 : Int)) > (9 : Int))) (some (([] : List UInt8), ((3 : Int), (p.2.2.2.1, ())))) (chk (decide ((((List.length p.2.2.2.2) + (List.length ([(IntKind.u8.wrap ((48 : Int) + (Int.fdiv (((UInt8.toNat (List.getD p.1 (Int.toNat p.2.2.2.1) 0) : Nat) : Int)) (2 ^ (min (Int.toNat (4 : Int)) (IntKind.bits IntKind.u8)))))), (IntKind.u8.wrap ((48 : Int) + (bitsN .and .u8 (((UInt8.toNat (List.getD p.1 (Int.toNat p.2.2.2.1) 0) : Nat) : Int)) (15 : Int))))]))) * (1 : Nat)) ≤ (140737488355328 : Nat))) (chk (decide (((List.length p.2.2.2.2) + (List.length ([(IntKind.u8.wrap ((48 : Int) + (Int.fdiv (((UInt8.toNat (List.getD p.1 (Int.toNat p.2.2.2.1) 0) : Nat) : Int)) (2 ^ (min (Int.toNat (4 : Int)) (IntKind.bits IntKind.u8)))))), (IntKind.u8.wrap ((48 : Int) + (bitsN .and .u8 (((UInt8.toNat (List.getD p.1 (Int.toNat p.2.2.2.1) 0) : Nat) : Int)) (15 : Int))))]))) ≤ (9223372036854775807 : Nat))) (R7 (p.1, (p.2.1, (p.2.2.1, ((IntKind.i64.wrap (p.2.2.2.1 + (1 : Int))), (p.2.2.2.2 ++ ([(IntKind.u8.wrap ((48 : Int) + (Int.fdiv (((UInt8.toNat (List.getD p.1 (Int.toNat p.2.2.2.1) 0) : Nat) : Int)) (2 ^ (min (Int.toNat (4 : Int)) (IntKind.bits IntKind.u8)))))), (IntKind.u8.wrap ((48 : Int) + (bitsN .and .u8 (((UInt8.toNat (List.getD p.1 (Int.toNat p.2.2.2.1) 0) : Nat) : Int)) (15 : Int))))])))))))))))) (cond (decide ((Int.fdiv (((UInt8.toNat (List.getD p.1 (Int.toNat p.2.2.2.1) 0) : Nat) : Int)) (2 ^ (min (Int.toNat (4 : Int)) (IntKind.bits IntKind.u8)))) > (9 : Int))) (some (([] : List UInt8), ((3 : Int), (p.2.2.2.1, ())))) (cond (decide ((bitsN .and .u8 (((UInt8.toNat (List.getD p.1 (Int.toNat p.2.2.2.1) 0) : Nat) : Int)) (15 : Int)) > (9 : Int))) (some (([] : List UInt8), ((3 : Int), (p.2.2.2.1, ())))) (chk (decide ((((List.length p.2.2.2.2) + (List.length ([(IntKind.u8.wrap ((48 : Int) + (Int.fdiv (((UInt8.toNat (List.getD p.1 (Int.toNat p.2.2.2.1) 0) : Nat) : Int)) (2 ^ (min (Int.toNat (4 : Int)) (IntKind.bits IntKind.u8)))))), (IntKind.u8.wrap ((48 : Int) + (bitsN .and .u8 (((UInt8.toNat (List.getD p.1 (Int.toNat p.2.2.2.1) 0) : Nat) : Int)) (15 : Int))))]))) * (1 : Nat)) ≤ (140737488355328 : Nat))) (chk (decide (((List.length p.2.2.2.2) + (List.length ([(IntKind.u8.wrap ((48 : Int) + (Int.fdiv (((UInt8.toNat (List.getD p.1 (Int.toNat p.2.2.2.1) 0) : Nat) : Int)) (2 ^ (min (Int.toNat (4 : Int)) (IntKind.bits IntKind.u8)))))), (IntKind.u8.wrap ((48 : Int) + (bitsN .and .u8 (((UInt8.toNat (List.getD p.1 (Int.toNat p.2.2.2.1) 0) : Nat) : Int)) (15 : Int))))]))) ≤ (9223372036854775807 : Nat))) (R7 (p.1, (p.2.1, (p.2.2.1, ((IntKind.i64.wrap (p.2.2.2.1 + (1 : Int))), (p.2.2.2.2 ++ ([(IntKind.u8.wrap ((48 : Int) + (Int.fdiv (((UInt8.toNat (List.getD p.1 (Int.toNat p.2.2.2.1) 0) : Nat) : Int)) (2 ^ (min (Int.toNat (4 : Int)) (IntKind.bits IntKind.u8)))))), (IntKind.u8.wrap ((48 : Int) + (bitsN .and .u8 (((UInt8.toNat (List.getD p.1 (Int.toNat p.2.2.2.1) 0) : Nat) : Int)) (15 : Int))))])))))))))))))))) (chk (decide ((0 : Int) ≤ (Int.tmod p.2.1 (2 : Int)))) (chk (decide ((Int.tmod p.2.1 (2 : Int)) ≤ ((((List.length p.2.2.2.2) : Nat) : Int)))) (some ((List.map toByte (List.drop (Int.toNat (Int.tmod p.2.1 (2 : Int))) p.2.2.2.2)), ((0 : Int), ((0 : Int), ())))))))
def f95_l7 (k : Nat) : f95_t7 → Option f95_r := loopP (fun R7 p => f95_b7 k R7 p) k
def f95_m (k : Nat) (A7 : f95_t7 → Option f95_r) (x : f95_x) : Option f95_r :=
  (cond (decide (x.2.1 < (0 : Int))) (some (([] : List UInt8), ((1 : Int), ((0 : Int), ())))) (cond (decide (x.2.1 > (999 : Int))) (some (([] : List UInt8), ((1 : Int), ((0 : Int), ())))) ((f94 k (x.2.1, ())).bind fun r1 => (cond (decide (((((List.length x.1) : Nat) : Int)) < r1.1)) (some (([] : List UInt8), ((2 : Int), (((((List.length x.1) : Nat) : Int)), ())))) (chk (decide ((0 : Int) ≤ (IntKind.i64.wrap (x.2.1 + (1 : Int))))) (chk (decide (((IntKind.i64.wrap (x.2.1 + (1 : Int))) * (((1 : Nat) : Nat) : Int)) ≤ (281474976710656 : Int))) (chk (decide ((IntKind.i64.wrap (x.2.1 + (1 : Int))) ≤ (9223372036854775807 : Int))) ((f94 k (x.2.1, ())).bind fun r2 => (A7 (x.1, (x.2.1, (r2.1, ((0 : Int), ([] : List Int))))))))))))))
def f95 (k : Nat) (x : f95_x) : Option f95_r := f95_m k (f95_l7 k) x
def f95_lv : Nat → Lp := lps [(7, .keep [0, 1, 7, 30, 31] [])]
def f95_G : Env := findL [(94, ⟨[(.int .i64)], [(.int .i64)], f94, .no⟩)]
theorem f95_e7 (k : Nat) (kn : St → Option f95_r) (p : f95_t7) : stepAt types f95_G f95_lv k Try.f95.ntmps (kns []) 7 (Try.f95.body.getD .skip) (topK types Try.f95 [.str, (.int .i64), (.int .i64)]) (f95_s7 p) kn =
    f95_b7 k (fun p => kn (f95_s7 p)) p := by kernel_rfl
theorem f95_q7 (k : Nat) (n : Nat) (p : f95_t7) : loopAt types f95_G f95_lv k Try.f95.ntmps (kns []) 7 (Try.f95.body.getD .skip) (topK types Try.f95 [.str, (.int .i64), (.int .i64)]) n (f95_s7 p) = loopP (fun R7 p => f95_b7 k R7 p) n p :=
  loopAt_eq (fun kn p => f95_e7 k kn p) n p
theorem f95_e (k : Nat) (x : f95_x) : fnK types f95_G f95_lv k Try.f95 [.str, (.int .i64)] [.str, (.int .i64), (.int .i64)] x =
    f95_m k (fun p => loopAt types f95_G f95_lv k Try.f95.ntmps (kns []) 7 (Try.f95.body.getD .skip) (topK types Try.f95 [.str, (.int .i64), (.int .i64)]) k (f95_s7 p)) x := by kernel_rfl
theorem f95_eq (k : Nat) (x : f95_x) : fnK types f95_G f95_lv k Try.f95 [.str, (.int .i64)] [.str, (.int .i64), (.int .i64)] x = f95 k x :=
  (f95_e k x).trans (congrFun (congrArg (f95_m k) (funext fun p => f95_q7 k k p)) x)
theorem f95_c : Contract Try.prog 95 ⟨[.str, (.int .i64)], [.str, (.int .i64), (.int .i64)], f95, .no⟩ :=
  fn_contract types_all (env_cons f94_c env_nil) mixes (by kernel_rfl) (by kernel_rfl) (by kernel_rfl) (by kernel_rfl) f95_eq

/-! groat/digits.Get -/
abbrev f131_r := Int × Bool × Unit
abbrev f131_x := List UInt8 × Unit
abbrev f131_t5 := Int × List UInt8 × Nat
def f131_s5 (p : f131_t5) : St := [(8, .tv (.f (.c (.v (.int .i64) p.1)))), (40, .tv (.f (.c (.ptr 2280 0)))), (4561, .iter p.2.1 p.2.2)]
def f131_b5 (k : Nat) (R5 : f131_t5 → Option f131_r) (p : f131_t5) : Option f131_r :=
  (cond (decide (p.2.2 < (List.length p.2.1))) (R5 ((IntKind.i64.wrap ((IntKind.i64.wrap ((10 : Int) * p.1)) + (IntKind.i64.wrap (IntKind.i32.wrap (((((decodeAt p.2.1 p.2.2).1 : Nat) : Int)) - (48 : Int)))))), (p.2.1, (p.2.2 + (decodeAt p.2.1 p.2.2).2)))) (some (p.1, (true, ()))))
def f131_l5 (k : Nat) : f131_t5 → Option f131_r := loopP (fun R5 p => f131_b5 k R5 p) k
def f131_m (k : Nat) (A5 : f131_t5 → Option f131_r) (x : f131_x) : Option f131_r :=
  (cond (x.1 == ([] : List UInt8)) (some ((0 : Int), (false, ()))) (cond (decide (((((List.length x.1) : Nat) : Int)) > (18 : Int))) (some ((0 : Int), (false, ()))) ((f108 k (x.1, ())).bind fun r1 => (cond (!r1.1) (some ((0 : Int), (false, ()))) (A5 ((0 : Int), (x.1, (0 : Nat))))))))
def f131 (k : Nat) (x : f131_x) : Option f131_r := f131_m k (f131_l5 k) x
def f131_lv : Nat → Lp := lps [(5, .keep [4, 20] [])]
def f131_G : Env := findL [(108, ⟨[.str], [.bool], f108, .no⟩)]
theorem f131_e5 (k : Nat) (kn : St → Option f131_r) (p : f131_t5) : stepAt types f131_G f131_lv k Try.f131.ntmps (kns []) 5 (Try.f131.body.getD .skip) (topK types Try.f131 [(.int .i64), .bool]) (f131_s5 p) kn =
    f131_b5 k (fun p => kn (f131_s5 p)) p := by kernel_rfl
theorem f131_q5 (k : Nat) (n : Nat) (p : f131_t5) : loopAt types f131_G f131_lv k Try.f131.ntmps (kns []) 5 (Try.f131.body.getD .skip) (topK types Try.f131 [(.int .i64), .bool]) n (f131_s5 p) = loopP (fun R5 p => f131_b5 k R5 p) n p :=
  loopAt_eq (fun kn p => f131_e5 k kn p) n p
theorem f131_e (k : Nat) (x : f131_x) : fnK types f131_G f131_lv k Try.f131 [.str] [(.int .i64), .bool] x =
    f131_m k (fun p => loopAt types f131_G f131_lv k Try.f131.ntmps (kns []) 5 (Try.f131.body.getD .skip) (topK types Try.f131 [(.int .i64), .bool]) k (f131_s5 p)) x := by kernel_rfl
theorem f131_eq (k : Nat) (x : f131_x) : fnK types f131_G f131_lv k Try.f131 [.str] [(.int .i64), .bool] x = f131 k x :=
  (f131_e k x).trans (congrFun (congrArg (f131_m k) (funext fun p => f131_q5 k k p)) x)
theorem f131_c : Contract Try.prog 131 ⟨[.str], [(.int .i64), .bool], f131, .no⟩ :=
  fn_contract types_all (env_cons f108_c env_nil) mixes (by kernel_rfl) (by kernel_rfl) (by kernel_rfl) (by kernel_rfl) f131_eq

/-! groat/prefix.Get -/
abbrev f93_r := Int × Int × Int × Unit
abbrev f93_x := Int × Int × List UInt8 × Int × Unit
def f93_m (k : Nat) (x : f93_x) : Option f93_r :=
  ((f120 k (x.1, (x.2.1, ()))).bind fun r1 => (cond (!r1.1) (some ((0 : Int), ((0 : Int), ((1 : Int), ())))) (cond (decide (x.2.2.2.1 < (0 : Int))) (some ((0 : Int), ((0 : Int), ((1 : Int), ())))) (cond (decide (x.2.2.2.1 > ((((List.length x.2.2.1) : Nat) : Int)))) (some ((0 : Int), ((0 : Int), ((1 : Int), ())))) ((f122 k (x.2.1, ())).bind fun r2 => (cond (x.1 == (2 : Int)) ((f94 k (r2.1, ())).bind fun r3 => (cond (decide ((IntKind.i64.wrap (((((List.length x.2.2.1) : Nat) : Int)) - x.2.2.2.1)) < r3.1)) (some ((0 : Int), ((0 : Int), ((2 : Int), ())))) (chk (decide ((0 : Int) ≤ x.2.2.2.1)) (chk (decide (x.2.2.2.1 ≤ (IntKind.i64.wrap (x.2.2.2.1 + r3.1)))) (chk (decide ((IntKind.i64.wrap (x.2.2.2.1 + r3.1)) ≤ ((((List.length x.2.2.1) : Nat) : Int)))) (cond (x.1 == (2 : Int)) ((f122 k (x.2.1, ())).bind fun r4 => ((f95 k ((List.drop (Int.toNat x.2.2.2.1) (List.take (Int.toNat (IntKind.i64.wrap (x.2.2.2.1 + r3.1))) x.2.2.1)), (r4.1, ()))).bind fun r5 => (cond (r5.2.1 != (0 : Int)) (some ((0 : Int), ((0 : Int), ((3 : Int), ())))) ((f131 k (r5.1, ())).bind fun r6 => (cond (!r6.2.1) (some ((0 : Int), ((0 : Int), ((3 : Int), ())))) (some (r6.1, ((IntKind.i64.wrap (x.2.2.2.1 + r3.1)), ((0 : Int), ()))))))))) ((f131 k ((List.drop (Int.toNat x.2.2.2.1) (List.take (Int.toNat (IntKind.i64.wrap (x.2.2.2.1 + r3.1))) x.2.2.1)), ())).bind fun r7 => (cond (!r7.2.1) (some ((0 : Int), ((0 : Int), ((3 : Int), ())))) (some (r7.1, ((IntKind.i64.wrap (x.2.2.2.1 + r3.1)), ((0 : Int), ())))))))))))) (cond (decide ((IntKind.i64.wrap (((((List.length x.2.2.1) : Nat) : Int)) - x.2.2.2.1)) < r2.1)) (some ((0 : Int), ((0 : Int), ((2 : Int), ())))) (chk (decide ((0 : Int) ≤ x.2.2.2.1)) (chk (decide (x.2.2.2.1 ≤ (IntKind.i64.wrap (x.2.2.2.1 + r2.1)))) (chk (decide ((IntKind.i64.wrap (x.2.2.2.1 + r2.1)) ≤ ((((List.length x.2.2.1) : Nat) : Int)))) (cond (x.1 == (2 : Int)) ((f122 k (x.2.1, ())).bind fun r8 => ((f95 k ((List.drop (Int.toNat x.2.2.2.1) (List.take (Int.toNat (IntKind.i64.wrap (x.2.2.2.1 + r2.1))) x.2.2.1)), (r8.1, ()))).bind fun r9 => (cond (r9.2.1 != (0 : Int)) (some ((0 : Int), ((0 : Int), ((3 : Int), ())))) ((f131 k (r9.1, ())).bind fun r10 => (cond (!r10.2.1) (some ((0 : Int), ((0 : Int), ((3 : Int), ())))) (some (r10.1, ((IntKind.i64.wrap (x.2.2.2.1 + r2.1)), ((0 : Int), ()))))))))) ((f131 k ((List.drop (Int.toNat x.2.2.2.1) (List.take (Int.toNat (IntKind.i64.wrap (x.2.2.2.1 + r2.1))) x.2.2.1)), ())).bind fun r11 => (cond (!r11.2.1) (some ((0 : Int), ((0 : Int), ((3 : Int), ())))) (some (r11.1, ((IntKind.i64.wrap (x.2.2.2.1 + r2.1)), ((0 : Int), ())))))))))))))))))
def f93 (k : Nat) (x : f93_x) : Option f93_r := f93_m k x
def f93_lv : Nat → Lp := lps []
def f93_G : Env := findL [(94, ⟨[(.int .i64)], [(.int .i64)], f94, .no⟩), (95, ⟨[.str, (.int .i64)], [.str, (.int .i64), (.int .i64)], f95, .no⟩), (120, ⟨[(.int .i64), (.int .i64)], [.bool], f120, .no⟩), (122, ⟨[(.int .i64)], [(.int .i64)], f122, .no⟩), (131, ⟨[.str], [(.int .i64), .bool], f131, .no⟩)]
theorem f93_e (k : Nat) (x : f93_x) : fnK types f93_G f93_lv k Try.f93 [(.int .i64), (.int .i64), .str, (.int .i64)] [(.int .i64), (.int .i64), (.int .i64)] x =
    f93_m k x := by kernel_rfl
theorem f93_eq (k : Nat) (x : f93_x) : fnK types f93_G f93_lv k Try.f93 [(.int .i64), (.int .i64), .str, (.int .i64)] [(.int .i64), (.int .i64), (.int .i64)] x = f93 k x :=
  f93_e k x
theorem f93_c : Contract Try.prog 93 ⟨[(.int .i64), (.int .i64), .str, (.int .i64)], [(.int .i64), (.int .i64), (.int .i64)], f93, .no⟩ :=
  fn_contract types_all (env_cons f94_c (env_cons f95_c (env_cons f120_c (env_cons f122_c (env_cons f131_c env_nil))))) mixes (by kernel_rfl) (by kernel_rfl) (by kernel_rfl) (by kernel_rfl) f93_eq

/-! groat/cell.Get -/
abbrev f48_r := List UInt8 × Int × Int × Unit
abbrev f48_x := Int × (Int × Int × Int × Int × Int) × List UInt8 × Int × Unit
def f48_m (k : Nat) (x : f48_x) : Option f48_r :=
  ((f78 k (x.1, ())).bind fun r1 => (cond (!r1.1) (some (([] : List UInt8), ((0 : Int), ((1 : Int), ())))) ((f92 k (x.2.1, ())).bind fun r2 => (cond (r2.1 != (0 : Int)) (some (([] : List UInt8), ((0 : Int), ((1 : Int), ())))) (cond (decide (x.2.2.2.1 < (0 : Int))) (some (([] : List UInt8), ((0 : Int), ((1 : Int), ())))) (cond (decide (x.2.2.2.1 > ((((List.length x.2.2.1) : Nat) : Int)))) (some (([] : List UInt8), ((0 : Int), ((1 : Int), ())))) (cond (x.2.1.2.2.1 != (1 : Int)) ((f93 k (x.1, (x.2.1.2.2.1, (x.2.2.1, (x.2.2.2.1, ()))))).bind fun r3 => (cond (r3.2.2.1 != (0 : Int)) (some (([] : List UInt8), ((0 : Int), (r3.2.2.1, ())))) (cond (decide (r3.1 < x.2.1.2.2.2.1)) (some (([] : List UInt8), ((0 : Int), ((5 : Int), ())))) (cond (decide (r3.1 > x.2.1.2.2.2.2)) (some (([] : List UInt8), ((0 : Int), ((5 : Int), ())))) ((f80 k (x.1, (x.2.1.2.1, ()))).bind fun r4 => (cond (r4.1 == (1 : Int)) ((f94 k (r3.1, ())).bind fun r5 => (cond (decide ((IntKind.i64.wrap (((((List.length x.2.2.1) : Nat) : Int)) - r3.2.1)) < r5.1)) (some (([] : List UInt8), ((0 : Int), ((2 : Int), ())))) (chk (decide ((0 : Int) ≤ r3.2.1)) (chk (decide (r3.2.1 ≤ (IntKind.i64.wrap (r3.2.1 + r5.1)))) (chk (decide ((IntKind.i64.wrap (r3.2.1 + r5.1)) ≤ ((((List.length x.2.2.1) : Nat) : Int)))) ((f80 k (x.1, (x.2.1.2.1, ()))).bind fun r6 => (cond (r6.1 == (1 : Int)) ((f95 k ((List.drop (Int.toNat r3.2.1) (List.take (Int.toNat (IntKind.i64.wrap (r3.2.1 + r5.1))) x.2.2.1)), (r3.1, ()))).bind fun r7 => (cond (r7.2.1 != (0 : Int)) (some (([] : List UInt8), ((0 : Int), (r7.2.1, ())))) ((f65 k (x.2.1, (r7.1, ()))).bind fun r8 => (cond (r8.1 != (0 : Int)) (some (([] : List UInt8), ((0 : Int), (r8.1, ())))) (some (r7.1, ((IntKind.i64.wrap (r3.2.1 + r5.1)), ((0 : Int), ())))))))) (cond (r6.1 == (2 : Int)) ((f96 k ((List.drop (Int.toNat r3.2.1) (List.take (Int.toNat (IntKind.i64.wrap (r3.2.1 + r5.1))) x.2.2.1)), ())).bind fun r9 => (cond (!r9.2.2.1) (some (([] : List UInt8), ((0 : Int), ((3 : Int), ())))) ((f65 k (x.2.1, (r9.1, ()))).bind fun r10 => (cond (r10.1 != (0 : Int)) (some (([] : List UInt8), ((0 : Int), (r10.1, ())))) (some (r9.1, ((IntKind.i64.wrap (r3.2.1 + r5.1)), ((0 : Int), ())))))))) ((f65 k (x.2.1, ((List.drop (Int.toNat r3.2.1) (List.take (Int.toNat (IntKind.i64.wrap (r3.2.1 + r5.1))) x.2.2.1)), ()))).bind fun r11 => (cond (r11.1 != (0 : Int)) (some (([] : List UInt8), ((0 : Int), (r11.1, ())))) (some ((List.drop (Int.toNat r3.2.1) (List.take (Int.toNat (IntKind.i64.wrap (r3.2.1 + r5.1))) x.2.2.1)), ((IntKind.i64.wrap (r3.2.1 + r5.1)), ((0 : Int), ())))))))))))))) (cond (r4.1 == (2 : Int)) (cond (decide ((IntKind.i64.wrap (((((List.length x.2.2.1) : Nat) : Int)) - r3.2.1)) < (IntKind.i64.wrap ((2 : Int) * r3.1)))) (some (([] : List UInt8), ((0 : Int), ((2 : Int), ())))) (chk (decide ((0 : Int) ≤ r3.2.1)) (chk (decide (r3.2.1 ≤ (IntKind.i64.wrap (r3.2.1 + (IntKind.i64.wrap ((2 : Int) * r3.1)))))) (chk (decide ((IntKind.i64.wrap (r3.2.1 + (IntKind.i64.wrap ((2 : Int) * r3.1)))) ≤ ((((List.length x.2.2.1) : Nat) : Int)))) ((f80 k (x.1, (x.2.1.2.1, ()))).bind fun r12 => (cond (r12.1 == (1 : Int)) ((f95 k ((List.drop (Int.toNat r3.2.1) (List.take (Int.toNat (IntKind.i64.wrap (r3.2.1 + (IntKind.i64.wrap ((2 : Int) * r3.1))))) x.2.2.1)), (r3.1, ()))).bind fun r13 => (cond (r13.2.1 != (0 : Int)) (some (([] : List UInt8), ((0 : Int), (r13.2.1, ())))) ((f65 k (x.2.1, (r13.1, ()))).bind fun r14 => (cond (r14.1 != (0 : Int)) (some (([] : List UInt8), ((0 : Int), (r14.1, ())))) (some (r13.1, ((IntKind.i64.wrap (r3.2.1 + (IntKind.i64.wrap ((2 : Int) * r3.1)))), ((0 : Int), ())))))))) (cond (r12.1 == (2 : Int)) ((f96 k ((List.drop (Int.toNat r3.2.1) (List.take (Int.toNat (IntKind.i64.wrap (r3.2.1 + (IntKind.i64.wrap ((2 : Int) * r3.1))))) x.2.2.1)), ())).bind fun r15 => (cond (!r15.2.2.1) (some (([] : List UInt8), ((0 : Int), ((3 : Int), ())))) ((f65 k (x.2.1, (r15.1, ()))).bind fun r16 => (cond (r16.1 != (0 : Int)) (some (([] : List UInt8), ((0 : Int), (r16.1, ())))) (some (r15.1, ((IntKind.i64.wrap (r3.2.1 + (IntKind.i64.wrap ((2 : Int) * r3.1)))), ((0 : Int), ())))))))) ((f65 k (x.2.1, ((List.drop (Int.toNat r3.2.1) (List.take (Int.toNat (IntKind.i64.wrap (r3.2.1 + (IntKind.i64.wrap ((2 : Int) * r3.1))))) x.2.2.1)), ()))).bind fun r17 => (cond (r17.1 != (0 : Int)) (some (([] : List UInt8), ((0 : Int), (r17.1, ())))) (some ((List.drop (Int.toNat r3.2.1) (List.take (Int.toNat (IntKind.i64.wrap (r3.2.1 + (IntKind.i64.wrap ((2 : Int) * r3.1))))) x.2.2.1)), ((IntKind.i64.wrap (r3.2.1 + (IntKind.i64.wrap ((2 : Int) * r3.1)))), ((0 : Int), ()))))))))))))) (cond (decide ((IntKind.i64.wrap (((((List.length x.2.2.1) : Nat) : Int)) - r3.2.1)) < r3.1)) (some (([] : List UInt8), ((0 : Int), ((2 : Int), ())))) (chk (decide ((0 : Int) ≤ r3.2.1)) (chk (decide (r3.2.1 ≤ (IntKind.i64.wrap (r3.2.1 + r3.1)))) (chk (decide ((IntKind.i64.wrap (r3.2.1 + r3.1)) ≤ ((((List.length x.2.2.1) : Nat) : Int)))) ((f80 k (x.1, (x.2.1.2.1, ()))).bind fun r18 => (cond (r18.1 == (1 : Int)) ((f95 k ((List.drop (Int.toNat r3.2.1) (List.take (Int.toNat (IntKind.i64.wrap (r3.2.1 + r3.1))) x.2.2.1)), (r3.1, ()))).bind fun r19 => (cond (r19.2.1 != (0 : Int)) (some (([] : List UInt8), ((0 : Int), (r19.2.1, ())))) ((f65 k (x.2.1, (r19.1, ()))).bind fun r20 => (cond (r20.1 != (0 : Int)) (some (([] : List UInt8), ((0 : Int), (r20.1, ())))) (some (r19.1, ((IntKind.i64.wrap (r3.2.1 + r3.1)), ((0 : Int), ())))))))) (cond (r18.1 == (2 : Int)) ((f96 k ((List.drop (Int.toNat r3.2.1) (List.take (Int.toNat (IntKind.i64.wrap (r3.2.1 + r3.1))) x.2.2.1)), ())).bind fun r21 => (cond (!r21.2.2.1) (some (([] : List UInt8), ((0 : Int), ((3 : Int), ())))) ((f65 k (x.2.1, (r21.1, ()))).bind fun r22 => (cond (r22.1 != (0 : Int)) (some (([] : List UInt8), ((0 : Int), (r22.1, ())))) (some (r21.1, ((IntKind.i64.wrap (r3.2.1 + r3.1)), ((0 : Int), ())))))))) ((f65 k (x.2.1, ((List.drop (Int.toNat r3.2.1) (List.take (Int.toNat (IntKind.i64.wrap (r3.2.1 + r3.1))) x.2.2.1)), ()))).bind fun r23 => (cond (r23.1 != (0 : Int)) (some (([] : List UInt8), ((0 : Int), (r23.1, ())))) (some ((List.drop (Int.toNat r3.2.1) (List.take (Int.toNat (IntKind.i64.wrap (r3.2.1 + r3.1))) x.2.2.1)), ((IntKind.i64.wrap (r3.2.1 + r3.1)), ((0 : Int), ())))))))))))))))))))) ((f80 k (x.1, (x.2.1.2.1, ()))).bind fun r24 => (cond (r24.1 == (1 : Int)) ((f94 k (x.2.1.2.2.2.1, ())).bind fun r25 => (cond (decide ((IntKind.i64.wrap (((((List.length x.2.2.1) : Nat) : Int)) - x.2.2.2.1)) < r25.1)) (some (([] : List UInt8), ((0 : Int), ((2 : Int), ())))) (chk (decide ((0 : Int) ≤ x.2.2.2.1)) (chk (decide (x.2.2.2.1 ≤ (IntKind.i64.wrap (x.2.2.2.1 + r25.1)))) (chk (decide ((IntKind.i64.wrap (x.2.2.2.1 + r25.1)) ≤ ((((List.length x.2.2.1) : Nat) : Int)))) ((f80 k (x.1, (x.2.1.2.1, ()))).bind fun r26 => (cond (r26.1 == (1 : Int)) ((f95 k ((List.drop (Int.toNat x.2.2.2.1) (List.take (Int.toNat (IntKind.i64.wrap (x.2.2.2.1 + r25.1))) x.2.2.1)), (x.2.1.2.2.2.1, ()))).bind fun r27 => (cond (r27.2.1 != (0 : Int)) (some (([] : List UInt8), ((0 : Int), (r27.2.1, ())))) ((f65 k (x.2.1, (r27.1, ()))).bind fun r28 => (cond (r28.1 != (0 : Int)) (some (([] : List UInt8), ((0 : Int), (r28.1, ())))) (some (r27.1, ((IntKind.i64.wrap (x.2.2.2.1 + r25.1)), ((0 : Int), ())))))))) (cond (r26.1 == (2 : Int)) ((f96 k ((List.drop (Int.toNat x.2.2.2.1) (List.take (Int.toNat (IntKind.i64.wrap (x.2.2.2.1 + r25.1))) x.2.2.1)), ())).bind fun r29 => (cond (!r29.2.2.1) (some (([] : List UInt8), ((0 : Int), ((3 : Int), ())))) ((f65 k (x.2.1, (r29.1, ()))).bind fun r30 => (cond (r30.1 != (0 : Int)) (some (([] : List UInt8), ((0 : Int), (r30.1, ())))) (some (r29.1, ((IntKind.i64.wrap (x.2.2.2.1 + r25.1)), ((0 : Int), ())))))))) ((f65 k (x.2.1, ((List.drop (Int.toNat x.2.2.2.1) (List.take (Int.toNat (IntKind.i64.wrap (x.2.2.2.1 + r25.1))) x.2.2.1)), ()))).bind fun r31 => (cond (r31.1 != (0 : Int)) (some (([] : List UInt8), ((0 : Int), (r31.1, ())))) (some ((List.drop (Int.toNat x.2.2.2.1) (List.take (Int.toNat (IntKind.i64.wrap (x.2.2.2.1 + r25.1))) x.2.2.1)), ((IntKind.i64.wrap (x.2.2.2.1 + r25.1)), ((0 : Int), ())))))))))))))) (cond (r24.1 == (2 : Int)) (cond (decide ((IntKind.i64.wrap (((((List.length x.2.2.1) : Nat) : Int)) - x.2.2.2.1)) < (IntKind.i64.wrap ((2 : Int) * x.2.1.2.2.2.1)))) (some (([] : List UInt8), ((0 : Int), ((2 : Int), ())))) (chk (decide ((0 : Int) ≤ x.2.2.2.1)) (chk (decide (x.2.2.2.1 ≤ (IntKind.i64.wrap (x.2.2.2.1 + (IntKind.i64.wrap ((2 : Int) * x.2.1.2.2.2.1)))))) (chk (decide ((IntKind.i64.wrap (x.2.2.2.1 + (IntKind.i64.wrap ((2 : Int) * x.2.1.2.2.2.1)))) ≤ ((((List.length x.2.2.1) : Nat) : Int)))) ((f80 k (x.1, (x.2.1.2.1, ()))).bind fun r32 => (cond (r32.1 == (1 : Int)) ((f95 k ((List.drop (Int.toNat x.2.2.2.1) (List.take (Int.toNat (IntKind.i64.wrap (x.2.2.2.1 + (IntKind.i64.wrap ((2 : Int) * x.2.1.2.2.2.1))))) x.2.2.1)), (x.2.1.2.2.2.1, ()))).bind fun r33 => (cond (r33.2.1 != (0 : Int)) (some (([] : List UInt8), ((0 : Int), (r33.2.1, ())))) ((f65 k (x.2.1, (r33.1, ()))).bind fun r34 => (cond (r34.1 != (0 : Int)) (some (([] : List UInt8), ((0 : Int), (r34.1, ())))) (some (r33.1, ((IntKind.i64.wrap (x.2.2.2.1 + (IntKind.i64.wrap ((2 : Int) * x.2.1.2.2.2.1)))), ((0 : Int), ())))))))) (cond (r32.1 == (2 : Int)) ((f96 k ((List.drop (Int.toNat x.2.2.2.1) (List.take (Int.toNat (IntKind.i64.wrap (x.2.2.2.1 + (IntKind.i64.wrap ((2 : Int) * x.2.1.2.2.2.1))))) x.2.2.1)), ())).bind fun r35 => (cond (!r35.2.2.1) (some (([] : List UInt8), ((0 : Int), ((3 : Int), ())))) ((f65 k (x.2.1, (r35.1, ()))).bind fun r36 => (cond (r36.1 != (0 : Int)) (some (([] : List UInt8), ((0 : Int), (r36.1, ())))) (some (r35.1, ((IntKind.i64.wrap (x.2.2.2.1 + (IntKind.i64.wrap ((2 : Int) * x.2.1.2.2.2.1)))), ((0 : Int), ())))))))) ((f65 k (x.2.1, ((List.drop (Int.toNat x.2.2.2.1) (List.take (Int.toNat (IntKind.i64.wrap (x.2.2.2.1 + (IntKind.i64.wrap ((2 : Int) * x.2.1.2.2.2.1))))) x.2.2.1)), ()))).bind fun r37 => (cond (r37.1 != (0 : Int)) (some (([] : List UInt8), ((0 : Int), (r37.1, ())))) (some ((List.drop (Int.toNat x.2.2.2.1) (List.take (Int.toNat (IntKind.i64.wrap (x.2.2.2.1 + (IntKind.i64.wrap ((2 : Int) * x.2.1.2.2.2.1))))) x.2.2.1)), ((IntKind.i64.wrap (x.2.2.2.1 + (IntKind.i64.wrap ((2 : Int) * x.2.1.2.2.2.1)))), ((0 : Int), ()))))))))))))) (cond (decide ((IntKind.i64.wrap (((((List.length x.2.2.1) : Nat) : Int)) - x.2.2.2.1)) < x.2.1.2.2.2.1)) (some (([] : List UInt8), ((0 : Int), ((2 : Int), ())))) (chk (decide ((0 : Int) ≤ x.2.2.2.1)) (chk (decide (x.2.2.2.1 ≤ (IntKind.i64.wrap (x.2.2.2.1 + x.2.1.2.2.2.1)))) (chk (decide ((IntKind.i64.wrap (x.2.2.2.1 + x.2.1.2.2.2.1)) ≤ ((((List.length x.2.2.1) : Nat) : Int)))) ((f80 k (x.1, (x.2.1.2.1, ()))).bind fun r38 => (cond (r38.1 == (1 : Int)) ((f95 k ((List.drop (Int.toNat x.2.2.2.1) (List.take (Int.toNat (IntKind.i64.wrap (x.2.2.2.1 + x.2.1.2.2.2.1))) x.2.2.1)), (x.2.1.2.2.2.1, ()))).bind fun r39 => (cond (r39.2.1 != (0 : Int)) (some (([] : List UInt8), ((0 : Int), (r39.2.1, ())))) ((f65 k (x.2.1, (r39.1, ()))).bind fun r40 => (cond (r40.1 != (0 : Int)) (some (([] : List UInt8), ((0 : Int), (r40.1, ())))) (some (r39.1, ((IntKind.i64.wrap (x.2.2.2.1 + x.2.1.2.2.2.1)), ((0 : Int), ())))))))) (cond (r38.1 == (2 : Int)) ((f96 k ((List.drop (Int.toNat x.2.2.2.1) (List.take (Int.toNat (IntKind.i64.wrap (x.2.2.2.1 + x.2.1.2.2.2.1))) x.2.2.1)), ())).bind fun r41 => (cond (!r41.2.2.1) (some (([] : List UInt8), ((0 : Int), ((3 : Int), ())))) ((f65 k (x.2.1, (r41.1, ()))).bind fun r42 => (cond (r42.1 != (0 : Int)) (some (([] : List UInt8), ((0 : Int), (r42.1, ())))) (some (r41.1, ((IntKind.i64.wrap (x.2.2.2.1 + x.2.1.2.2.2.1)), ((0 : Int), ())))))))) ((f65 k (x.2.1, ((List.drop (Int.toNat x.2.2.2.1) (List.take (Int.toNat (IntKind.i64.wrap (x.2.2.2.1 + x.2.1.2.2.2.1))) x.2.2.1)), ()))).bind fun r43 => (cond (r43.1 != (0 : Int)) (some (([] : List UInt8), ((0 : Int), (r43.1, ())))) (some ((List.drop (Int.toNat x.2.2.2.1) (List.take (Int.toNat (IntKind.i64.wrap (x.2.2.2.1 + x.2.1.2.2.2.1))) x.2.2.1)), ((IntKind.i64.wrap (x.2.2.2.1 + x.2.1.2.2.2.1)), ((0 : Int), ())))))))))))))))))))))))
def f48 (k : Nat) (x : f48_x) : Option f48_r := f48_m k x
def f48_lv : Nat → Lp := lps []
def f48_G : Env := findL [(65, ⟨[y66, .str], [(.int .i64)], f65, .no⟩), (78, ⟨[(.int .i64)], [.bool], f78, .no⟩), (80, ⟨[(.int .i64), (.int .i64)], [(.int .i64)], f80, .no⟩), (92, ⟨[y66], [(.int .i64)], f92, .no⟩), (93, ⟨[(.int .i64), (.int .i64), .str, (.int .i64)], [(.int .i64), (.int .i64), (.int .i64)], f93, .no⟩), (94, ⟨[(.int .i64)], [(.int .i64)], f94, .no⟩), (95, ⟨[.str, (.int .i64)], [.str, (.int .i64), (.int .i64)], f95, .no⟩), (96, ⟨[.str], [.str, (.int .i64), .bool], f96, .no⟩)]
theorem f48_e (k : Nat) (x : f48_x) : fnK types f48_G f48_lv k Try.f48 [(.int .i64), y66, .str, (.int .i64)] [.str, (.int .i64), (.int .i64)] x =
    f48_m k x := by kernel_rfl
theorem f48_eq (k : Nat) (x : f48_x) : fnK types f48_G f48_lv k Try.f48 [(.int .i64), y66, .str, (.int .i64)] [.str, (.int .i64), (.int .i64)] x = f48 k x :=
  f48_e k x
theorem f48_c : Contract Try.prog 48 ⟨[(.int .i64), y66, .str, (.int .i64)], [.str, (.int .i64), (.int .i64)], f48, .no⟩ :=
  fn_contract types_all (env_cons f65_c (env_cons f78_c (env_cons f80_c (env_cons f92_c (env_cons f93_c (env_cons f94_c (env_cons f95_c (env_cons f96_c env_nil)))))))) mixes (by kernel_rfl) (by kernel_rfl) (by kernel_rfl) (by kernel_rfl) f48_eq

/-! groat/groatlaw17.WireParts -/
abbrev f12_r := Bool × Unit
abbrev f12_x := (Int × Int × List (Int × Int × Int × Int × Int)) × (List UInt8 × List (Int × List UInt8)) × Unit
abbrev f12_t13 := List UInt8 × Int × List (Int × List UInt8) × Int × Int × Int × Int × List (Int × Int × Int × Int × Int)
def f12_s13 (p : f12_t13) : St := [(4, .tv (.f (.c (.ptr 1128 0)))), (10, .tv (.f (.c (.v .str p.1)))), (20, .tv (.f (.c (.v (.int .i64) p.2.1)))), (166, .tv (.f (.c (.v (.sl (.pair (.int .i64) .str)) p.2.2.1)))), (168, .tv (.f (.c (.v (.int .i64) p.2.2.2.1)))), (170, .tv (.f (.c (.v (.int .i64) p.2.2.2.2.1)))), (2257, .box [.v (.int .i64) p.2.2.2.2.2.1, .v (.int .i64) p.2.2.2.2.2.2.1, .v (.sl y66) p.2.2.2.2.2.2.2])]
def f12_b13 (k : Nat) (R13 : f12_t13 → Option f12_r) (p : f12_t13) : Option f12_r :=
  (cond (decide (p.2.2.2.2.1 < p.2.2.2.1)) (chk (decide ((0 : Int) ≤ p.2.2.2.2.1)) (chk (decide (p.2.2.2.2.1 < ((((List.length p.2.2.1) : Nat) : Int)))) ((f40 k (p.2.2.2.2.2, ((List.getD p.2.2.1 (Int.toNat p.2.2.2.2.1) ((0 : Int), ([] : List UInt8))).1, ()))).bind fun r10 => ((f48 k (p.2.2.2.2.2.1, (r10.1, (p.1, (p.2.1, ()))))).bind fun r11 => (cond (r11.2.2.1 != (0 : Int)) (some (false, ())) (cond (!(r11.1 == (List.getD p.2.2.1 (Int.toNat p.2.2.2.2.1) ((0 : Int), ([] : List UInt8))).2)) (some (false, ())) (cond (decide (r11.2.1 ≤ p.2.1)) (some (false, ())) (R13 (p.1, (r11.2.1, (p.2.2.1, (p.2.2.2.1, ((IntKind.i64.wrap (p.2.2.2.2.1 + (1 : Int))), p.2.2.2.2.2))))))))))))) (some ((p.2.1 == ((((List.length p.1) : Nat) : Int))), ())))
def f12_l13 (k : Nat) : f12_t13 → Option f12_r := loopP (fun R13 p => f12_b13 k R13 p) k
def f12_m (k : Nat) (A13 : f12_t13 → Option f12_r) (x : f12_x) : Option f12_r :=
  ((f32 k ()).bind fun r1 => (cond (!r1.1) ((f32 k ()).bind fun r2 => (some (r2.1, ()))) (cond (decide (((((List.length x.1.2.2) : Nat) : Int)) > (200 : Int))) ((f32 k ()).bind fun r3 => (some (r3.1, ()))) ((f19 k (x.2.1, ())).bind fun r4 => (cond r4.1 ((f32 k ()).bind fun r5 => (some (r5.1, ()))) ((f36 k (x.1, (x.2.1, ()))).bind fun r6 => (cond (!((r6.2.1.1 == (0 : Int)) && ((r6.2.1.2 == (0 : Int)) && true))) (some ((r6.1 == ([] : List UInt8)), ())) ((f33 k (x.1.1, (x.2.1.1, ()))).bind fun r7 => (cond (decide (((((List.length r6.1) : Nat) : Int)) < ((((List.length r7.1) : Nat) : Int)))) (some (false, ())) (chk (decide ((0 : Int) ≤ ((((List.length r7.1) : Nat) : Int)))) (chk (decide (((((List.length r7.1) : Nat) : Int)) ≤ ((((List.length r6.1) : Nat) : Int)))) (cond (!((List.drop (0 : Nat) (List.take (Int.toNat ((((List.length r7.1) : Nat) : Int))) r6.1)) == r7.1)) (some (false, ())) ((f47 k (x.1.1, (r6.1, (((((List.length r7.1) : Nat) : Int)), ())))).bind fun r8 => (cond (r8.2.2.1 != (0 : Int)) (some (false, ())) ((f42 k (x.2.1, ())).bind fun r9 => (cond (!((r8.1.1 == r9.1.1) && ((r8.1.2 == r9.1.2) && true))) (some (false, ())) (A13 (r6.1, (r8.2.1, (x.2.1.2, (((((List.length x.2.1.2) : Nat) : Int)), ((0 : Int), x.1))))))))))))))))))))))
def f12 (k : Nat) (x : f12_x) : Option f12_r := f12_m k (f12_l13 k) x
def f12_lv : Nat → Lp := lps [(13, .keep [2, 5, 10, 83, 84, 85] [])]
def f12_G : Env := findL [(19, ⟨[y34], [.bool], f19, .no⟩), (32, ⟨[], [.bool], f32, .no⟩), (33, ⟨[(.int .i64), .str], [.str, .bool], f33, .no⟩), (36, ⟨[(.pair (.int .i64) (.pair (.int .i64) (.sl y66))), y34], [.str, (.pair (.int .i64) (.int .i64))], f36, .no⟩), (40, ⟨[(.pair (.int .i64) (.pair (.int .i64) (.sl y66))), (.int .i64)], [y66, .bool], f40, .no⟩), (42, ⟨[y34], [(.pair (.int .u64) (.int .u64))], f42, .no⟩), (47, ⟨[(.int .i64), .str, (.int .i64)], [(.pair (.int .u64) (.int .u64)), (.int .i64), (.int .i64)], f47, .no⟩), (48, ⟨[(.int .i64), y66, .str, (.int .i64)], [.str, (.int .i64), (.int .i64)], f48, .no⟩)]
theorem f12_e13 (k : Nat) (kn : St → Option f12_r) (p : f12_t13) : stepAt types f12_G f12_lv k Try.f12.ntmps (kns []) 13 (Try.f12.body.getD .skip) (topK types Try.f12 [.bool]) (f12_s13 p) kn =
    f12_b13 k (fun p => kn (f12_s13 p)) p := by kernel_rfl
theorem f12_q13 (k : Nat) (n : Nat) (p : f12_t13) : loopAt types f12_G f12_lv k Try.f12.ntmps (kns []) 13 (Try.f12.body.getD .skip) (topK types Try.f12 [.bool]) n (f12_s13 p) = loopP (fun R13 p => f12_b13 k R13 p) n p :=
  loopAt_eq (fun kn p => f12_e13 k kn p) n p
theorem f12_e (k : Nat) (x : f12_x) : fnK types f12_G f12_lv k Try.f12 [(.pair (.int .i64) (.pair (.int .i64) (.sl y66))), y34] [.bool] x =
    f12_m k (fun p => loopAt types f12_G f12_lv k Try.f12.ntmps (kns []) 13 (Try.f12.body.getD .skip) (topK types Try.f12 [.bool]) k (f12_s13 p)) x := by kernel_rfl
theorem f12_eq (k : Nat) (x : f12_x) : fnK types f12_G f12_lv k Try.f12 [(.pair (.int .i64) (.pair (.int .i64) (.sl y66))), y34] [.bool] x = f12 k x :=
  (f12_e k x).trans (congrFun (congrArg (f12_m k) (funext fun p => f12_q13 k k p)) x)
theorem f12_c : Contract Try.prog 12 ⟨[(.pair (.int .i64) (.pair (.int .i64) (.sl y66))), y34], [.bool], f12, .no⟩ :=
  fn_contract types_all (env_cons f19_c (env_cons f32_c (env_cons f33_c (env_cons f36_c (env_cons f40_c (env_cons f42_c (env_cons f47_c (env_cons f48_c env_nil)))))))) mixes (by kernel_rfl) (by kernel_rfl) (by kernel_rfl) (by kernel_rfl) f12_eq
end Go.Ab
