import Derived.Test.YtnifcbofkodjeaaWaAbTy
set_option maxRecDepth 100000
set_option linter.unusedVariables false
namespace Go.Ab
open Go.Proofs
/-! groat/msg.Get -/
abbrev f26_r := List UInt8 × Bool × Unit
abbrev f26_x := (List UInt8 × List (Int × List UInt8)) × Int × Unit
abbrev f26_t2 := Int × List (Int × List UInt8) × Int × Int
def f26_s2 (p : f26_t2) : St := [(2, .tv (.f (.c (.v (.int .i64) p.1)))), (18, .tv (.f (.c (.v (.sl (.pair (.int .i64) .str)) p.2.1)))), (20, .tv (.f (.c (.v (.int .i64) p.2.2.1)))), (22, .tv (.f (.c (.v (.int .i64) p.2.2.2))))]
def f26_b2 (k : Nat) (R2 : f26_t2 → Option f26_r) (p : f26_t2) : Option f26_r :=
  (cond (decide (p.2.2.2 < p.2.2.1)) (chk (decide ((0 : Int) ≤ p.2.2.2)) (chk (decide (p.2.2.2 < ((((List.length p.2.1) : Nat) : Int)))) (cond ((List.getD p.2.1 (Int.toNat p.2.2.2) ((0 : Int), ([] : List UInt8))).1 == p.1) (some ((List.getD p.2.1 (Int.toNat p.2.2.2) ((0 : Int), ([] : List UInt8))).2, (true, ()))) (R2 (p.1, (p.2.1, (p.2.2.1, (IntKind.i64.wrap (p.2.2.2 + (1 : Int)))))))))) (some (([] : List UInt8), (false, ()))))
def f26_l2 (k : Nat) : f26_t2 → Option f26_r := loopP (fun R2 p => f26_b2 k R2 p) k
def f26_m (k : Nat) (A2 : f26_t2 → Option f26_r) (x : f26_x) : Option f26_r :=
  (A2 (x.2.1, (x.1.2, (((((List.length x.1.2) : Nat) : Int)), (0 : Int)))))
def f26 (k : Nat) (x : f26_x) : Option f26_r := f26_m k (f26_l2 k) x
def f26_lv : Nat → Lp := lps [(2, .keep [1, 9, 10, 11] [])]
def f26_G : Env := findL []
theorem f26_e2 (k : Nat) (kn : St → Option f26_r) (p : f26_t2) : stepAt types f26_G f26_lv k Try.f26.ntmps (kns []) 2 (Try.f26.body.getD .skip) (topK types Try.f26 [.str, .bool]) (f26_s2 p) kn =
    f26_b2 k (fun p => kn (f26_s2 p)) p := by kernel_rfl
theorem f26_q2 (k : Nat) (n : Nat) (p : f26_t2) : loopAt types f26_G f26_lv k Try.f26.ntmps (kns []) 2 (Try.f26.body.getD .skip) (topK types Try.f26 [.str, .bool]) n (f26_s2 p) = loopP (fun R2 p => f26_b2 k R2 p) n p :=
  loopAt_eq (fun kn p => f26_e2 k kn p) n p
theorem f26_e (k : Nat) (x : f26_x) : fnK types f26_G f26_lv k Try.f26 [y34, (.int .i64)] [.str, .bool] x =
    f26_m k (fun p => loopAt types f26_G f26_lv k Try.f26.ntmps (kns []) 2 (Try.f26.body.getD .skip) (topK types Try.f26 [.str, .bool]) k (f26_s2 p)) x := by kernel_rfl
theorem f26_eq (k : Nat) (x : f26_x) : fnK types f26_G f26_lv k Try.f26 [y34, (.int .i64)] [.str, .bool] x = f26 k x :=
  (f26_e k x).trans (congrFun (congrArg (f26_m k) (funext fun p => f26_q2 k k p)) x)
theorem f26_c : Contract Try.prog 26 ⟨[y34, (.int .i64)], [.str, .bool], f26, .no⟩ :=
  fn_contract types_all env_nil mixes (by kernel_rfl) (by kernel_rfl) (by kernel_rfl) (by kernel_rfl) f26_eq

/-! groat/reject.Code -/
abbrev f27_r := List UInt8 × Unit
abbrev f27_x := ((Int × Int × List (Int × Int × Int × Int × Int)) × (List (List UInt8 × List UInt8) × List (Int × Int × Int × List UInt8 × List (List UInt8 × List UInt8))) × List Int × List (Int × List UInt8)) × Int × Unit
abbrev f27_t5 := Int × Int × Int × List (Int × List UInt8) × Int × Int × Int × Int × List (Int × Int × Int × Int × Int) × List (List UInt8 × List UInt8) × List (Int × Int × Int × List UInt8 × List (List UInt8 × List UInt8)) × List Int × List (Int × List UInt8) × List Int
abbrev f27_t2 := Int × Int × Int × Int × List (Int × Int × Int × Int × Int) × List (List UInt8 × List UInt8) × List (Int × Int × Int × List UInt8 × List (List UInt8 × List UInt8)) × List Int × List (Int × List UInt8) × List Int
def f27_s5 (p : f27_t5) : St := [(4, .tv (.f (.c (.ptr 1128 0)))), (12, .tv (.f (.c (.v (.int .i64) p.1)))), (20, .tv (.f (.c (.own 1640)))), (22, .tv (.f (.c (.v (.int .i64) p.2.1)))), (24, .tv (.f (.c (.v (.int .i64) p.2.2.1)))), (34, .tv (.f (.c (.v (.sl (.pair (.int .i64) .str)) p.2.2.2.1)))), (36, .tv (.f (.c (.v (.int .i64) p.2.2.2.2.1)))), (38, .tv (.f (.c (.v (.int .i64) p.2.2.2.2.2.1)))), (2257, .box [.v (.int .i64) p.2.2.2.2.2.2.1, .v (.int .i64) p.2.2.2.2.2.2.2.1, .v (.sl y66) p.2.2.2.2.2.2.2.2.1, .v (.sl (.pair .str .str)) p.2.2.2.2.2.2.2.2.2.1, .v (.sl y207) p.2.2.2.2.2.2.2.2.2.2.1, .v (.sl (.int .i64)) p.2.2.2.2.2.2.2.2.2.2.2.1, .v (.sl (.pair (.int .i64) .str)) p.2.2.2.2.2.2.2.2.2.2.2.2.1]), (3281, .row 36 (.int .i64) p.2.2.2.2.2.2.2.2.2.2.2.2.2)]
def f27_b5 (k : Nat) (R2 : f27_t2 → Option f27_r) (R5 : f27_t5 → Option f27_r) (p : f27_t5) : Option f27_r :=
  (cond (decide (p.2.2.2.2.2.1 < p.2.2.2.2.1)) (chk (decide ((0 : Int) ≤ p.2.2.2.2.2.1)) (chk (decide (p.2.2.2.2.2.1 < ((((List.length p.2.2.2.1) : Nat) : Int)))) (cond ((List.getD p.2.2.2.1 (Int.toNat p.2.2.2.2.2.1) ((0 : Int), ([] : List UInt8))).1 == p.1) (some ((List.getD p.2.2.2.1 (Int.toNat p.2.2.2.2.2.1) ((0 : Int), ([] : List UInt8))).2, ())) (R5 (p.1, (p.2.1, (p.2.2.1, (p.2.2.2.1, (p.2.2.2.2.1, ((IntKind.i64.wrap (p.2.2.2.2.2.1 + (1 : Int))), p.2.2.2.2.2.2)))))))))) (R2 (p.2.1, ((IntKind.i64.wrap (p.2.2.1 + (1 : Int))), p.2.2.2.2.2.2))))
def f27_l5 (k : Nat) (R2 : f27_t2 → Option f27_r) : f27_t5 → Option f27_r := loopP (fun R5 p => f27_b5 k R2 R5 p) k
def f27_s2 (p : f27_t2) : St := [(4, .tv (.f (.c (.ptr 1128 0)))), (20, .tv (.f (.c (.own 1640)))), (22, .tv (.f (.c (.v (.int .i64) p.1)))), (24, .tv (.f (.c (.v (.int .i64) p.2.1)))), (2257, .box [.v (.int .i64) p.2.2.1, .v (.int .i64) p.2.2.2.1, .v (.sl y66) p.2.2.2.2.1, .v (.sl (.pair .str .str)) p.2.2.2.2.2.1, .v (.sl y207) p.2.2.2.2.2.2.1, .v (.sl (.int .i64)) p.2.2.2.2.2.2.2.1, .v (.sl (.pair (.int .i64) .str)) p.2.2.2.2.2.2.2.2.1]), (3281, .row 36 (.int .i64) p.2.2.2.2.2.2.2.2.2)]
def f27_b2 (k : Nat) (A5 : f27_t5 → Option f27_r) (R2 : f27_t2 → Option f27_r) (p : f27_t2) : Option f27_r :=
  (cond (decide (p.2.1 < p.1)) (chk (decide ((0 : Int) ≤ p.2.1)) (chk (decide (p.2.1 < ((((List.length p.2.2.2.2.2.2.2.2.2) : Nat) : Int)))) (chk (decide ((Int.toNat p.2.1) < (List.length p.2.2.2.2.2.2.2.2.2))) (A5 ((List.getD p.2.2.2.2.2.2.2.2.2 (Int.toNat p.2.1) (0 : Int)), (p.1, (p.2.1, (p.2.2.2.2.2.2.2.2.1, (((((List.length p.2.2.2.2.2.2.2.2.1) : Nat) : Int)), ((0 : Int), p.2.2)))))))))) (some (([] : List UInt8), ())))
def f27_l2 (k : Nat) : f27_t2 → Option f27_r := loopP (fun R2 p => f27_b2 k (f27_l5 k R2) R2 p) k
def f27_m (k : Nat) (A2 : f27_t2 → Option f27_r) (x : f27_x) : Option f27_r :=
  (A2 (((((List.length ([x.2.1, (0 : Int)])) : Nat) : Int)), ((0 : Int), (x.1.1.1, (x.1.1.2.1, (x.1.1.2.2, (x.1.2.1.1, (x.1.2.1.2, (x.1.2.2.1, (x.1.2.2.2, ([x.2.1, (0 : Int)])))))))))))
def f27 (k : Nat) (x : f27_x) : Option f27_r := f27_m k (f27_l2 k) x
def f27_lv : Nat → Lp := lps [(5, .keep [2, 6, 10, 11, 12, 17, 18, 19] []), (2, .keep [2, 10, 11, 12] [])]
def f27_G : Env := findL []
theorem f27_e5 (k : Nat) (K2 : St → Option f27_r) (kn : St → Option f27_r) (p : f27_t5) : stepAt types f27_G f27_lv k Try.f27.ntmps (kns [(2, K2)]) 5 (Try.f27.body.getD .skip) (topK types Try.f27 [.str]) (f27_s5 p) kn =
    f27_b5 k (fun p => K2 (f27_s2 p)) (fun p => kn (f27_s5 p)) p := by kernel_rfl
theorem f27_q5 (k : Nat) (K2 : St → Option f27_r) (n : Nat) (p : f27_t5) : loopAt types f27_G f27_lv k Try.f27.ntmps (kns [(2, K2)]) 5 (Try.f27.body.getD .skip) (topK types Try.f27 [.str]) n (f27_s5 p) = loopP (fun R5 p => f27_b5 k (fun p => K2 (f27_s2 p)) R5 p) n p :=
  loopAt_eq (fun kn p => f27_e5 k K2 kn p) n p
theorem f27_e2 (k : Nat) (kn : St → Option f27_r) (p : f27_t2) : stepAt types f27_G f27_lv k Try.f27.ntmps (kns []) 2 (Try.f27.body.getD .skip) (topK types Try.f27 [.str]) (f27_s2 p) kn =
    f27_b2 k (fun p => loopAt types f27_G f27_lv k Try.f27.ntmps (kns [(2, kn)]) 5 (Try.f27.body.getD .skip) (topK types Try.f27 [.str]) k (f27_s5 p)) (fun p => kn (f27_s2 p)) p := by kernel_rfl
theorem f27_q2 (k : Nat) (n : Nat) (p : f27_t2) : loopAt types f27_G f27_lv k Try.f27.ntmps (kns []) 2 (Try.f27.body.getD .skip) (topK types Try.f27 [.str]) n (f27_s2 p) = loopP (fun R2 p => f27_b2 k (f27_l5 k R2) R2 p) n p :=
  loopAt_eq (fun kn p => (f27_e2 k kn p).trans (congrFun (congrFun (congrArg (f27_b2 k) (funext fun p => f27_q5 k kn k p)) _) _)) n p
theorem f27_e (k : Nat) (x : f27_x) : fnK types f27_G f27_lv k Try.f27 [(.pair (.pair (.int .i64) (.pair (.int .i64) (.sl y66))) (.pair (.pair (.sl (.pair .str .str)) (.sl y207)) (.pair (.sl (.int .i64)) (.sl (.pair (.int .i64) .str))))), (.int .i64)] [.str] x =
    f27_m k (fun p => loopAt types f27_G f27_lv k Try.f27.ntmps (kns []) 2 (Try.f27.body.getD .skip) (topK types Try.f27 [.str]) k (f27_s2 p)) x := by kernel_rfl
theorem f27_eq (k : Nat) (x : f27_x) : fnK types f27_G f27_lv k Try.f27 [(.pair (.pair (.int .i64) (.pair (.int .i64) (.sl y66))) (.pair (.pair (.sl (.pair .str .str)) (.sl y207)) (.pair (.sl (.int .i64)) (.sl (.pair (.int .i64) .str))))), (.int .i64)] [.str] x = f27 k x :=
  (f27_e k x).trans (congrFun (congrArg (f27_m k) (funext fun p => f27_q2 k k p)) x)
theorem f27_c : Contract Try.prog 27 ⟨[(.pair (.pair (.int .i64) (.pair (.int .i64) (.sl y66))) (.pair (.pair (.sl (.pair .str .str)) (.sl y207)) (.pair (.sl (.int .i64)) (.sl (.pair (.int .i64) .str))))), (.int .i64)], [.str], f27, .no⟩ :=
  fn_contract types_all env_nil mixes (by kernel_rfl) (by kernel_rfl) (by kernel_rfl) (by kernel_rfl) f27_eq

/-! groat/msg.With$1 -/
abbrev f77_r := Bool × Unit
abbrev f77_x := (Int × List UInt8) × Int × Unit
def f77_m (k : Nat) (x : f77_x) : Option f77_r :=
  (some ((decide (x.1.1 > x.2.1)), ()))
def f77 (k : Nat) (x : f77_x) : Option f77_r := f77_m k x
def f77_lv : Nat → Lp := lps []
def f77_G : Env := findL []
theorem f77_e (k : Nat) (x : f77_x) : fnK types f77_G f77_lv k Try.f77 [(.pair (.int .i64) .str), (.refp (.int .i64))] [.bool] x =
    f77_m k x := by kernel_rfl
theorem f77_eq (k : Nat) (x : f77_x) : fnK types f77_G f77_lv k Try.f77 [(.pair (.int .i64) .str), (.refp (.int .i64))] [.bool] x = f77 k x :=
  f77_e k x
theorem f77_c : Contract Try.prog 77 ⟨[(.pair (.int .i64) .str), (.refp (.int .i64))], [.bool], f77, .no⟩ :=
  fn_contract types_all env_nil mixes (by kernel_rfl) (by kernel_rfl) (by kernel_rfl) (by kernel_rfl) f77_eq

/-! groat/msg.Without -/
abbrev f38_r := (List UInt8 × List (Int × List UInt8)) × Unit
abbrev f38_x := (List UInt8 × List (Int × List UInt8)) × Int × Unit
abbrev f38_t3 := Int × List (Int × List UInt8) × Int × Int × List UInt8 × List UInt8 × List (Int × List UInt8)
def f38_s3 (p : f38_t3) : St := [(2, .tv (.f (.c (.v (.int .i64) p.1)))), (8, .tv (.f (.c (.ptr 1256 0)))), (10, .tv (.f (.c (.ptr 1320 0)))), (24, .tv (.f (.c (.v (.sl (.pair (.int .i64) .str)) p.2.1)))), (26, .tv (.f (.c (.v (.int .i64) p.2.2.1)))), (28, .tv (.f (.c (.v (.int .i64) p.2.2.2.1)))), (2513, .box [.v .str p.2.2.2.2.1, .nil]), (2641, .box [.v .str p.2.2.2.2.2.1, .own 184481]), (368963, .row 63 (.pair (.int .i64) .str) p.2.2.2.2.2.2)]
def f38_b3 (k : Nat) (R3 : f38_t3 → Option f38_r) (p : f38_t3) : Option f38_r :=
  (cond (decide (p.2.2.2.1 < p.2.2.1)) (chk (decide ((0 : Int) ≤ p.2.2.2.1)) (chk (decide (p.2.2.2.1 < ((((List.length p.2.1) : Nat) : Int)))) (cond ((List.getD p.2.1 (Int.toNat p.2.2.2.1) ((0 : Int), ([] : List UInt8))).1 != p.1) (chk (decide ((((List.length p.2.2.2.2.2.2) + (List.length ([(List.getD p.2.1 (Int.toNat p.2.2.2.1) ((0 : Int), ([] : List UInt8)))]))) * (24 : Nat)) ≤ (140737488355328 : Nat))) (chk (decide (((List.length p.2.2.2.2.2.2) + (List.length ([(List.getD p.2.1 (Int.toNat p.2.2.2.1) ((0 : Int), ([] : List UInt8)))]))) ≤ (9223372036854775807 : Nat))) (R3 (p.1, (p.2.1, (p.2.2.1, ((IntKind.i64.wrap (p.2.2.2.1 + (1 : Int))), (p.2.2.2.2.1, (p.2.2.2.2.2.1, (p.2.2.2.2.2.2 ++ ([(List.getD p.2.1 (Int.toNat p.2.2.2.1) ((0 : Int), ([] : List UInt8)))]))))))))))) (R3 (p.1, (p.2.1, (p.2.2.1, ((IntKind.i64.wrap (p.2.2.2.1 + (1 : Int))), p.2.2.2.2)))))))) (some (p.2.2.2.2.2, ())))
def f38_l3 (k : Nat) : f38_t3 → Option f38_r := loopP (fun R3 p => f38_b3 k R3 p) k
def f38_m (k : Nat) (A3 : f38_t3 → Option f38_r) (x : f38_x) : Option f38_r :=
  (A3 (x.2.1, (x.1.2, (((((List.length x.1.2) : Nat) : Int)), ((0 : Int), (([] : List UInt8), (x.1.1, ([] : List (Int × List UInt8)))))))))
def f38 (k : Nat) (x : f38_x) : Option f38_r := f38_m k (f38_l3 k) x
def f38_lv : Nat → Lp := lps [(3, .keep [1, 4, 5, 12, 13, 14] [(2641, 1, .own 63 469025)])]
def f38_G : Env := findL []
theorem f38_e3 (k : Nat) (kn : St → Option f38_r) (p : f38_t3) : stepAt types f38_G f38_lv k Try.f38.ntmps (kns []) 3 (Try.f38.body.getD .skip) (topK types Try.f38 [y34]) (f38_s3 p) kn =
    f38_b3 k (fun p => kn (f38_s3 p)) p := by kernel_rfl
theorem f38_q3 (k : Nat) (n : Nat) (p : f38_t3) : loopAt types f38_G f38_lv k Try.f38.ntmps (kns []) 3 (Try.f38.body.getD .skip) (topK types Try.f38 [y34]) n (f38_s3 p) = loopP (fun R3 p => f38_b3 k R3 p) n p :=
  loopAt_eq (fun kn p => f38_e3 k kn p) n p
theorem f38_e (k : Nat) (x : f38_x) : fnK types f38_G f38_lv k Try.f38 [y34, (.int .i64)] [y34] x =
    f38_m k (fun p => loopAt types f38_G f38_lv k Try.f38.ntmps (kns []) 3 (Try.f38.body.getD .skip) (topK types Try.f38 [y34]) k (f38_s3 p)) x := by kernel_rfl
theorem f38_eq (k : Nat) (x : f38_x) : fnK types f38_G f38_lv k Try.f38 [y34, (.int .i64)] [y34] x = f38 k x :=
  (f38_e k x).trans (congrFun (congrArg (f38_m k) (funext fun p => f38_q3 k k p)) x)
theorem f38_c : Contract Try.prog 38 ⟨[y34, (.int .i64)], [y34], f38, .no⟩ :=
  fn_contract types_all env_nil mixes (by kernel_rfl) (by kernel_rfl) (by kernel_rfl) (by kernel_rfl) f38_eq

/-! slices.IndexFunc[[]groat/api.Value,groat/api.Value] -/
abbrev f76_r := Int × Unit
abbrev f76_x := List (Int × List UInt8) × Int × Unit
abbrev f76_t2 := List (Int × List UInt8) × Int × Int × Int
def f76_s2 (p : f76_t2) : St := [(0, .tv (.f (.c (.v (.sl (.pair (.int .i64) .str)) p.1)))), (2, .tv (.f (.c (.v (.fn 77 (.int .i64)) p.2.1)))), (14, .tv (.f (.c (.v (.int .i64) p.2.2.1)))), (16, .tv (.f (.c (.v (.int .i64) p.2.2.2))))]
def f76_b2 (k : Nat) (R2 : f76_t2 → Option f76_r) (p : f76_t2) : Option f76_r :=
  (cond (decide (p.2.2.2 < p.2.2.1)) (chk (decide ((0 : Int) ≤ p.2.2.2)) (chk (decide (p.2.2.2 < ((((List.length p.1) : Nat) : Int)))) ((f77 k ((List.getD p.1 (Int.toNat p.2.2.2) ((0 : Int), ([] : List UInt8))), (p.2.1, ()))).bind fun r1 => (cond r1.1 (some (p.2.2.2, ())) (R2 (p.1, (p.2.1, (p.2.2.1, (IntKind.i64.wrap (p.2.2.2 + (1 : Int))))))))))) (some ((-1 : Int), ())))
def f76_l2 (k : Nat) : f76_t2 → Option f76_r := loopP (fun R2 p => f76_b2 k R2 p) k
def f76_m (k : Nat) (A2 : f76_t2 → Option f76_r) (x : f76_x) : Option f76_r :=
  (A2 (x.1, (x.2.1, (((((List.length x.1) : Nat) : Int)), (0 : Int)))))
def f76 (k : Nat) (x : f76_x) : Option f76_r := f76_m k (f76_l2 k) x
def f76_lv : Nat → Lp := lps [(2, .keep [0, 1, 7, 8] [])]
def f76_G : Env := findL [(77, ⟨[(.pair (.int .i64) .str), (.refp (.int .i64))], [.bool], f77, .no⟩)]
theorem f76_e2 (k : Nat) (kn : St → Option f76_r) (p : f76_t2) : stepAt types f76_G f76_lv k Try.f76.ntmps (kns []) 2 (Try.f76.body.getD .skip) (topK types Try.f76 [(.int .i64)]) (f76_s2 p) kn =
    f76_b2 k (fun p => kn (f76_s2 p)) p := by kernel_rfl
theorem f76_q2 (k : Nat) (n : Nat) (p : f76_t2) : loopAt types f76_G f76_lv k Try.f76.ntmps (kns []) 2 (Try.f76.body.getD .skip) (topK types Try.f76 [(.int .i64)]) n (f76_s2 p) = loopP (fun R2 p => f76_b2 k R2 p) n p :=
  loopAt_eq (fun kn p => f76_e2 k kn p) n p
theorem f76_e (k : Nat) (x : f76_x) : fnK types f76_G f76_lv k Try.f76 [(.sl (.pair (.int .i64) .str)), (.fn 77 (.int .i64))] [(.int .i64)] x =
    f76_m k (fun p => loopAt types f76_G f76_lv k Try.f76.ntmps (kns []) 2 (Try.f76.body.getD .skip) (topK types Try.f76 [(.int .i64)]) k (f76_s2 p)) x := by kernel_rfl
theorem f76_eq (k : Nat) (x : f76_x) : fnK types f76_G f76_lv k Try.f76 [(.sl (.pair (.int .i64) .str)), (.fn 77 (.int .i64))] [(.int .i64)] x = f76 k x :=
  (f76_e k x).trans (congrFun (congrArg (f76_m k) (funext fun p => f76_q2 k k p)) x)
theorem f76_c : Contract Try.prog 76 ⟨[(.sl (.pair (.int .i64) .str)), (.fn 77 (.int .i64))], [(.int .i64)], f76, .no⟩ :=
  fn_contract types_all (env_cons f77_c env_nil) mixes (by kernel_rfl) (by kernel_rfl) (by kernel_rfl) (by kernel_rfl) f76_eq

/-! groat/msg.With -/
abbrev f39_r := (List UInt8 × List (Int × List UInt8)) × Unit
abbrev f39_x := (List UInt8 × List (Int × List UInt8)) × Int × List UInt8 × Unit
def f39_m (k : Nat) (x : f39_x) : Option f39_r :=
  ((f38 k (x.1, (x.2.1, ()))).bind fun r1 => ((f76 k (r1.1.2, (x.2.1, ()))).bind fun r2 => (cond (decide (r2.1 < (0 : Int))) (chk (decide ((0 : Int) ≤ (IntKind.i64.wrap (((((List.length r1.1.2) : Nat) : Int)) + (1 : Int))))) (chk (decide ((IntKind.i64.wrap (((((List.length r1.1.2) : Nat) : Int)) + (1 : Int))) ≤ (IntKind.i64.wrap (((((List.length r1.1.2) : Nat) : Int)) + (1 : Int))))) (chk (decide (((IntKind.i64.wrap (((((List.length r1.1.2) : Nat) : Int)) + (1 : Int))) * (((24 : Nat) : Nat) : Int)) ≤ (281474976710656 : Int))) (chk (decide ((IntKind.i64.wrap (((((List.length r1.1.2) : Nat) : Int)) + (1 : Int))) ≤ (9223372036854775807 : Int))) (chk (decide ((0 : Int) ≤ ((((List.length r1.1.2) : Nat) : Int)))) (chk (decide (((((List.length r1.1.2) : Nat) : Int)) ≤ ((((List.length r1.1.2) : Nat) : Int)))) (chk (decide ((0 : Int) ≤ ((((List.length r1.1.2) : Nat) : Int)))) (chk (decide (((((List.length r1.1.2) : Nat) : Int)) < ((((List.length (laid 0 (min (List.length (List.drop (0 : Nat) (List.take (Int.toNat ((((List.length r1.1.2) : Nat) : Int))) r1.1.2))) (List.length (List.replicate (Int.toNat (IntKind.i64.wrap (((((List.length r1.1.2) : Nat) : Int)) + (1 : Int)))) ((0 : Int), ([] : List UInt8))))) (List.replicate (Int.toNat (IntKind.i64.wrap (((((List.length r1.1.2) : Nat) : Int)) + (1 : Int)))) ((0 : Int), ([] : List UInt8))) (List.drop (0 : Nat) (List.take (Int.toNat ((((List.length r1.1.2) : Nat) : Int))) r1.1.2)))) : Nat) : Int)))) (chk (decide ((Int.toNat ((((List.length r1.1.2) : Nat) : Int))) < (List.length (laid 0 (min (List.length (List.drop (0 : Nat) (List.take (Int.toNat ((((List.length r1.1.2) : Nat) : Int))) r1.1.2))) (List.length (List.replicate (Int.toNat (IntKind.i64.wrap (((((List.length r1.1.2) : Nat) : Int)) + (1 : Int)))) ((0 : Int), ([] : List UInt8))))) (List.replicate (Int.toNat (IntKind.i64.wrap (((((List.length r1.1.2) : Nat) : Int)) + (1 : Int)))) ((0 : Int), ([] : List UInt8))) (List.drop (0 : Nat) (List.take (Int.toNat ((((List.length r1.1.2) : Nat) : Int))) r1.1.2)))))) (chk (decide ((0 : Int) ≤ (IntKind.i64.wrap (((((List.length r1.1.2) : Nat) : Int)) + (1 : Int))))) (chk (decide ((IntKind.i64.wrap (((((List.length r1.1.2) : Nat) : Int)) + (1 : Int))) ≤ ((((List.length (List.set (laid 0 (min (List.length (List.drop (0 : Nat) (List.take (Int.toNat ((((List.length r1.1.2) : Nat) : Int))) r1.1.2))) (List.length (List.replicate (Int.toNat (IntKind.i64.wrap (((((List.length r1.1.2) : Nat) : Int)) + (1 : Int)))) ((0 : Int), ([] : List UInt8))))) (List.replicate (Int.toNat (IntKind.i64.wrap (((((List.length r1.1.2) : Nat) : Int)) + (1 : Int)))) ((0 : Int), ([] : List UInt8))) (List.drop (0 : Nat) (List.take (Int.toNat ((((List.length r1.1.2) : Nat) : Int))) r1.1.2))) (Int.toNat ((((List.length r1.1.2) : Nat) : Int))) (x.2.1, x.2.2.1))) : Nat) : Int)))) (chk (decide ((0 : Int) ≤ ((((List.length r1.1.2) : Nat) : Int)))) (chk (decide (((((List.length r1.1.2) : Nat) : Int)) ≤ ((((List.length r1.1.2) : Nat) : Int)))) (chk (decide (((((List.length r1.1.2) : Nat) : Int)) ≤ ((((List.length r1.1.2) : Nat) : Int)))) (chk (decide ((Int.toNat (IntKind.i64.wrap (((((List.length r1.1.2) : Nat) : Int)) + (1 : Int)))) ≤ (List.length (List.set (laid 0 (min (List.length (List.drop (0 : Nat) (List.take (Int.toNat ((((List.length r1.1.2) : Nat) : Int))) r1.1.2))) (List.length (List.replicate (Int.toNat (IntKind.i64.wrap (((((List.length r1.1.2) : Nat) : Int)) + (1 : Int)))) ((0 : Int), ([] : List UInt8))))) (List.replicate (Int.toNat (IntKind.i64.wrap (((((List.length r1.1.2) : Nat) : Int)) + (1 : Int)))) ((0 : Int), ([] : List UInt8))) (List.drop (0 : Nat) (List.take (Int.toNat ((((List.length r1.1.2) : Nat) : Int))) r1.1.2))) (Int.toNat ((((List.length r1.1.2) : Nat) : Int))) (x.2.1, x.2.2.1))))) (some ((x.1.1, (laid (Int.toNat (IntKind.i64.wrap (((((List.length r1.1.2) : Nat) : Int)) + (1 : Int)))) (min (List.length (List.drop (Int.toNat ((((List.length r1.1.2) : Nat) : Int))) (List.take (Int.toNat ((((List.length r1.1.2) : Nat) : Int))) r1.1.2))) ((List.length (List.set (laid 0 (min (List.length (List.drop (0 : Nat) (List.take (Int.toNat ((((List.length r1.1.2) : Nat) : Int))) r1.1.2))) (List.length (List.replicate (Int.toNat (IntKind.i64.wrap (((((List.length r1.1.2) : Nat) : Int)) + (1 : Int)))) ((0 : Int), ([] : List UInt8))))) (List.replicate (Int.toNat (IntKind.i64.wrap (((((List.length r1.1.2) : Nat) : Int)) + (1 : Int)))) ((0 : Int), ([] : List UInt8))) (List.drop (0 : Nat) (List.take (Int.toNat ((((List.length r1.1.2) : Nat) : Int))) r1.1.2))) (Int.toNat ((((List.length r1.1.2) : Nat) : Int))) (x.2.1, x.2.2.1))) - (Int.toNat (IntKind.i64.wrap (((((List.length r1.1.2) : Nat) : Int)) + (1 : Int)))))) (List.set (laid 0 (min (List.length (List.drop (0 : Nat) (List.take (Int.toNat ((((List.length r1.1.2) : Nat) : Int))) r1.1.2))) (List.length (List.replicate (Int.toNat (IntKind.i64.wrap (((((List.length r1.1.2) : Nat) : Int)) + (1 : Int)))) ((0 : Int), ([] : List UInt8))))) (List.replicate (Int.toNat (IntKind.i64.wrap (((((List.length r1.1.2) : Nat) : Int)) + (1 : Int)))) ((0 : Int), ([] : List UInt8))) (List.drop (0 : Nat) (List.take (Int.toNat ((((List.length r1.1.2) : Nat) : Int))) r1.1.2))) (Int.toNat ((((List.length r1.1.2) : Nat) : Int))) (x.2.1, x.2.2.1)) (List.drop (Int.toNat ((((List.length r1.1.2) : Nat) : Int))) (List.take (Int.toNat ((((List.length r1.1.2) : Nat) : Int))) r1.1.2)))), ()))))))))))))))))) (chk (decide ((0 : Int) ≤ (IntKind.i64.wrap (((((List.length r1.1.2) : Nat) : Int)) + (1 : Int))))) (chk (decide ((IntKind.i64.wrap (((((List.length r1.1.2) : Nat) : Int)) + (1 : Int))) ≤ (IntKind.i64.wrap (((((List.length r1.1.2) : Nat) : Int)) + (1 : Int))))) (chk (decide (((IntKind.i64.wrap (((((List.length r1.1.2) : Nat) : Int)) + (1 : Int))) * (((24 : Nat) : Nat) : Int)) ≤ (281474976710656 : Int))) (chk (decide ((IntKind.i64.wrap (((((List.length r1.1.2) : Nat) : Int)) + (1 : Int))) ≤ (9223372036854775807 : Int))) (chk (decide ((0 : Int) ≤ r2.1)) (chk (decide (r2.1 ≤ ((((List.length r1.1.2) : Nat) : Int)))) (chk (decide ((0 : Int) ≤ r2.1)) (chk (decide (r2.1 < ((((List.length (laid 0 (min (List.length (List.drop (0 : Nat) (List.take (Int.toNat r2.1) r1.1.2))) (List.length (List.replicate (Int.toNat (IntKind.i64.wrap (((((List.length r1.1.2) : Nat) : Int)) + (1 : Int)))) ((0 : Int), ([] : List UInt8))))) (List.replicate (Int.toNat (IntKind.i64.wrap (((((List.length r1.1.2) : Nat) : Int)) + (1 : Int)))) ((0 : Int), ([] : List UInt8))) (List.drop (0 : Nat) (List.take (Int.toNat r2.1) r1.1.2)))) : Nat) : Int)))) (chk (decide ((Int.toNat r2.1) < (List.length (laid 0 (min (List.length (List.drop (0 : Nat) (List.take (Int.toNat r2.1) r1.1.2))) (List.length (List.replicate (Int.toNat (IntKind.i64.wrap (((((List.length r1.1.2) : Nat) : Int)) + (1 : Int)))) ((0 : Int), ([] : List UInt8))))) (List.replicate (Int.toNat (IntKind.i64.wrap (((((List.length r1.1.2) : Nat) : Int)) + (1 : Int)))) ((0 : Int), ([] : List UInt8))) (List.drop (0 : Nat) (List.take (Int.toNat r2.1) r1.1.2)))))) (chk (decide ((0 : Int) ≤ (IntKind.i64.wrap (r2.1 + (1 : Int))))) (chk (decide ((IntKind.i64.wrap (r2.1 + (1 : Int))) ≤ ((((List.length (List.set (laid 0 (min (List.length (List.drop (0 : Nat) (List.take (Int.toNat r2.1) r1.1.2))) (List.length (List.replicate (Int.toNat (IntKind.i64.wrap (((((List.length r1.1.2) : Nat) : Int)) + (1 : Int)))) ((0 : Int), ([] : List UInt8))))) (List.replicate (Int.toNat (IntKind.i64.wrap (((((List.length r1.1.2) : Nat) : Int)) + (1 : Int)))) ((0 : Int), ([] : List UInt8))) (List.drop (0 : Nat) (List.take (Int.toNat r2.1) r1.1.2))) (Int.toNat r2.1) (x.2.1, x.2.2.1))) : Nat) : Int)))) (chk (decide ((0 : Int) ≤ r2.1)) (chk (decide (r2.1 ≤ ((((List.length r1.1.2) : Nat) : Int)))) (chk (decide (((((List.length r1.1.2) : Nat) : Int)) ≤ ((((List.length r1.1.2) : Nat) : Int)))) (chk (decide ((Int.toNat (IntKind.i64.wrap (r2.1 + (1 : Int)))) ≤ (List.length (List.set (laid 0 (min (List.length (List.drop (0 : Nat) (List.take (Int.toNat r2.1) r1.1.2))) (List.length (List.replicate (Int.toNat (IntKind.i64.wrap (((((List.length r1.1.2) : Nat) : Int)) + (1 : Int)))) ((0 : Int), ([] : List UInt8))))) (List.replicate (Int.toNat (IntKind.i64.wrap (((((List.length r1.1.2) : Nat) : Int)) + (1 : Int)))) ((0 : Int), ([] : List UInt8))) (List.drop (0 : Nat) (List.take (Int.toNat r2.1) r1.1.2))) (Int.toNat r2.1) (x.2.1, x.2.2.1))))) (some ((x.1.1, (laid (Int.toNat (IntKind.i64.wrap (r2.1 + (1 : Int)))) (min (List.length (List.drop (Int.toNat r2.1) (List.take (Int.toNat ((((List.length r1.1.2) : Nat) : Int))) r1.1.2))) ((List.length (List.set (laid 0 (min (List.length (List.drop (0 : Nat) (List.take (Int.toNat r2.1) r1.1.2))) (List.length (List.replicate (Int.toNat (IntKind.i64.wrap (((((List.length r1.1.2) : Nat) : Int)) + (1 : Int)))) ((0 : Int), ([] : List UInt8))))) (List.replicate (Int.toNat (IntKind.i64.wrap (((((List.length r1.1.2) : Nat) : Int)) + (1 : Int)))) ((0 : Int), ([] : List UInt8))) (List.drop (0 : Nat) (List.take (Int.toNat r2.1) r1.1.2))) (Int.toNat r2.1) (x.2.1, x.2.2.1))) - (Int.toNat (IntKind.i64.wrap (r2.1 + (1 : Int)))))) (List.set (laid 0 (min (List.length (List.drop (0 : Nat) (List.take (Int.toNat r2.1) r1.1.2))) (List.length (List.replicate (Int.toNat (IntKind.i64.wrap (((((List.length r1.1.2) : Nat) : Int)) + (1 : Int)))) ((0 : Int), ([] : List UInt8))))) (List.replicate (Int.toNat (IntKind.i64.wrap (((((List.length r1.1.2) : Nat) : Int)) + (1 : Int)))) ((0 : Int), ([] : List UInt8))) (List.drop (0 : Nat) (List.take (Int.toNat r2.1) r1.1.2))) (Int.toNat r2.1) (x.2.1, x.2.2.1)) (List.drop (Int.toNat r2.1) (List.take (Int.toNat ((((List.length r1.1.2) : Nat) : Int))) r1.1.2)))), ()))))))))))))))))))))
def f39 (k : Nat) (x : f39_x) : Option f39_r := f39_m k x
def f39_lv : Nat → Lp := lps []
def f39_G : Env := findL [(38, ⟨[y34, (.int .i64)], [y34], f38, .no⟩), (76, ⟨[(.sl (.pair (.int .i64) .str)), (.fn 77 (.int .i64))], [(.int .i64)], f76, .no⟩), (77, ⟨[(.pair (.int .i64) .str), (.refp (.int .i64))], [.bool], f77, .no⟩)]
theorem f39_e (k : Nat) (x : f39_x) : fnK types f39_G f39_lv k Try.f39 [y34, (.int .i64), .str] [y34] x =
    f39_m k x := by kernel_rfl
theorem f39_eq (k : Nat) (x : f39_x) : fnK types f39_G f39_lv k Try.f39 [y34, (.int .i64), .str] [y34] x = f39 k x :=
  f39_e k x
theorem f39_c : Contract Try.prog 39 ⟨[y34, (.int .i64), .str], [y34], f39, .no⟩ :=
  fn_contract types_all (env_cons f38_c (env_cons f76_c (env_cons f77_c env_nil))) mixes (by kernel_rfl) (by kernel_rfl) (by kernel_rfl) (by kernel_rfl) f39_eq

/-! groat/digits.All -/
abbrev f108_r := Bool × Unit
abbrev f108_x := List UInt8 × Unit
abbrev f108_t2 := List UInt8 × Nat
def f108_s2 (p : f108_t2) : St := [(12, .tv (.f (.c (.ptr 1384 0)))), (2769, .iter p.1 p.2)]
def f108_b2 (k : Nat) (R2 : f108_t2 → Option f108_r) (p : f108_t2) : Option f108_r :=
  (cond (decide (p.2 < (List.length p.1))) (cond (decide (((((decodeAt p.1 p.2).1 : Nat) : Int)) < (48 : Int))) (some (false, ())) (cond (decide (((((decodeAt p.1 p.2).1 : Nat) : Int)) > (57 : Int))) (some (false, ())) (R2 (p.1, (p.2 + (decodeAt p.1 p.2).2))))) (some (true, ())))
def f108_l2 (k : Nat) : f108_t2 → Option f108_r := loopP (fun R2 p => f108_b2 k R2 p) k
def f108_m (k : Nat) (A2 : f108_t2 → Option f108_r) (x : f108_x) : Option f108_r :=
  (A2 (x.1, (0 : Nat)))
def f108 (k : Nat) (x : f108_x) : Option f108_r := f108_m k (f108_l2 k) x
def f108_lv : Nat → Lp := lps [(2, .keep [6] [])]
def f108_G : Env := findL []
theorem f108_e2 (k : Nat) (kn : St → Option f108_r) (p : f108_t2) : stepAt types f108_G f108_lv k Try.f108.ntmps (kns []) 2 (Try.f108.body.getD .skip) (topK types Try.f108 [.bool]) (f108_s2 p) kn =
    f108_b2 k (fun p => kn (f108_s2 p)) p := by kernel_rfl
theorem f108_q2 (k : Nat) (n : Nat) (p : f108_t2) : loopAt types f108_G f108_lv k Try.f108.ntmps (kns []) 2 (Try.f108.body.getD .skip) (topK types Try.f108 [.bool]) n (f108_s2 p) = loopP (fun R2 p => f108_b2 k R2 p) n p :=
  loopAt_eq (fun kn p => f108_e2 k kn p) n p
theorem f108_e (k : Nat) (x : f108_x) : fnK types f108_G f108_lv k Try.f108 [.str] [.bool] x =
    f108_m k (fun p => loopAt types f108_G f108_lv k Try.f108.ntmps (kns []) 2 (Try.f108.body.getD .skip) (topK types Try.f108 [.bool]) k (f108_s2 p)) x := by kernel_rfl
theorem f108_eq (k : Nat) (x : f108_x) : fnK types f108_G f108_lv k Try.f108 [.str] [.bool] x = f108 k x :=
  (f108_e k x).trans (congrFun (congrArg (f108_m k) (funext fun p => f108_q2 k k p)) x)
theorem f108_c : Contract Try.prog 108 ⟨[.str], [.bool], f108, .no⟩ :=
  fn_contract types_all env_nil mixes (by kernel_rfl) (by kernel_rfl) (by kernel_rfl) (by kernel_rfl) f108_eq

/-! groat/mti.Right -/
abbrev f62_r := Bool × Unit
abbrev f62_x := List UInt8 × Unit
def f62_m (k : Nat) (x : f62_x) : Option f62_r :=
  (cond (((((List.length x.1) : Nat) : Int)) == (4 : Int)) ((f108 k (x.1, ())).bind fun r1 => (some (r1.1, ()))) (some (false, ())))
def f62 (k : Nat) (x : f62_x) : Option f62_r := f62_m k x
def f62_lv : Nat → Lp := lps []
def f62_G : Env := findL [(108, ⟨[.str], [.bool], f108, .no⟩)]
theorem f62_e (k : Nat) (x : f62_x) : fnK types f62_G f62_lv k Try.f62 [.str] [.bool] x =
    f62_m k x := by kernel_rfl
theorem f62_eq (k : Nat) (x : f62_x) : fnK types f62_G f62_lv k Try.f62 [.str] [.bool] x = f62 k x :=
  f62_e k x
theorem f62_c : Contract Try.prog 62 ⟨[.str], [.bool], f62, .no⟩ :=
  fn_contract types_all (env_cons f108_c env_nil) mixes (by kernel_rfl) (by kernel_rfl) (by kernel_rfl) (by kernel_rfl) f62_eq

/-! groat/mti.Request -/
abbrev f30_r := Bool × Unit
abbrev f30_x := List UInt8 × Unit
def f30_m (k : Nat) (x : f30_x) : Option f30_r :=
  ((f62 k (x.1, ())).bind fun r1 => (cond r1.1 (chk (decide ((2 : Int) < ((((List.length x.1) : Nat) : Int)))) (cond ((((UInt8.toNat (List.getD x.1 (2 : Nat) 0) : Nat) : Int)) == (48 : Int)) (some (true, ())) (chk (decide ((2 : Int) < ((((List.length x.1) : Nat) : Int)))) (some (((((UInt8.toNat (List.getD x.1 (2 : Nat) 0) : Nat) : Int)) == (50 : Int)), ()))))) (some (false, ()))))
def f30 (k : Nat) (x : f30_x) : Option f30_r := f30_m k x
def f30_lv : Nat → Lp := lps []
def f30_G : Env := findL [(62, ⟨[.str], [.bool], f62, .no⟩)]
theorem f30_e (k : Nat) (x : f30_x) : fnK types f30_G f30_lv k Try.f30 [.str] [.bool] x =
    f30_m k x := by kernel_rfl
theorem f30_eq (k : Nat) (x : f30_x) : fnK types f30_G f30_lv k Try.f30 [.str] [.bool] x = f30 k x :=
  f30_e k x
theorem f30_c : Contract Try.prog 30 ⟨[.str], [.bool], f30, .no⟩ :=
  fn_contract types_all (env_cons f62_c env_nil) mixes (by kernel_rfl) (by kernel_rfl) (by kernel_rfl) (by kernel_rfl) f30_eq

/-! groat/mti.Response -/
abbrev f51_r := List UInt8 × Bool × Unit
abbrev f51_x := List UInt8 × Unit
def f51_m (k : Nat) (x : f51_x) : Option f51_r :=
  ((f30 k (x.1, ())).bind fun r1 => (cond (!r1.1) (some (([] : List UInt8), (false, ()))) (chk (decide ((2 : Int) ≤ ((((List.length x.1) : Nat) : Int)))) (chk (decide ((2 : Int) < ((((List.length x.1) : Nat) : Int)))) (chk (decide (((List.length (List.drop (0 : Nat) (List.take (2 : Nat) x.1))) + (List.length (List.map toByte ([(IntKind.u8.wrap ((((UInt8.toNat (List.getD x.1 (2 : Nat) 0) : Nat) : Int)) + (1 : Int)))])))) ≤ (9223372036854775807 : Nat))) (chk (decide ((3 : Int) ≤ ((((List.length x.1) : Nat) : Int)))) (chk (decide (((((List.length x.1) : Nat) : Int)) ≤ ((((List.length x.1) : Nat) : Int)))) (chk (decide (((List.length ((List.drop (0 : Nat) (List.take (2 : Nat) x.1)) ++ (List.map toByte ([(IntKind.u8.wrap ((((UInt8.toNat (List.getD x.1 (2 : Nat) 0) : Nat) : Int)) + (1 : Int)))])))) + (List.length (List.drop (3 : Nat) (List.take (Int.toNat ((((List.length x.1) : Nat) : Int))) x.1)))) ≤ (9223372036854775807 : Nat))) (some ((((List.drop (0 : Nat) (List.take (2 : Nat) x.1)) ++ (List.map toByte ([(IntKind.u8.wrap ((((UInt8.toNat (List.getD x.1 (2 : Nat) 0) : Nat) : Int)) + (1 : Int)))]))) ++ (List.drop (3 : Nat) (List.take (Int.toNat ((((List.length x.1) : Nat) : Int))) x.1))), (true, ())))))))))))
def f51 (k : Nat) (x : f51_x) : Option f51_r := f51_m k x
def f51_lv : Nat → Lp := lps []
def f51_G : Env := findL [(30, ⟨[.str], [.bool], f30, .no⟩)]
theorem f51_e (k : Nat) (x : f51_x) : fnK types f51_G f51_lv k Try.f51 [.str] [.str, .bool] x =
    f51_m k x := by kernel_rfl
theorem f51_eq (k : Nat) (x : f51_x) : fnK types f51_G f51_lv k Try.f51 [.str] [.str, .bool] x = f51 k x :=
  f51_e k x
theorem f51_c : Contract Try.prog 51 ⟨[.str], [.str, .bool], f51, .no⟩ :=
  fn_contract types_all (env_cons f30_c env_nil) mixes (by kernel_rfl) (by kernel_rfl) (by kernel_rfl) (by kernel_rfl) f51_eq

/-! groat/reject.Build -/
abbrev f20_r := (List UInt8 × List (Int × List UInt8)) × Bool × Unit
abbrev f20_x := ((Int × Int × List (Int × Int × Int × Int × Int)) × (List (List UInt8 × List UInt8) × List (Int × Int × Int × List UInt8 × List (List UInt8 × List UInt8))) × List Int × List (Int × List UInt8)) × (List UInt8 × List (Int × List UInt8)) × (Int × Int) × Unit
abbrev f20_t6 := List Int × Int × Int × Int × Int × List (Int × Int × Int × Int × Int) × List (List UInt8 × List UInt8) × List (Int × Int × Int × List UInt8 × List (List UInt8 × List UInt8)) × List Int × List (Int × List UInt8) × List UInt8 × List (Int × List UInt8) × Int × Int × List UInt8 × List UInt8 × List (Int × List UInt8)
def f20_s6 (p : f20_t6) : St := [(6, .tv (.f (.c (.ptr 1192 0)))), (8, .tv (.f (.c (.ptr 1256 0)))), (10, .tv (.f (.c (.ptr 1320 0)))), (12, .tv (.f (.c (.ptr 1384 0)))), (20, .tv (.f (.c (.ptr 1640 0)))), (54, .tv (.f (.c (.v (.sl (.int .i64)) p.1)))), (56, .tv (.f (.c (.v (.int .i64) p.2.1)))), (58, .tv (.f (.c (.v (.int .i64) p.2.2.1)))), (2385, .box [.v (.int .i64) p.2.2.2.1, .v (.int .i64) p.2.2.2.2.1, .v (.sl y66) p.2.2.2.2.2.1, .v (.sl (.pair .str .str)) p.2.2.2.2.2.2.1, .v (.sl y207) p.2.2.2.2.2.2.2.1, .v (.sl (.int .i64)) p.2.2.2.2.2.2.2.2.1, .v (.sl (.pair (.int .i64) .str)) p.2.2.2.2.2.2.2.2.2.1]), (2513, .box [.v .str p.2.2.2.2.2.2.2.2.2.2.1, .v (.sl (.pair (.int .i64) .str)) p.2.2.2.2.2.2.2.2.2.2.2.1]), (2641, .box [.v (.int .i64) p.2.2.2.2.2.2.2.2.2.2.2.2.1, .v (.int .i64) p.2.2.2.2.2.2.2.2.2.2.2.2.2.1]), (2769, .box [.v .str p.2.2.2.2.2.2.2.2.2.2.2.2.2.2.1, .nil]), (3281, .box [.v .str p.2.2.2.2.2.2.2.2.2.2.2.2.2.2.2.1, .v (.sl (.pair (.int .i64) .str)) p.2.2.2.2.2.2.2.2.2.2.2.2.2.2.2.2])]
def f20_b6 (k : Nat) (R6 : f20_t6 → Option f20_r) (p : f20_t6) : Option f20_r :=
  (cond (decide (p.2.2.1 < p.2.1)) (chk (decide ((0 : Int) ≤ p.2.2.1)) (chk (decide (p.2.2.1 < ((((List.length p.1) : Nat) : Int)))) ((f26 k ((p.2.2.2.2.2.2.2.2.2.2.1, p.2.2.2.2.2.2.2.2.2.2.2.1), ((List.getD p.1 (Int.toNat p.2.2.1) (0 : Int)), ()))).bind fun r2 => (cond r2.2.1 ((f39 k (p.2.2.2.2.2.2.2.2.2.2.2.2.2.2.2, ((List.getD p.1 (Int.toNat p.2.2.1) (0 : Int)), (r2.1, ())))).bind fun r3 => (R6 (p.1, (p.2.1, ((IntKind.i64.wrap (p.2.2.1 + (1 : Int))), (p.2.2.2.1, (p.2.2.2.2.1, (p.2.2.2.2.2.1, (p.2.2.2.2.2.2.1, (p.2.2.2.2.2.2.2.1, (p.2.2.2.2.2.2.2.2.1, (p.2.2.2.2.2.2.2.2.2.1, (p.2.2.2.2.2.2.2.2.2.2.1, (p.2.2.2.2.2.2.2.2.2.2.2.1, (p.2.2.2.2.2.2.2.2.2.2.2.2.1, (p.2.2.2.2.2.2.2.2.2.2.2.2.2.1, (p.2.2.2.2.2.2.2.2.2.2.2.2.2.2.1, r3.1))))))))))))))))) (R6 (p.1, (p.2.1, ((IntKind.i64.wrap (p.2.2.1 + (1 : Int))), p.2.2.2)))))))) ((f27 k (((p.2.2.2.1, (p.2.2.2.2.1, p.2.2.2.2.2.1)), ((p.2.2.2.2.2.2.1, p.2.2.2.2.2.2.2.1), (p.2.2.2.2.2.2.2.2.1, p.2.2.2.2.2.2.2.2.2.1))), (p.2.2.2.2.2.2.2.2.2.2.2.2.1, ()))).bind fun r4 => ((f39 k (p.2.2.2.2.2.2.2.2.2.2.2.2.2.2.2, ((39 : Int), (r4.1, ())))).bind fun r5 => (some (r5.1, (true, ()))))))
def f20_l6 (k : Nat) : f20_t6 → Option f20_r := loopP (fun R6 p => f20_b6 k R6 p) k
def f20_m (k : Nat) (A6 : f20_t6 → Option f20_r) (x : f20_x) : Option f20_r :=
  ((f51 k (x.2.1.1, ())).bind fun r1 => (cond (!r1.2.1) (some ((([] : List UInt8), ([] : List (Int × List UInt8))), (false, ()))) (A6 (x.1.2.2.1, (((((List.length x.1.2.2.1) : Nat) : Int)), ((0 : Int), (x.1.1.1, (x.1.1.2.1, (x.1.1.2.2, (x.1.2.1.1, (x.1.2.1.2, (x.1.2.2.1, (x.1.2.2.2, (x.2.1.1, (x.2.1.2, (x.2.2.1.1, (x.2.2.1.2, (([] : List UInt8), (r1.1, ([] : List (Int × List UInt8)))))))))))))))))))))
def f20 (k : Nat) (x : f20_x) : Option f20_r := f20_m k (f20_l6 k) x
def f20_lv : Nat → Lp := lps [(6, .keep [3, 4, 5, 6, 10, 27, 28, 29] [(3281, 1, .ro (.pair (.int .i64) .str))])]
def f20_G : Env := findL [(26, ⟨[y34, (.int .i64)], [.str, .bool], f26, .no⟩), (27, ⟨[(.pair (.pair (.int .i64) (.pair (.int .i64) (.sl y66))) (.pair (.pair (.sl (.pair .str .str)) (.sl y207)) (.pair (.sl (.int .i64)) (.sl (.pair (.int .i64) .str))))), (.int .i64)], [.str], f27, .no⟩), (39, ⟨[y34, (.int .i64), .str], [y34], f39, .no⟩), (51, ⟨[.str], [.str, .bool], f51, .no⟩)]
theorem f20_e6 (k : Nat) (kn : St → Option f20_r) (p : f20_t6) : stepAt types f20_G f20_lv k Try.f20.ntmps (kns []) 6 (Try.f20.body.getD .skip) (topK types Try.f20 [y34, .bool]) (f20_s6 p) kn =
    f20_b6 k (fun p => kn (f20_s6 p)) p := by kernel_rfl
theorem f20_q6 (k : Nat) (n : Nat) (p : f20_t6) : loopAt types f20_G f20_lv k Try.f20.ntmps (kns []) 6 (Try.f20.body.getD .skip) (topK types Try.f20 [y34, .bool]) n (f20_s6 p) = loopP (fun R6 p => f20_b6 k R6 p) n p :=
  loopAt_eq (fun kn p => f20_e6 k kn p) n p
theorem f20_e (k : Nat) (x : f20_x) : fnK types f20_G f20_lv k Try.f20 [(.pair (.pair (.int .i64) (.pair (.int .i64) (.sl y66))) (.pair (.pair (.sl (.pair .str .str)) (.sl y207)) (.pair (.sl (.int .i64)) (.sl (.pair (.int .i64) .str))))), y34, (.pair (.int .i64) (.int .i64))] [y34, .bool] x =
    f20_m k (fun p => loopAt types f20_G f20_lv k Try.f20.ntmps (kns []) 6 (Try.f20.body.getD .skip) (topK types Try.f20 [y34, .bool]) k (f20_s6 p)) x := by kernel_rfl
theorem f20_eq (k : Nat) (x : f20_x) : fnK types f20_G f20_lv k Try.f20 [(.pair (.pair (.int .i64) (.pair (.int .i64) (.sl y66))) (.pair (.pair (.sl (.pair .str .str)) (.sl y207)) (.pair (.sl (.int .i64)) (.sl (.pair (.int .i64) .str))))), y34, (.pair (.int .i64) (.int .i64))] [y34, .bool] x = f20 k x :=
  (f20_e k x).trans (congrFun (congrArg (f20_m k) (funext fun p => f20_q6 k k p)) x)
theorem f20_c : Contract Try.prog 20 ⟨[(.pair (.pair (.int .i64) (.pair (.int .i64) (.sl y66))) (.pair (.pair (.sl (.pair .str .str)) (.sl y207)) (.pair (.sl (.int .i64)) (.sl (.pair (.int .i64) .str))))), y34, (.pair (.int .i64) (.int .i64))], [y34, .bool], f20, .no⟩ :=
  fn_contract types_all (env_cons f26_c (env_cons f27_c (env_cons f39_c (env_cons f51_c env_nil)))) mixes (by kernel_rfl) (by kernel_rfl) (by kernel_rfl) (by kernel_rfl) f20_eq

/-! groat/groatref16.Same -/
abbrev f24_r := Bool × Unit
abbrev f24_x := (List UInt8 × List (Int × List UInt8)) × (List UInt8 × List (Int × List UInt8)) × Unit
abbrev f24_t4 := Int × List UInt8 × List (Int × List UInt8) × List UInt8 × List (Int × List UInt8)
def f24_s4 (p : f24_t4) : St := [(4, .tv (.f (.c (.ptr 1128 0)))), (6, .tv (.f (.c (.ptr 1192 0)))), (10, .tv (.f (.c (.v (.int .i64) p.1)))), (2257, .box [.v .str p.2.1, .v (.sl (.pair (.int .i64) .str)) p.2.2.1]), (2385, .box [.v .str p.2.2.2.1, .v (.sl (.pair (.int .i64) .str)) p.2.2.2.2])]
def f24_b4 (k : Nat) (R4 : f24_t4 → Option f24_r) (p : f24_t4) : Option f24_r :=
  (cond (decide (p.1 < ((((List.length p.2.2.1) : Nat) : Int)))) (chk (decide ((0 : Int) ≤ p.1)) (chk (decide (p.1 < ((((List.length p.2.2.1) : Nat) : Int)))) (chk (decide ((0 : Int) ≤ p.1)) (chk (decide (p.1 < ((((List.length p.2.2.2.2) : Nat) : Int)))) (cond (!(((List.getD p.2.2.1 (Int.toNat p.1) ((0 : Int), ([] : List UInt8))).1 == (List.getD p.2.2.2.2 (Int.toNat p.1) ((0 : Int), ([] : List UInt8))).1) && (((List.getD p.2.2.1 (Int.toNat p.1) ((0 : Int), ([] : List UInt8))).2 == (List.getD p.2.2.2.2 (Int.toNat p.1) ((0 : Int), ([] : List UInt8))).2) && true))) (some (false, ())) (R4 ((IntKind.i64.wrap (p.1 + (1 : Int))), p.2))))))) (some (true, ())))
def f24_l4 (k : Nat) : f24_t4 → Option f24_r := loopP (fun R4 p => f24_b4 k R4 p) k
def f24_m (k : Nat) (A4 : f24_t4 → Option f24_r) (x : f24_x) : Option f24_r :=
  (cond (!(x.1.1 == x.2.1.1)) (some (false, ())) (cond (((((List.length x.1.2) : Nat) : Int)) != ((((List.length x.2.1.2) : Nat) : Int))) (some (false, ())) (A4 ((0 : Int), (x.1.1, (x.1.2, x.2.1))))))
def f24 (k : Nat) (x : f24_x) : Option f24_r := f24_m k (f24_l4 k) x
def f24_lv : Nat → Lp := lps [(4, .keep [2, 3, 5] [])]
def f24_G : Env := findL []
theorem f24_e4 (k : Nat) (kn : St → Option f24_r) (p : f24_t4) : stepAt types f24_G f24_lv k Try.f24.ntmps (kns []) 4 (Try.f24.body.getD .skip) (topK types Try.f24 [.bool]) (f24_s4 p) kn =
    f24_b4 k (fun p => kn (f24_s4 p)) p := by kernel_rfl
theorem f24_q4 (k : Nat) (n : Nat) (p : f24_t4) : loopAt types f24_G f24_lv k Try.f24.ntmps (kns []) 4 (Try.f24.body.getD .skip) (topK types Try.f24 [.bool]) n (f24_s4 p) = loopP (fun R4 p => f24_b4 k R4 p) n p :=
  loopAt_eq (fun kn p => f24_e4 k kn p) n p
theorem f24_e (k : Nat) (x : f24_x) : fnK types f24_G f24_lv k Try.f24 [y34, y34] [.bool] x =
    f24_m k (fun p => loopAt types f24_G f24_lv k Try.f24.ntmps (kns []) 4 (Try.f24.body.getD .skip) (topK types Try.f24 [.bool]) k (f24_s4 p)) x := by kernel_rfl
theorem f24_eq (k : Nat) (x : f24_x) : fnK types f24_G f24_lv k Try.f24 [y34, y34] [.bool] x = f24 k x :=
  (f24_e k x).trans (congrFun (congrArg (f24_m k) (funext fun p => f24_q4 k k p)) x)
theorem f24_c : Contract Try.prog 24 ⟨[y34, y34], [.bool], f24, .no⟩ :=
  fn_contract types_all env_nil mixes (by kernel_rfl) (by kernel_rfl) (by kernel_rfl) (by kernel_rfl) f24_eq

/-! groat/groatref14.both -/
abbrev f97_r := List (List Int) × Unit
abbrev f97_x := Unit
def f97_m (k : Nat) (x : f97_x) : Option f97_r :=
  (some (([([(2 : Int), (1 : Int), (2 : Int), (12 : Int), (19 : Int), (1 : Int), (2 : Int), (12 : Int), (19 : Int)]), ([(3 : Int), (1 : Int), (1 : Int), (6 : Int), (6 : Int), (1 : Int), (1 : Int), (6 : Int), (6 : Int)]), ([(4 : Int), (1 : Int), (1 : Int), (12 : Int), (12 : Int), (1 : Int), (1 : Int), (12 : Int), (12 : Int)]), ([(7 : Int), (1 : Int), (1 : Int), (10 : Int), (10 : Int), (1 : Int), (1 : Int), (10 : Int), (10 : Int)]), ([(11 : Int), (1 : Int), (1 : Int), (6 : Int), (6 : Int), (1 : Int), (1 : Int), (6 : Int), (6 : Int)]), ([(12 : Int), (1 : Int), (1 : Int), (6 : Int), (6 : Int), (1 : Int), (1 : Int), (12 : Int), (12 : Int)]), ([(13 : Int), (1 : Int), (1 : Int), (4 : Int), (4 : Int), (0 : Int), (0 : Int), (0 : Int), (0 : Int)]), ([(14 : Int), (1 : Int), (1 : Int), (4 : Int), (4 : Int), (1 : Int), (1 : Int), (4 : Int), (4 : Int)]), ([(18 : Int), (1 : Int), (1 : Int), (4 : Int), (4 : Int), (0 : Int), (0 : Int), (0 : Int), (0 : Int)]), ([(22 : Int), (1 : Int), (1 : Int), (3 : Int), (3 : Int), (3 : Int), (1 : Int), (12 : Int), (12 : Int)]), ([(23 : Int), (1 : Int), (1 : Int), (3 : Int), (3 : Int), (1 : Int), (1 : Int), (3 : Int), (3 : Int)]), ([(26 : Int), (0 : Int), (0 : Int), (0 : Int), (0 : Int), (1 : Int), (1 : Int), (4 : Int), (4 : Int)]), ([(32 : Int), (1 : Int), (2 : Int), (1 : Int), (11 : Int), (1 : Int), (2 : Int), (1 : Int), (11 : Int)]), ([(35 : Int), (4 : Int), (2 : Int), (1 : Int), (37 : Int), (4 : Int), (2 : Int), (1 : Int), (37 : Int)]), ([(37 : Int), (3 : Int), (1 : Int), (12 : Int), (12 : Int), (3 : Int), (1 : Int), (12 : Int), (12 : Int)]), ([(38 : Int), (3 : Int), (1 : Int), (6 : Int), (6 : Int), (3 : Int), (1 : Int), (6 : Int), (6 : Int)]), ([(39 : Int), (3 : Int), (1 : Int), (2 : Int), (2 : Int), (1 : Int), (1 : Int), (3 : Int), (3 : Int)]), ([(41 : Int), (4 : Int), (1 : Int), (8 : Int), (8 : Int), (4 : Int), (1 : Int), (8 : Int), (8 : Int)]), ([(42 : Int), (4 : Int), (1 : Int), (15 : Int), (15 : Int), (4 : Int), (1 : Int), (15 : Int), (15 : Int)]), ([(43 : Int), (4 : Int), (1 : Int), (40 : Int), (40 : Int), (4 : Int), (2 : Int), (1 : Int), (99 : Int)]), ([(48 : Int), (4 : Int), (3 : Int), (1 : Int), (999 : Int), (4 : Int), (3 : Int), (1 : Int), (999 : Int)]), ([(49 : Int), (1 : Int), (1 : Int), (3 : Int), (3 : Int), (1 : Int), (1 : Int), (3 : Int), (3 : Int)]), ([(52 : Int), (5 : Int), (1 : Int), (8 : Int), (8 : Int), (5 : Int), (1 : Int), (8 : Int), (8 : Int)]), ([(55 : Int), (6 : Int), (3 : Int), (1 : Int), (255 : Int), (6 : Int), (3 : Int), (1 : Int), (255 : Int)]), ([(64 : Int), (5 : Int), (1 : Int), (8 : Int), (8 : Int), (5 : Int), (1 : Int), (8 : Int), (8 : Int)]), ([(70 : Int), (1 : Int), (1 : Int), (3 : Int), (3 : Int), (1 : Int), (1 : Int), (3 : Int), (3 : Int)]), ([(90 : Int), (1 : Int), (1 : Int), (42 : Int), (42 : Int), (0 : Int), (0 : Int), (0 : Int), (0 : Int)]), ([(102 : Int), (4 : Int), (2 : Int), (1 : Int), (28 : Int), (4 : Int), (2 : Int), (1 : Int), (28 : Int)]), ([(128 : Int), (5 : Int), (1 : Int), (8 : Int), (8 : Int), (5 : Int), (1 : Int), (8 : Int), (8 : Int)])]), ()))
def f97 (k : Nat) (x : f97_x) : Option f97_r := f97_m k x
def f97_lv : Nat → Lp := lps []
def f97_G : Env := findL []
theorem f97_e (k : Nat) (x : f97_x) : fnK types f97_G f97_lv k Try.f97 [] [(.sl (.sl (.int .i64)))] x =
    f97_m k x := by kernel_rfl
theorem f97_eq (k : Nat) (x : f97_x) : fnK types f97_G f97_lv k Try.f97 [] [(.sl (.sl (.int .i64)))] x = f97 k x :=
  f97_e k x
theorem f97_c : Contract Try.prog 97 ⟨[], [(.sl (.sl (.int .i64)))], f97, .no⟩ :=
  fn_contract types_all env_nil mixes (by kernel_rfl) (by kernel_rfl) (by kernel_rfl) (by kernel_rfl) f97_eq

/-! groat/groatref14.Schema -/
abbrev f49_r := (Int × Int × List (Int × Int × Int × Int × Int)) × Unit
abbrev f49_x := Int × Unit
abbrev f49_t4 := Int × List (List Int) × Int × Int × Int × Int × Int × List (Int × Int × Int × Int × Int)
def f49_s4 (p : f49_t4) : St := [(0, .tv (.f (.c (.v (.int .i64) p.1)))), (4, .tv (.f (.c (.ptr 1128 0)))), (6, .tv (.f (.c (.ptr 1192 0)))), (8, .tv (.f (.c (.v (.sl (.sl (.int .i64))) p.2.1)))), (10, .tv (.f (.c (.v (.int .i64) p.2.2.1)))), (2257, .box [.v (.int .i64) p.2.2.2.1, .v (.int .i64) p.2.2.2.2.1, .nil]), (2385, .box [.v (.int .i64) p.2.2.2.2.2.1, .v (.int .i64) p.2.2.2.2.2.2.1, .own 176290]), (352581, .row 67 y66 p.2.2.2.2.2.2.2)]
def f49_b4 (k : Nat) (R4 : f49_t4 → Option f49_r) (p : f49_t4) : Option f49_r :=
  (cond (decide (p.2.2.1 < ((((List.length p.2.1) : Nat) : Int)))) (chk (decide ((0 : Int) ≤ p.2.2.1)) (chk (decide (p.2.2.1 < ((((List.length p.2.1) : Nat) : Int)))) (chk (decide ((0 : Int) ≤ (IntKind.i64.wrap ((1 : Int) + (IntKind.i64.wrap ((4 : Int) * p.1)))))) (chk (decide ((IntKind.i64.wrap ((1 : Int) + (IntKind.i64.wrap ((4 : Int) * p.1)))) ≤ (IntKind.i64.wrap ((5 : Int) + (IntKind.i64.wrap ((4 : Int) * p.1)))))) (chk (decide ((IntKind.i64.wrap ((5 : Int) + (IntKind.i64.wrap ((4 : Int) * p.1)))) ≤ ((((List.length (List.getD p.2.1 (Int.toNat p.2.2.1) ([] : List Int))) : Nat) : Int)))) (chk (decide ((0 : Int) < ((((List.length (List.drop (Int.toNat (IntKind.i64.wrap ((1 : Int) + (IntKind.i64.wrap ((4 : Int) * p.1))))) (List.take (Int.toNat (IntKind.i64.wrap ((5 : Int) + (IntKind.i64.wrap ((4 : Int) * p.1))))) (List.getD p.2.1 (Int.toNat p.2.2.1) ([] : List Int))))) : Nat) : Int)))) (cond (decide ((List.getD (List.drop (Int.toNat (IntKind.i64.wrap ((1 : Int) + (IntKind.i64.wrap ((4 : Int) * p.1))))) (List.take (Int.toNat (IntKind.i64.wrap ((5 : Int) + (IntKind.i64.wrap ((4 : Int) * p.1))))) (List.getD p.2.1 (Int.toNat p.2.2.1) ([] : List Int)))) (0 : Nat) (0 : Int)) > (0 : Int))) (chk (decide ((0 : Int) ≤ p.2.2.1)) (chk (decide (p.2.2.1 < ((((List.length p.2.1) : Nat) : Int)))) (chk (decide ((0 : Int) < ((((List.length (List.getD p.2.1 (Int.toNat p.2.2.1) ([] : List Int))) : Nat) : Int)))) (chk (decide ((0 : Int) < ((((List.length (List.drop (Int.toNat (IntKind.i64.wrap ((1 : Int) + (IntKind.i64.wrap ((4 : Int) * p.1))))) (List.take (Int.toNat (IntKind.i64.wrap ((5 : Int) + (IntKind.i64.wrap ((4 : Int) * p.1))))) (List.getD p.2.1 (Int.toNat p.2.2.1) ([] : List Int))))) : Nat) : Int)))) (chk (decide ((1 : Int) < ((((List.length (List.drop (Int.toNat (IntKind.i64.wrap ((1 : Int) + (IntKind.i64.wrap ((4 : Int) * p.1))))) (List.take (Int.toNat (IntKind.i64.wrap ((5 : Int) + (IntKind.i64.wrap ((4 : Int) * p.1))))) (List.getD p.2.1 (Int.toNat p.2.2.1) ([] : List Int))))) : Nat) : Int)))) (chk (decide ((2 : Int) < ((((List.length (List.drop (Int.toNat (IntKind.i64.wrap ((1 : Int) + (IntKind.i64.wrap ((4 : Int) * p.1))))) (List.take (Int.toNat (IntKind.i64.wrap ((5 : Int) + (IntKind.i64.wrap ((4 : Int) * p.1))))) (List.getD p.2.1 (Int.toNat p.2.2.1) ([] : List Int))))) : Nat) : Int)))) (chk (decide ((3 : Int) < ((((List.length (List.drop (Int.toNat (IntKind.i64.wrap ((1 : Int) + (IntKind.i64.wrap ((4 : Int) * p.1))))) (List.take (Int.toNat (IntKind.i64.wrap ((5 : Int) + (IntKind.i64.wrap ((4 : Int) * p.1))))) (List.getD p.2.1 (Int.toNat p.2.2.1) ([] : List Int))))) : Nat) : Int)))) (chk (decide ((((List.length p.2.2.2.2.2.2.2) + (List.length ([((List.getD (List.getD p.2.1 (Int.toNat p.2.2.1) ([] : List Int)) (0 : Nat) (0 : Int)), ((List.getD (List.drop (Int.toNat (IntKind.i64.wrap ((1 : Int) + (IntKind.i64.wrap ((4 : Int) * p.1))))) (List.take (Int.toNat (IntKind.i64.wrap ((5 : Int) + (IntKind.i64.wrap ((4 : Int) * p.1))))) (List.getD p.2.1 (Int.toNat p.2.2.1) ([] : List Int)))) (0 : Nat) (0 : Int)), ((List.getD (List.drop (Int.toNat (IntKind.i64.wrap ((1 : Int) + (IntKind.i64.wrap ((4 : Int) * p.1))))) (List.take (Int.toNat (IntKind.i64.wrap ((5 : Int) + (IntKind.i64.wrap ((4 : Int) * p.1))))) (List.getD p.2.1 (Int.toNat p.2.2.1) ([] : List Int)))) (1 : Nat) (0 : Int)), ((List.getD (List.drop (Int.toNat (IntKind.i64.wrap ((1 : Int) + (IntKind.i64.wrap ((4 : Int) * p.1))))) (List.take (Int.toNat (IntKind.i64.wrap ((5 : Int) + (IntKind.i64.wrap ((4 : Int) * p.1))))) (List.getD p.2.1 (Int.toNat p.2.2.1) ([] : List Int)))) (2 : Nat) (0 : Int)), (List.getD (List.drop (Int.toNat (IntKind.i64.wrap ((1 : Int) + (IntKind.i64.wrap ((4 : Int) * p.1))))) (List.take (Int.toNat (IntKind.i64.wrap ((5 : Int) + (IntKind.i64.wrap ((4 : Int) * p.1))))) (List.getD p.2.1 (Int.toNat p.2.2.1) ([] : List Int)))) (3 : Nat) (0 : Int))))))]))) * (40 : Nat)) ≤ (140737488355328 : Nat))) (chk (decide (((List.length p.2.2.2.2.2.2.2) + (List.length ([((List.getD (List.getD p.2.1 (Int.toNat p.2.2.1) ([] : List Int)) (0 : Nat) (0 : Int)), ((List.getD (List.drop (Int.toNat (IntKind.i64.wrap ((1 : Int) + (IntKind.i64.wrap ((4 : Int) * p.1))))) (List.take (Int.toNat (IntKind.i64.wrap ((5 : Int) + (IntKind.i64.wrap ((4 : Int) * p.1))))) (List.getD p.2.1 (Int.toNat p.2.2.1) ([] : List Int)))) (0 : Nat) (0 : Int)), ((List.getD (List.drop (Int.toNat (IntKind.i64.wrap ((1 : Int) + (IntKind.i64.wrap ((4 : Int) * p.1))))) (List.take (Int.toNat (IntKind.i64.wrap ((5 : Int) + (IntKind.i64.wrap ((4 : Int) * p.1))))) (List.getD p.2.1 (Int.toNat p.2.2.1) ([] : List Int)))) (1 : Nat) (0 : Int)), ((List.getD (List.drop (Int.toNat (IntKind.i64.wrap ((1 : Int) + (IntKind.i64.wrap ((4 : Int) * p.1))))) (List.take (Int.toNat (IntKind.i64.wrap ((5 : Int) + (IntKind.i64.wrap ((4 : Int) * p.1))))) (List.getD p.2.1 (Int.toNat p.2.2.1) ([] : List Int)))) (2 : Nat) (0 : Int)), (List.getD (List.drop (Int.toNat (IntKind.i64.wrap ((1 : Int) + (IntKind.i64.wrap ((4 : Int) * p.1))))) (List.take (Int.toNat (IntKind.i64.wrap ((5 : Int) + (IntKind.i64.wrap ((4 : Int) * p.1))))) (List.getD p.2.1 (Int.toNat p.2.2.1) ([] : List Int)))) (3 : Nat) (0 : Int))))))]))) ≤ (9223372036854775807 : Nat))) (R4 (p.1, (p.2.1, ((IntKind.i64.wrap (p.2.2.1 + (1 : Int))), (p.2.2.2.1, (p.2.2.2.2.1, (p.2.2.2.2.2.1, (p.2.2.2.2.2.2.1, (p.2.2.2.2.2.2.2 ++ ([((List.getD (List.getD p.2.1 (Int.toNat p.2.2.1) ([] : List Int)) (0 : Nat) (0 : Int)), ((List.getD (List.drop (Int.toNat (IntKind.i64.wrap ((1 : Int) + (IntKind.i64.wrap ((4 : Int) * p.1))))) (List.take (Int.toNat (IntKind.i64.wrap ((5 : Int) + (IntKind.i64.wrap ((4 : Int) * p.1))))) (List.getD p.2.1 (Int.toNat p.2.2.1) ([] : List Int)))) (0 : Nat) (0 : Int)), ((List.getD (List.drop (Int.toNat (IntKind.i64.wrap ((1 : Int) + (IntKind.i64.wrap ((4 : Int) * p.1))))) (List.take (Int.toNat (IntKind.i64.wrap ((5 : Int) + (IntKind.i64.wrap ((4 : Int) * p.1))))) (List.getD p.2.1 (Int.toNat p.2.2.1) ([] : List Int)))) (1 : Nat) (0 : Int)), ((List.getD (List.drop (Int.toNat (IntKind.i64.wrap ((1 : Int) + (IntKind.i64.wrap ((4 : Int) * p.1))))) (List.take (Int.toNat (IntKind.i64.wrap ((5 : Int) + (IntKind.i64.wrap ((4 : Int) * p.1))))) (List.getD p.2.1 (Int.toNat p.2.2.1) ([] : List Int)))) (2 : Nat) (0 : Int)), (List.getD (List.drop (Int.toNat (IntKind.i64.wrap ((1 : Int) + (IntKind.i64.wrap ((4 : Int) * p.1))))) (List.take (Int.toNat (IntKind.i64.wrap ((5 : Int) + (IntKind.i64.wrap ((4 : Int) * p.1))))) (List.getD p.2.1 (Int.toNat p.2.2.1) ([] : List Int)))) (3 : Nat) (0 : Int))))))]))))))))))))))))))) (R4 (p.1, (p.2.1, ((IntKind.i64.wrap (p.2.2.1 + (1 : Int))), p.2.2.2))))))))))) (some (p.2.2.2.2.2, ())))
def f49_l4 (k : Nat) : f49_t4 → Option f49_r := loopP (fun R4 p => f49_b4 k R4 p) k
def f49_m (k : Nat) (A4 : f49_t4 → Option f49_r) (x : f49_x) : Option f49_r :=
  ((f97 k ()).bind fun r1 => (A4 (x.1, (r1.1, ((0 : Int), ((0 : Int), ((0 : Int), ((IntKind.i64.wrap (x.1 + (1 : Int))), (x.1, ([] : List (Int × Int × Int × Int × Int)))))))))))
def f49 (k : Nat) (x : f49_x) : Option f49_r := f49_m k (f49_l4 k) x
def f49_lv : Nat → Lp := lps [(4, .keep [0, 2, 3, 4, 5] [(2385, 2, .own 67 452642)])]
def f49_G : Env := findL [(97, ⟨[], [(.sl (.sl (.int .i64)))], f97, .no⟩)]
theorem f49_e4 (k : Nat) (kn : St → Option f49_r) (p : f49_t4) : stepAt types f49_G f49_lv k Try.f49.ntmps (kns []) 4 (Try.f49.body.getD .skip) (topK types Try.f49 [(.pair (.int .i64) (.pair (.int .i64) (.sl y66)))]) (f49_s4 p) kn =
    f49_b4 k (fun p => kn (f49_s4 p)) p := by kernel_rfl
theorem f49_q4 (k : Nat) (n : Nat) (p : f49_t4) : loopAt types f49_G f49_lv k Try.f49.ntmps (kns []) 4 (Try.f49.body.getD .skip) (topK types Try.f49 [(.pair (.int .i64) (.pair (.int .i64) (.sl y66)))]) n (f49_s4 p) = loopP (fun R4 p => f49_b4 k R4 p) n p :=
  loopAt_eq (fun kn p => f49_e4 k kn p) n p
theorem f49_e (k : Nat) (x : f49_x) : fnK types f49_G f49_lv k Try.f49 [(.int .i64)] [(.pair (.int .i64) (.pair (.int .i64) (.sl y66)))] x =
    f49_m k (fun p => loopAt types f49_G f49_lv k Try.f49.ntmps (kns []) 4 (Try.f49.body.getD .skip) (topK types Try.f49 [(.pair (.int .i64) (.pair (.int .i64) (.sl y66)))]) k (f49_s4 p)) x := by kernel_rfl
theorem f49_eq (k : Nat) (x : f49_x) : fnK types f49_G f49_lv k Try.f49 [(.int .i64)] [(.pair (.int .i64) (.pair (.int .i64) (.sl y66)))] x = f49 k x :=
  (f49_e k x).trans (congrFun (congrArg (f49_m k) (funext fun p => f49_q4 k k p)) x)
theorem f49_c : Contract Try.prog 49 ⟨[(.int .i64)], [(.pair (.int .i64) (.pair (.int .i64) (.sl y66)))], f49, .no⟩ :=
  fn_contract types_all (env_cons f97_c env_nil) mixes (by kernel_rfl) (by kernel_rfl) (by kernel_rfl) (by kernel_rfl) f49_eq

/-! groat/schema.Find -/
abbrev f40_r := (Int × Int × Int × Int × Int) × Bool × Unit
abbrev f40_x := (Int × Int × List (Int × Int × Int × Int × Int)) × Int × Unit
abbrev f40_t2 := Int × List (Int × Int × Int × Int × Int) × Int × Int × Int × Int × Int × Int × Int
def f40_s2 (p : f40_t2) : St := [(2, .tv (.f (.c (.v (.int .i64) p.1)))), (8, .tv (.f (.c (.ptr 1256 0)))), (18, .tv (.f (.c (.v (.sl y66) p.2.1)))), (20, .tv (.f (.c (.v (.int .i64) p.2.2.1)))), (22, .tv (.f (.c (.v (.int .i64) p.2.2.2.1)))), (2513, .box [.v (.int .i64) p.2.2.2.2.1, .v (.int .i64) p.2.2.2.2.2.1, .v (.int .i64) p.2.2.2.2.2.2.1, .v (.int .i64) p.2.2.2.2.2.2.2.1, .v (.int .i64) p.2.2.2.2.2.2.2.2])]
def f40_b2 (k : Nat) (R2 : f40_t2 → Option f40_r) (p : f40_t2) : Option f40_r :=
  (cond (decide (p.2.2.2.1 < p.2.2.1)) (chk (decide ((0 : Int) ≤ p.2.2.2.1)) (chk (decide (p.2.2.2.1 < ((((List.length p.2.1) : Nat) : Int)))) (cond ((List.getD p.2.1 (Int.toNat p.2.2.2.1) ((0 : Int), ((0 : Int), ((0 : Int), ((0 : Int), (0 : Int)))))).1 == p.1) (some ((List.getD p.2.1 (Int.toNat p.2.2.2.1) ((0 : Int), ((0 : Int), ((0 : Int), ((0 : Int), (0 : Int)))))), (true, ()))) (R2 (p.1, (p.2.1, (p.2.2.1, ((IntKind.i64.wrap (p.2.2.2.1 + (1 : Int))), p.2.2.2.2)))))))) (some (((0 : Int), ((0 : Int), ((0 : Int), ((0 : Int), (0 : Int))))), (false, ()))))
def f40_l2 (k : Nat) : f40_t2 → Option f40_r := loopP (fun R2 p => f40_b2 k R2 p) k
def f40_m (k : Nat) (A2 : f40_t2 → Option f40_r) (x : f40_x) : Option f40_r :=
  (A2 (x.2.1, (x.1.2.2, (((((List.length x.1.2.2) : Nat) : Int)), ((0 : Int), ((0 : Int), ((0 : Int), ((0 : Int), ((0 : Int), (0 : Int))))))))))
def f40 (k : Nat) (x : f40_x) : Option f40_r := f40_m k (f40_l2 k) x
def f40_lv : Nat → Lp := lps [(2, .keep [1, 4, 9, 10, 11] [])]
def f40_G : Env := findL []
theorem f40_e2 (k : Nat) (kn : St → Option f40_r) (p : f40_t2) : stepAt types f40_G f40_lv k Try.f40.ntmps (kns []) 2 (Try.f40.body.getD .skip) (topK types Try.f40 [y66, .bool]) (f40_s2 p) kn =
    f40_b2 k (fun p => kn (f40_s2 p)) p := by kernel_rfl
theorem f40_q2 (k : Nat) (n : Nat) (p : f40_t2) : loopAt types f40_G f40_lv k Try.f40.ntmps (kns []) 2 (Try.f40.body.getD .skip) (topK types Try.f40 [y66, .bool]) n (f40_s2 p) = loopP (fun R2 p => f40_b2 k R2 p) n p :=
  loopAt_eq (fun kn p => f40_e2 k kn p) n p
theorem f40_e (k : Nat) (x : f40_x) : fnK types f40_G f40_lv k Try.f40 [(.pair (.int .i64) (.pair (.int .i64) (.sl y66))), (.int .i64)] [y66, .bool] x =
    f40_m k (fun p => loopAt types f40_G f40_lv k Try.f40.ntmps (kns []) 2 (Try.f40.body.getD .skip) (topK types Try.f40 [y66, .bool]) k (f40_s2 p)) x := by kernel_rfl
theorem f40_eq (k : Nat) (x : f40_x) : fnK types f40_G f40_lv k Try.f40 [(.pair (.int .i64) (.pair (.int .i64) (.sl y66))), (.int .i64)] [y66, .bool] x = f40 k x :=
  (f40_e k x).trans (congrFun (congrArg (f40_m k) (funext fun p => f40_q2 k k p)) x)
theorem f40_c : Contract Try.prog 40 ⟨[(.pair (.int .i64) (.pair (.int .i64) (.sl y66))), (.int .i64)], [y66, .bool], f40, .no⟩ :=
  fn_contract types_all env_nil mixes (by kernel_rfl) (by kernel_rfl) (by kernel_rfl) (by kernel_rfl) f40_eq

/-! groat/class.sets -/
abbrev f140_r := Int × Unit
abbrev f140_x := Int × Unit
def f140_m (k : Nat) (x : f140_x) : Option f140_r :=
  (cond (x.1 == (1 : Int)) (some ((1 : Int), ())) (cond (x.1 == (2 : Int)) (some ((2 : Int), ())) (cond (x.1 == (3 : Int)) (some ((3 : Int), ())) (cond (x.1 == (4 : Int)) (some ((7 : Int), ())) (cond (x.1 == (5 : Int)) (some ((15 : Int), ())) (cond (x.1 == (6 : Int)) (some ((15 : Int), ())) (some ((0 : Int), ()))))))))
def f140 (k : Nat) (x : f140_x) : Option f140_r := f140_m k x
def f140_lv : Nat → Lp := lps []
def f140_G : Env := findL []
theorem f140_e (k : Nat) (x : f140_x) : fnK types f140_G f140_lv k Try.f140 [(.int .i64)] [(.int .i64)] x =
    f140_m k x := by kernel_rfl
theorem f140_eq (k : Nat) (x : f140_x) : fnK types f140_G f140_lv k Try.f140 [(.int .i64)] [(.int .i64)] x = f140 k x :=
  f140_e k x
theorem f140_c : Contract Try.prog 140 ⟨[(.int .i64)], [(.int .i64)], f140, .no⟩ :=
  fn_contract types_all env_nil mixes (by kernel_rfl) (by kernel_rfl) (by kernel_rfl) (by kernel_rfl) f140_eq

/-! groat/class.Known -/
abbrev f129_r := Bool × Unit
abbrev f129_x := Int × Unit
def f129_m (k : Nat) (x : f129_x) : Option f129_r :=
  ((f140 k (x.1, ())).bind fun r1 => (some ((r1.1 != (0 : Int)), ())))
def f129 (k : Nat) (x : f129_x) : Option f129_r := f129_m k x
def f129_lv : Nat → Lp := lps []
def f129_G : Env := findL [(140, ⟨[(.int .i64)], [(.int .i64)], f140, .no⟩)]
theorem f129_e (k : Nat) (x : f129_x) : fnK types f129_G f129_lv k Try.f129 [(.int .i64)] [.bool] x =
    f129_m k x := by kernel_rfl
theorem f129_eq (k : Nat) (x : f129_x) : fnK types f129_G f129_lv k Try.f129 [(.int .i64)] [.bool] x = f129 k x :=
  f129_e k x
theorem f129_c : Contract Try.prog 129 ⟨[(.int .i64)], [.bool], f129, .no⟩ :=
  fn_contract types_all (env_cons f140_c env_nil) mixes (by kernel_rfl) (by kernel_rfl) (by kernel_rfl) (by kernel_rfl) f129_eq

/-! groat/prefix.width -/
abbrev f122_r := Int × Unit
abbrev f122_x := Int × Unit
def f122_m (k : Nat) (x : f122_x) : Option f122_r :=
  (cond (x.1 == (2 : Int)) (some ((2 : Int), ())) (cond (x.1 == (3 : Int)) (some ((3 : Int), ())) (some ((0 : Int), ()))))
def f122 (k : Nat) (x : f122_x) : Option f122_r := f122_m k x
def f122_lv : Nat → Lp := lps []
def f122_G : Env := findL []
theorem f122_e (k : Nat) (x : f122_x) : fnK types f122_G f122_lv k Try.f122 [(.int .i64)] [(.int .i64)] x =
    f122_m k x := by kernel_rfl
theorem f122_eq (k : Nat) (x : f122_x) : fnK types f122_G f122_lv k Try.f122 [(.int .i64)] [(.int .i64)] x = f122 k x :=
  f122_e k x
theorem f122_c : Contract Try.prog 122 ⟨[(.int .i64)], [(.int .i64)], f122, .no⟩ :=
  fn_contract types_all env_nil mixes (by kernel_rfl) (by kernel_rfl) (by kernel_rfl) (by kernel_rfl) f122_eq

/-! groat/prefix.Most -/
abbrev f130_r := Int × Unit
abbrev f130_x := Int × Unit
abbrev f130_t3 := Int × Int × Int
def f130_s3 (p : f130_t3) : St := [(6, .tv (.f (.c (.v (.int .i64) p.1)))), (10, .tv (.f (.c (.v (.int .i64) p.2.1)))), (12, .tv (.f (.c (.v (.int .i64) p.2.2))))]
def f130_b3 (k : Nat) (R3 : f130_t3 → Option f130_r) (p : f130_t3) : Option f130_r :=
  (cond (decide (p.2.2 < p.2.1)) (R3 ((IntKind.i64.wrap ((IntKind.i64.wrap ((10 : Int) * p.1)) + (9 : Int))), (p.2.1, (IntKind.i64.wrap (p.2.2 + (1 : Int)))))) (some (p.1, ())))
def f130_l3 (k : Nat) : f130_t3 → Option f130_r := loopP (fun R3 p => f130_b3 k R3 p) k
def f130_m (k : Nat) (A3 : f130_t3 → Option f130_r) (x : f130_x) : Option f130_r :=
  ((f122 k (x.1, ())).bind fun r1 => (A3 ((0 : Int), (r1.1, (0 : Int)))))
def f130 (k : Nat) (x : f130_x) : Option f130_r := f130_m k (f130_l3 k) x
def f130_lv : Nat → Lp := lps [(3, .keep [3, 5, 6] [])]
def f130_G : Env := findL [(122, ⟨[(.int .i64)], [(.int .i64)], f122, .no⟩)]
theorem f130_e3 (k : Nat) (kn : St → Option f130_r) (p : f130_t3) : stepAt types f130_G f130_lv k Try.f130.ntmps (kns []) 3 (Try.f130.body.getD .skip) (topK types Try.f130 [(.int .i64)]) (f130_s3 p) kn =
    f130_b3 k (fun p => kn (f130_s3 p)) p := by kernel_rfl
theorem f130_q3 (k : Nat) (n : Nat) (p : f130_t3) : loopAt types f130_G f130_lv k Try.f130.ntmps (kns []) 3 (Try.f130.body.getD .skip) (topK types Try.f130 [(.int .i64)]) n (f130_s3 p) = loopP (fun R3 p => f130_b3 k R3 p) n p :=
  loopAt_eq (fun kn p => f130_e3 k kn p) n p
theorem f130_e (k : Nat) (x : f130_x) : fnK types f130_G f130_lv k Try.f130 [(.int .i64)] [(.int .i64)] x =
    f130_m k (fun p => loopAt types f130_G f130_lv k Try.f130.ntmps (kns []) 3 (Try.f130.body.getD .skip) (topK types Try.f130 [(.int .i64)]) k (f130_s3 p)) x := by kernel_rfl
theorem f130_eq (k : Nat) (x : f130_x) : fnK types f130_G f130_lv k Try.f130 [(.int .i64)] [(.int .i64)] x = f130 k x :=
  (f130_e k x).trans (congrFun (congrArg (f130_m k) (funext fun p => f130_q3 k k p)) x)
theorem f130_c : Contract Try.prog 130 ⟨[(.int .i64)], [(.int .i64)], f130, .no⟩ :=
  fn_contract types_all (env_cons f122_c env_nil) mixes (by kernel_rfl) (by kernel_rfl) (by kernel_rfl) (by kernel_rfl) f130_eq

/-! groat/spec.Check -/
abbrev f92_r := Int × Unit
abbrev f92_x := (Int × Int × Int × Int × Int) × Unit
def f92_m (k : Nat) (x : f92_x) : Option f92_r :=
  (cond (decide (x.1.1 < (2 : Int))) (some ((1 : Int), ())) (cond (decide (x.1.1 > (128 : Int))) (some ((1 : Int), ())) ((f129 k (x.1.2.1, ())).bind fun r1 => (cond (!r1.1) (some ((6 : Int), ())) (cond (decide (x.1.2.2.1 < (1 : Int))) (some ((3 : Int), ())) (cond (decide (x.1.2.2.1 > (3 : Int))) (some ((3 : Int), ())) (cond (decide (x.1.2.2.2.1 < (1 : Int))) (some ((5 : Int), ())) (cond (decide (x.1.2.2.2.1 > x.1.2.2.2.2)) (some ((5 : Int), ())) (cond (decide (x.1.2.2.2.2 > (999 : Int))) (some ((5 : Int), ())) (cond (x.1.2.2.1 == (1 : Int)) (cond (x.1.2.2.2.1 != x.1.2.2.2.2) (some ((5 : Int), ())) (cond (x.1.2.2.1 != (1 : Int)) ((f130 k (x.1.2.2.1, ())).bind fun r2 => (cond (decide (x.1.2.2.2.2 > r2.1)) (some ((5 : Int), ())) (cond (x.1.2.2.1 == (1 : Int)) (cond (x.1.2.1 == (6 : Int)) (some ((13 : Int), ())) (some ((0 : Int), ()))) (some ((0 : Int), ()))))) (cond (x.1.2.2.1 == (1 : Int)) (cond (x.1.2.1 == (6 : Int)) (some ((13 : Int), ())) (some ((0 : Int), ()))) (some ((0 : Int), ()))))) (cond (x.1.2.2.1 != (1 : Int)) ((f130 k (x.1.2.2.1, ())).bind fun r3 => (cond (decide (x.1.2.2.2.2 > r3.1)) (some ((5 : Int), ())) (cond (x.1.2.2.1 == (1 : Int)) (cond (x.1.2.1 == (6 : Int)) (some ((13 : Int), ())) (some ((0 : Int), ()))) (some ((0 : Int), ()))))) (cond (x.1.2.2.1 == (1 : Int)) (cond (x.1.2.1 == (6 : Int)) (some ((13 : Int), ())) (some ((0 : Int), ()))) (some ((0 : Int), ()))))))))))))))
def f92 (k : Nat) (x : f92_x) : Option f92_r := f92_m k x
def f92_lv : Nat → Lp := lps []
def f92_G : Env := findL [(129, ⟨[(.int .i64)], [.bool], f129, .no⟩), (130, ⟨[(.int .i64)], [(.int .i64)], f130, .no⟩)]
theorem f92_e (k : Nat) (x : f92_x) : fnK types f92_G f92_lv k Try.f92 [y66] [(.int .i64)] x =
    f92_m k x := by kernel_rfl
theorem f92_eq (k : Nat) (x : f92_x) : fnK types f92_G f92_lv k Try.f92 [y66] [(.int .i64)] x = f92 k x :=
  f92_e k x
theorem f92_c : Contract Try.prog 92 ⟨[y66], [(.int .i64)], f92, .no⟩ :=
  fn_contract types_all (env_cons f129_c (env_cons f130_c env_nil)) mixes (by kernel_rfl) (by kernel_rfl) (by kernel_rfl) (by kernel_rfl) f92_eq

/-! groat/schema.Check -/
abbrev f63_r := Int × Int × Unit
abbrev f63_x := (Int × Int × List (Int × Int × Int × Int × Int)) × Unit
abbrev f63_t6 := List (Int × Int × Int × Int × Int) × Int × Int × Int × Int × List (Int × Int × Int × Int × Int)
def f63_s6 (p : f63_t6) : St := [(2, .tv (.f (.c (.ptr 1064 0)))), (52, .tv (.f (.c (.v (.sl y66) p.1)))), (54, .tv (.f (.c (.v (.int .i64) p.2.1)))), (56, .tv (.f (.c (.v (.int .i64) p.2.2.1)))), (2129, .box [.v (.int .i64) p.2.2.2.1, .v (.int .i64) p.2.2.2.2.1, .v (.sl y66) p.2.2.2.2.2])]
def f63_b6 (k : Nat) (R6 : f63_t6 → Option f63_r) (p : f63_t6) : Option f63_r :=
  (cond (decide (p.2.2.1 < p.2.1)) (chk (decide ((0 : Int) ≤ p.2.2.1)) (chk (decide (p.2.2.1 < ((((List.length p.1) : Nat) : Int)))) ((f92 k ((List.getD p.1 (Int.toNat p.2.2.1) ((0 : Int), ((0 : Int), ((0 : Int), ((0 : Int), (0 : Int)))))), ())).bind fun r1 => (cond (r1.1 != (0 : Int)) (some (r1.1, (p.2.2.1, ()))) (cond (decide (p.2.2.1 > (0 : Int))) (chk (decide ((0 : Int) ≤ (IntKind.i64.wrap (p.2.2.1 - (1 : Int))))) (chk (decide ((IntKind.i64.wrap (p.2.2.1 - (1 : Int))) < ((((List.length p.2.2.2.2.2) : Nat) : Int)))) (cond (decide ((List.getD p.1 (Int.toNat p.2.2.1) ((0 : Int), ((0 : Int), ((0 : Int), ((0 : Int), (0 : Int)))))).1 ≤ (List.getD p.2.2.2.2.2 (Int.toNat (IntKind.i64.wrap (p.2.2.1 - (1 : Int)))) ((0 : Int), ((0 : Int), ((0 : Int), ((0 : Int), (0 : Int)))))).1)) (some ((11 : Int), (p.2.2.1, ()))) (R6 (p.1, (p.2.1, ((IntKind.i64.wrap (p.2.2.1 + (1 : Int))), p.2.2.2))))))) (R6 (p.1, (p.2.1, ((IntKind.i64.wrap (p.2.2.1 + (1 : Int))), p.2.2.2))))))))) (some ((0 : Int), ((0 : Int), ()))))
def f63_l6 (k : Nat) : f63_t6 → Option f63_r := loopP (fun R6 p => f63_b6 k R6 p) k
def f63_m (k : Nat) (A6 : f63_t6 → Option f63_r) (x : f63_x) : Option f63_r :=
  (cond (x.1.1 != (1 : Int)) (cond (x.1.1 != (2 : Int)) (some ((1 : Int), ((-1 : Int), ()))) (cond (decide (x.1.2.1 < (0 : Int))) (some ((7 : Int), ((-1 : Int), ()))) (cond (decide (x.1.2.1 > (9 : Int))) (some ((7 : Int), ((-1 : Int), ()))) (A6 (x.1.2.2, (((((List.length x.1.2.2) : Nat) : Int)), ((0 : Int), x.1))))))) (cond (decide (x.1.2.1 < (0 : Int))) (some ((7 : Int), ((-1 : Int), ()))) (cond (decide (x.1.2.1 > (9 : Int))) (some ((7 : Int), ((-1 : Int), ()))) (A6 (x.1.2.2, (((((List.length x.1.2.2) : Nat) : Int)), ((0 : Int), x.1)))))))
def f63 (k : Nat) (x : f63_x) : Option f63_r := f63_m k (f63_l6 k) x
def f63_lv : Nat → Lp := lps [(6, .keep [1, 26, 27, 28] [])]
def f63_G : Env := findL [(92, ⟨[y66], [(.int .i64)], f92, .no⟩)]
theorem f63_e6 (k : Nat) (kn : St → Option f63_r) (p : f63_t6) : stepAt types f63_G f63_lv k Try.f63.ntmps (kns []) 6 (Try.f63.body.getD .skip) (topK types Try.f63 [(.int .i64), (.int .i64)]) (f63_s6 p) kn =
    f63_b6 k (fun p => kn (f63_s6 p)) p := by kernel_rfl
theorem f63_q6 (k : Nat) (n : Nat) (p : f63_t6) : loopAt types f63_G f63_lv k Try.f63.ntmps (kns []) 6 (Try.f63.body.getD .skip) (topK types Try.f63 [(.int .i64), (.int .i64)]) n (f63_s6 p) = loopP (fun R6 p => f63_b6 k R6 p) n p :=
  loopAt_eq (fun kn p => f63_e6 k kn p) n p
theorem f63_e (k : Nat) (x : f63_x) : fnK types f63_G f63_lv k Try.f63 [(.pair (.int .i64) (.pair (.int .i64) (.sl y66)))] [(.int .i64), (.int .i64)] x =
    f63_m k (fun p => loopAt types f63_G f63_lv k Try.f63.ntmps (kns []) 6 (Try.f63.body.getD .skip) (topK types Try.f63 [(.int .i64), (.int .i64)]) k (f63_s6 p)) x := by kernel_rfl
theorem f63_eq (k : Nat) (x : f63_x) : fnK types f63_G f63_lv k Try.f63 [(.pair (.int .i64) (.pair (.int .i64) (.sl y66)))] [(.int .i64), (.int .i64)] x = f63 k x :=
  (f63_e k x).trans (congrFun (congrArg (f63_m k) (funext fun p => f63_q6 k k p)) x)
theorem f63_c : Contract Try.prog 63 ⟨[(.pair (.int .i64) (.pair (.int .i64) (.sl y66)))], [(.int .i64), (.int .i64)], f63, .no⟩ :=
  fn_contract types_all (env_cons f92_c env_nil) mixes (by kernel_rfl) (by kernel_rfl) (by kernel_rfl) (by kernel_rfl) f63_eq

/-! slices.Index[[]int,int] -/
abbrev f149_r := Int × Unit
abbrev f149_x := List Int × Int × Unit
abbrev f149_t2 := List Int × Int × Int × Int
def f149_s2 (p : f149_t2) : St := [(0, .tv (.f (.c (.v (.sl (.int .i64)) p.1)))), (2, .tv (.f (.c (.v (.int .i64) p.2.1)))), (14, .tv (.f (.c (.v (.int .i64) p.2.2.1)))), (16, .tv (.f (.c (.v (.int .i64) p.2.2.2))))]
def f149_b2 (k : Nat) (R2 : f149_t2 → Option f149_r) (p : f149_t2) : Option f149_r :=
  (cond (decide (p.2.2.2 < p.2.2.1)) (chk (decide ((0 : Int) ≤ p.2.2.2)) (chk (decide (p.2.2.2 < ((((List.length p.1) : Nat) : Int)))) (cond (p.2.1 == (List.getD p.1 (Int.toNat p.2.2.2) (0 : Int))) (some (p.2.2.2, ())) (R2 (p.1, (p.2.1, (p.2.2.1, (IntKind.i64.wrap (p.2.2.2 + (1 : Int)))))))))) (some ((-1 : Int), ())))
def f149_l2 (k : Nat) : f149_t2 → Option f149_r := loopP (fun R2 p => f149_b2 k R2 p) k
def f149_m (k : Nat) (A2 : f149_t2 → Option f149_r) (x : f149_x) : Option f149_r :=
  (A2 (x.1, (x.2.1, (((((List.length x.1) : Nat) : Int)), (0 : Int)))))
def f149 (k : Nat) (x : f149_x) : Option f149_r := f149_m k (f149_l2 k) x
def f149_lv : Nat → Lp := lps [(2, .keep [0, 1, 7, 8] [])]
def f149_G : Env := findL []
theorem f149_e2 (k : Nat) (kn : St → Option f149_r) (p : f149_t2) : stepAt types f149_G f149_lv k Try.f149.ntmps (kns []) 2 (Try.f149.body.getD .skip) (topK types Try.f149 [(.int .i64)]) (f149_s2 p) kn =
    f149_b2 k (fun p => kn (f149_s2 p)) p := by kernel_rfl
theorem f149_q2 (k : Nat) (n : Nat) (p : f149_t2) : loopAt types f149_G f149_lv k Try.f149.ntmps (kns []) 2 (Try.f149.body.getD .skip) (topK types Try.f149 [(.int .i64)]) n (f149_s2 p) = loopP (fun R2 p => f149_b2 k R2 p) n p :=
  loopAt_eq (fun kn p => f149_e2 k kn p) n p
theorem f149_e (k : Nat) (x : f149_x) : fnK types f149_G f149_lv k Try.f149 [(.sl (.int .i64)), (.int .i64)] [(.int .i64)] x =
    f149_m k (fun p => loopAt types f149_G f149_lv k Try.f149.ntmps (kns []) 2 (Try.f149.body.getD .skip) (topK types Try.f149 [(.int .i64)]) k (f149_s2 p)) x := by kernel_rfl
theorem f149_eq (k : Nat) (x : f149_x) : fnK types f149_G f149_lv k Try.f149 [(.sl (.int .i64)), (.int .i64)] [(.int .i64)] x = f149 k x :=
  (f149_e k x).trans (congrFun (congrArg (f149_m k) (funext fun p => f149_q2 k k p)) x)
theorem f149_c : Contract Try.prog 149 ⟨[(.sl (.int .i64)), (.int .i64)], [(.int .i64)], f149, .no⟩ :=
  fn_contract types_all env_nil mixes (by kernel_rfl) (by kernel_rfl) (by kernel_rfl) (by kernel_rfl) f149_eq

/-! slices.Contains[[]int,int] -/
abbrev f133_r := Bool × Unit
abbrev f133_x := List Int × Int × Unit
def f133_m (k : Nat) (x : f133_x) : Option f133_r :=
  ((f149 k (x.1, (x.2.1, ()))).bind fun r1 => (some ((decide (r1.1 ≥ (0 : Int))), ())))
def f133 (k : Nat) (x : f133_x) : Option f133_r := f133_m k x
def f133_lv : Nat → Lp := lps []
def f133_G : Env := findL [(149, ⟨[(.sl (.int .i64)), (.int .i64)], [(.int .i64)], f149, .no⟩)]
theorem f133_e (k : Nat) (x : f133_x) : fnK types f133_G f133_lv k Try.f133 [(.sl (.int .i64)), (.int .i64)] [.bool] x =
    f133_m k x := by kernel_rfl
theorem f133_eq (k : Nat) (x : f133_x) : fnK types f133_G f133_lv k Try.f133 [(.sl (.int .i64)), (.int .i64)] [.bool] x = f133 k x :=
  f133_e k x
theorem f133_c : Contract Try.prog 133 ⟨[(.sl (.int .i64)), (.int .i64)], [.bool], f133, .no⟩ :=
  fn_contract types_all (env_cons f149_c env_nil) mixes (by kernel_rfl) (by kernel_rfl) (by kernel_rfl) (by kernel_rfl) f133_eq

/-! groat/reject.echo -/
abbrev f98_r := Int × Unit
abbrev f98_x := ((Int × Int × List (Int × Int × Int × Int × Int)) × (List (List UInt8 × List UInt8) × List (Int × Int × Int × List UInt8 × List (List UInt8 × List UInt8))) × List Int × List (Int × List UInt8)) × Int × Unit
def f98_m (k : Nat) (x : f98_x) : Option f98_r :=
  (chk (decide ((0 : Int) ≤ x.2.1)) (chk (decide (x.2.1 < ((((List.length x.1.2.2.1) : Nat) : Int)))) ((f40 k (x.1.1, ((List.getD x.1.2.2.1 (Int.toNat x.2.1) (0 : Int)), ()))).bind fun r1 => (cond (!r1.2.1) (some ((9 : Int), ())) (cond ((List.getD x.1.2.2.1 (Int.toNat x.2.1) (0 : Int)) == (39 : Int)) (some ((1 : Int), ())) (chk (decide ((0 : Int) ≤ x.2.1)) (chk (decide (x.2.1 ≤ ((((List.length x.1.2.2.1) : Nat) : Int)))) ((f133 k ((List.drop (0 : Nat) (List.take (Int.toNat x.2.1) x.1.2.2.1)), ((List.getD x.1.2.2.1 (Int.toNat x.2.1) (0 : Int)), ()))).bind fun r2 => (cond r2.1 (some ((10 : Int), ())) (some ((0 : Int), ())))))))))))
def f98 (k : Nat) (x : f98_x) : Option f98_r := f98_m k x
def f98_lv : Nat → Lp := lps []
def f98_G : Env := findL [(40, ⟨[(.pair (.int .i64) (.pair (.int .i64) (.sl y66))), (.int .i64)], [y66, .bool], f40, .no⟩), (133, ⟨[(.sl (.int .i64)), (.int .i64)], [.bool], f133, .no⟩)]
theorem f98_e (k : Nat) (x : f98_x) : fnK types f98_G f98_lv k Try.f98 [(.pair (.pair (.int .i64) (.pair (.int .i64) (.sl y66))) (.pair (.pair (.sl (.pair .str .str)) (.sl y207)) (.pair (.sl (.int .i64)) (.sl (.pair (.int .i64) .str))))), (.int .i64)] [(.int .i64)] x =
    f98_m k x := by kernel_rfl
theorem f98_eq (k : Nat) (x : f98_x) : fnK types f98_G f98_lv k Try.f98 [(.pair (.pair (.int .i64) (.pair (.int .i64) (.sl y66))) (.pair (.pair (.sl (.pair .str .str)) (.sl y207)) (.pair (.sl (.int .i64)) (.sl (.pair (.int .i64) .str))))), (.int .i64)] [(.int .i64)] x = f98 k x :=
  f98_e k x
theorem f98_c : Contract Try.prog 98 ⟨[(.pair (.pair (.int .i64) (.pair (.int .i64) (.sl y66))) (.pair (.pair (.sl (.pair .str .str)) (.sl y207)) (.pair (.sl (.int .i64)) (.sl (.pair (.int .i64) .str))))), (.int .i64)], [(.int .i64)], f98, .no⟩ :=
  fn_contract types_all (env_cons f40_c (env_cons f133_c env_nil)) mixes (by kernel_rfl) (by kernel_rfl) (by kernel_rfl) (by kernel_rfl) f98_eq

/-! groat/reject.code$1 -/
abbrev f135_r := Bool × Unit
abbrev f135_x := (Int × List UInt8) × (Int × List UInt8) × Unit
def f135_m (k : Nat) (x : f135_x) : Option f135_r :=
  (some ((x.1.1 == x.2.1.1), ()))
def f135 (k : Nat) (x : f135_x) : Option f135_r := f135_m k x
def f135_lv : Nat → Lp := lps []
def f135_G : Env := findL []
theorem f135_e (k : Nat) (x : f135_x) : fnK types f135_G f135_lv k Try.f135 [(.pair (.int .i64) .str), (.refp (.pair (.int .i64) .str))] [.bool] x =
    f135_m k x := by kernel_rfl
theorem f135_eq (k : Nat) (x : f135_x) : fnK types f135_G f135_lv k Try.f135 [(.pair (.int .i64) .str), (.refp (.pair (.int .i64) .str))] [.bool] x = f135 k x :=
  f135_e k x
theorem f135_c : Contract Try.prog 135 ⟨[(.pair (.int .i64) .str), (.refp (.pair (.int .i64) .str))], [.bool], f135, .no⟩ :=
  fn_contract types_all env_nil mixes (by kernel_rfl) (by kernel_rfl) (by kernel_rfl) (by kernel_rfl) f135_eq

/-! groat/class.of -/
abbrev f141_r := Int × Unit
abbrev f141_x := Int × Unit
def f141_m (k : Nat) (x : f141_x) : Option f141_r :=
  (cond (decide (x.1 ≥ (48 : Int))) (cond (decide (x.1 ≤ (57 : Int))) (some ((1 : Int), ())) (cond (decide (x.1 ≥ (65 : Int))) (cond (decide (x.1 ≤ (90 : Int))) (some ((2 : Int), ())) (cond (decide (x.1 ≥ (97 : Int))) (cond (decide (x.1 ≤ (122 : Int))) (some ((2 : Int), ())) (cond (decide (x.1 ≥ (32 : Int))) (cond (decide (x.1 ≤ (126 : Int))) (some ((4 : Int), ())) (some ((8 : Int), ()))) (some ((8 : Int), ())))) (cond (decide (x.1 ≥ (32 : Int))) (cond (decide (x.1 ≤ (126 : Int))) (some ((4 : Int), ())) (some ((8 : Int), ()))) (some ((8 : Int), ()))))) (cond (decide (x.1 ≥ (97 : Int))) (cond (decide (x.1 ≤ (122 : Int))) (some ((2 : Int), ())) (cond (decide (x.1 ≥ (32 : Int))) (cond (decide (x.1 ≤ (126 : Int))) (some ((4 : Int), ())) (some ((8 : Int), ()))) (some ((8 : Int), ())))) (cond (decide (x.1 ≥ (32 : Int))) (cond (decide (x.1 ≤ (126 : Int))) (some ((4 : Int), ())) (some ((8 : Int), ()))) (some ((8 : Int), ())))))) (cond (decide (x.1 ≥ (65 : Int))) (cond (decide (x.1 ≤ (90 : Int))) (some ((2 : Int), ())) (cond (decide (x.1 ≥ (97 : Int))) (cond (decide (x.1 ≤ (122 : Int))) (some ((2 : Int), ())) (cond (decide (x.1 ≥ (32 : Int))) (cond (decide (x.1 ≤ (126 : Int))) (some ((4 : Int), ())) (some ((8 : Int), ()))) (some ((8 : Int), ())))) (cond (decide (x.1 ≥ (32 : Int))) (cond (decide (x.1 ≤ (126 : Int))) (some ((4 : Int), ())) (some ((8 : Int), ()))) (some ((8 : Int), ()))))) (cond (decide (x.1 ≥ (97 : Int))) (cond (decide (x.1 ≤ (122 : Int))) (some ((2 : Int), ())) (cond (decide (x.1 ≥ (32 : Int))) (cond (decide (x.1 ≤ (126 : Int))) (some ((4 : Int), ())) (some ((8 : Int), ()))) (some ((8 : Int), ())))) (cond (decide (x.1 ≥ (32 : Int))) (cond (decide (x.1 ≤ (126 : Int))) (some ((4 : Int), ())) (some ((8 : Int), ()))) (some ((8 : Int), ()))))))
def f141 (k : Nat) (x : f141_x) : Option f141_r := f141_m k x
def f141_lv : Nat → Lp := lps []
def f141_G : Env := findL []
theorem f141_e (k : Nat) (x : f141_x) : fnK types f141_G f141_lv k Try.f141 [(.int .u8)] [(.int .i64)] x =
    f141_m k x := by kernel_rfl
theorem f141_eq (k : Nat) (x : f141_x) : fnK types f141_G f141_lv k Try.f141 [(.int .u8)] [(.int .i64)] x = f141 k x :=
  f141_e k x
theorem f141_c : Contract Try.prog 141 ⟨[(.int .u8)], [(.int .i64)], f141, .no⟩ :=
  fn_contract types_all env_nil mixes (by kernel_rfl) (by kernel_rfl) (by kernel_rfl) (by kernel_rfl) f141_eq

/-! groat/class.First -/
abbrev f109_r := Int × Unit
abbrev f109_x := Int × List UInt8 × Unit
abbrev f109_t3 := List UInt8 × Int × Int
def f109_s3 (p : f109_t3) : St := [(2, .tv (.f (.c (.v .str p.1)))), (10, .tv (.f (.c (.v (.int .i64) p.2.1)))), (12, .tv (.f (.c (.v (.int .i64) p.2.2))))]
def f109_b3 (k : Nat) (R3 : f109_t3 → Option f109_r) (p : f109_t3) : Option f109_r :=
  (cond (decide (p.2.2 < ((((List.length p.1) : Nat) : Int)))) (chk (decide ((0 : Int) ≤ p.2.2)) (chk (decide (p.2.2 < ((((List.length p.1) : Nat) : Int)))) ((f141 k ((((UInt8.toNat (List.getD p.1 (Int.toNat p.2.2) 0) : Nat) : Int)), ())).bind fun r2 => (cond ((bitsN .and .i64 p.2.1 r2.1) == (0 : Int)) (some (p.2.2, ())) (R3 (p.1, (p.2.1, (IntKind.i64.wrap (p.2.2 + (1 : Int)))))))))) (some ((-1 : Int), ())))
def f109_l3 (k : Nat) : f109_t3 → Option f109_r := loopP (fun R3 p => f109_b3 k R3 p) k
def f109_m (k : Nat) (A3 : f109_t3 → Option f109_r) (x : f109_x) : Option f109_r :=
  ((f140 k (x.1, ())).bind fun r1 => (A3 (x.2.1, (r1.1, (0 : Int)))))
def f109 (k : Nat) (x : f109_x) : Option f109_r := f109_m k (f109_l3 k) x
def f109_lv : Nat → Lp := lps [(3, .keep [1, 5, 6] [])]
def f109_G : Env := findL [(140, ⟨[(.int .i64)], [(.int .i64)], f140, .no⟩), (141, ⟨[(.int .u8)], [(.int .i64)], f141, .no⟩)]
theorem f109_e3 (k : Nat) (kn : St → Option f109_r) (p : f109_t3) : stepAt types f109_G f109_lv k Try.f109.ntmps (kns []) 3 (Try.f109.body.getD .skip) (topK types Try.f109 [(.int .i64)]) (f109_s3 p) kn =
    f109_b3 k (fun p => kn (f109_s3 p)) p := by kernel_rfl
theorem f109_q3 (k : Nat) (n : Nat) (p : f109_t3) : loopAt types f109_G f109_lv k Try.f109.ntmps (kns []) 3 (Try.f109.body.getD .skip) (topK types Try.f109 [(.int .i64)]) n (f109_s3 p) = loopP (fun R3 p => f109_b3 k R3 p) n p :=
  loopAt_eq (fun kn p => f109_e3 k kn p) n p
theorem f109_e (k : Nat) (x : f109_x) : fnK types f109_G f109_lv k Try.f109 [(.int .i64), .str] [(.int .i64)] x =
    f109_m k (fun p => loopAt types f109_G f109_lv k Try.f109.ntmps (kns []) 3 (Try.f109.body.getD .skip) (topK types Try.f109 [(.int .i64)]) k (f109_s3 p)) x := by kernel_rfl
theorem f109_eq (k : Nat) (x : f109_x) : fnK types f109_G f109_lv k Try.f109 [(.int .i64), .str] [(.int .i64)] x = f109 k x :=
  (f109_e k x).trans (congrFun (congrArg (f109_m k) (funext fun p => f109_q3 k k p)) x)
theorem f109_c : Contract Try.prog 109 ⟨[(.int .i64), .str], [(.int .i64)], f109, .no⟩ :=
  fn_contract types_all (env_cons f140_c (env_cons f141_c env_nil)) mixes (by kernel_rfl) (by kernel_rfl) (by kernel_rfl) (by kernel_rfl) f109_eq

/-! groat/tag.first -/
abbrev f152_r := Bool × Unit
abbrev f152_x := Int × Unit
def f152_m (k : Nat) (x : f152_x) : Option f152_r :=
  (cond (decide (x.1 > (0 : Int))) (cond (decide (x.1 ≤ (255 : Int))) (some (((bitsN .and .i64 x.1 (32 : Int)) == (0 : Int)), ())) (some (false, ()))) (some (false, ())))
def f152 (k : Nat) (x : f152_x) : Option f152_r := f152_m k x
def f152_lv : Nat → Lp := lps []
def f152_G : Env := findL []
theorem f152_e (k : Nat) (x : f152_x) : fnK types f152_G f152_lv k Try.f152 [(.int .i64)] [.bool] x =
    f152_m k x := by kernel_rfl
theorem f152_eq (k : Nat) (x : f152_x) : fnK types f152_G f152_lv k Try.f152 [(.int .i64)] [.bool] x = f152 k x :=
  f152_e k x
theorem f152_c : Contract Try.prog 152 ⟨[(.int .i64)], [.bool], f152, .no⟩ :=
  fn_contract types_all env_nil mixes (by kernel_rfl) (by kernel_rfl) (by kernel_rfl) (by kernel_rfl) f152_eq

/-! groat/tag.Right -/
abbrev f153_r := Bool × Unit
abbrev f153_x := Int × Unit
def f153_m (k : Nat) (x : f153_x) : Option f153_r :=
  (cond (decide (x.1 ≤ (255 : Int))) ((f152 k (x.1, ())).bind fun r1 => (cond r1.1 (some (((bitsN .and .i64 x.1 (31 : Int)) != (31 : Int)), ())) (some (false, ())))) (cond (decide (x.1 ≤ (65535 : Int))) ((f152 k ((Int.fdiv x.1 (2 ^ (min (Int.toNat (8 : Int)) (IntKind.bits IntKind.i64)))), ())).bind fun r2 => (cond r2.1 (cond ((bitsN .and .i64 (Int.fdiv x.1 (2 ^ (min (Int.toNat (8 : Int)) (IntKind.bits IntKind.i64)))) (31 : Int)) == (31 : Int)) (cond (decide ((bitsN .and .i64 x.1 (255 : Int)) ≥ (1 : Int))) (some ((decide ((bitsN .and .i64 x.1 (255 : Int)) ≤ (127 : Int))), ())) (some (false, ()))) (some (false, ()))) (some (false, ())))) (some (false, ()))))
def f153 (k : Nat) (x : f153_x) : Option f153_r := f153_m k x
def f153_lv : Nat → Lp := lps []
def f153_G : Env := findL [(152, ⟨[(.int .i64)], [.bool], f152, .no⟩)]
theorem f153_e (k : Nat) (x : f153_x) : fnK types f153_G f153_lv k Try.f153 [(.int .i64)] [.bool] x =
    f153_m k x := by kernel_rfl
theorem f153_eq (k : Nat) (x : f153_x) : fnK types f153_G f153_lv k Try.f153 [(.int .i64)] [.bool] x = f153 k x :=
  f153_e k x
theorem f153_c : Contract Try.prog 153 ⟨[(.int .i64)], [.bool], f153, .no⟩ :=
  fn_contract types_all (env_cons f152_c env_nil) mixes (by kernel_rfl) (by kernel_rfl) (by kernel_rfl) (by kernel_rfl) f153_eq

/-! groat/tag.Get -/
abbrev f142_r := Int × Int × Int × Unit
abbrev f142_x := List UInt8 × Int × Unit
def f142_m (k : Nat) (x : f142_x) : Option f142_r :=
  (cond (decide (x.2.1 < (0 : Int))) (some ((0 : Int), ((0 : Int), ((1 : Int), ())))) (cond (decide (x.2.1 > ((((List.length x.1) : Nat) : Int)))) (some ((0 : Int), ((0 : Int), ((1 : Int), ())))) (cond (x.2.1 == ((((List.length x.1) : Nat) : Int))) (some ((0 : Int), ((0 : Int), ((2 : Int), ())))) (chk (decide ((0 : Int) ≤ x.2.1)) (chk (decide (x.2.1 < ((((List.length x.1) : Nat) : Int)))) ((f152 k ((IntKind.i64.wrap (((UInt8.toNat (List.getD x.1 (Int.toNat x.2.1) 0) : Nat) : Int))), ())).bind fun r1 => (cond (!r1.1) (some ((0 : Int), ((0 : Int), ((13 : Int), ())))) (cond ((bitsN .and .i64 (IntKind.i64.wrap (((UInt8.toNat (List.getD x.1 (Int.toNat x.2.1) 0) : Nat) : Int))) (31 : Int)) != (31 : Int)) (some ((IntKind.i64.wrap (((UInt8.toNat (List.getD x.1 (Int.toNat x.2.1) 0) : Nat) : Int))), ((IntKind.i64.wrap (x.2.1 + (1 : Int))), ((0 : Int), ())))) (cond ((IntKind.i64.wrap (x.2.1 + (1 : Int))) == ((((List.length x.1) : Nat) : Int))) (some ((0 : Int), ((0 : Int), ((2 : Int), ())))) (chk (decide ((0 : Int) ≤ (IntKind.i64.wrap (x.2.1 + (1 : Int))))) (chk (decide ((IntKind.i64.wrap (x.2.1 + (1 : Int))) < ((((List.length x.1) : Nat) : Int)))) ((f153 k ((bitsN .or .i64 (IntKind.i64.wrap ((IntKind.i64.wrap (((UInt8.toNat (List.getD x.1 (Int.toNat x.2.1) 0) : Nat) : Int))) * 2 ^ (min (Int.toNat (8 : Int)) (IntKind.bits IntKind.i64)))) (IntKind.i64.wrap (((UInt8.toNat (List.getD x.1 (Int.toNat (IntKind.i64.wrap (x.2.1 + (1 : Int)))) 0) : Nat) : Int)))), ())).bind fun r2 => (cond (!r2.1) (some ((0 : Int), ((0 : Int), ((13 : Int), ())))) (some ((bitsN .or .i64 (IntKind.i64.wrap ((IntKind.i64.wrap (((UInt8.toNat (List.getD x.1 (Int.toNat x.2.1) 0) : Nat) : Int))) * 2 ^ (min (Int.toNat (8 : Int)) (IntKind.bits IntKind.i64)))) (IntKind.i64.wrap (((UInt8.toNat (List.getD x.1 (Int.toNat (IntKind.i64.wrap (x.2.1 + (1 : Int)))) 0) : Nat) : Int)))), ((IntKind.i64.wrap (x.2.1 + (2 : Int))), ((0 : Int), ())))))))))))))))))
def f142 (k : Nat) (x : f142_x) : Option f142_r := f142_m k x
def f142_lv : Nat → Lp := lps []
def f142_G : Env := findL [(152, ⟨[(.int .i64)], [.bool], f152, .no⟩), (153, ⟨[(.int .i64)], [.bool], f153, .no⟩)]
theorem f142_e (k : Nat) (x : f142_x) : fnK types f142_G f142_lv k Try.f142 [.str, (.int .i64)] [(.int .i64), (.int .i64), (.int .i64)] x =
    f142_m k x := by kernel_rfl
theorem f142_eq (k : Nat) (x : f142_x) : fnK types f142_G f142_lv k Try.f142 [.str, (.int .i64)] [(.int .i64), (.int .i64), (.int .i64)] x = f142 k x :=
  f142_e k x
theorem f142_c : Contract Try.prog 142 ⟨[.str, (.int .i64)], [(.int .i64), (.int .i64), (.int .i64)], f142, .no⟩ :=
  fn_contract types_all (env_cons f152_c (env_cons f153_c env_nil)) mixes (by kernel_rfl) (by kernel_rfl) (by kernel_rfl) (by kernel_rfl) f142_eq

/-! groat/ber.Size -/
abbrev f154_r := Int × Unit
abbrev f154_x := Int × Unit
def f154_m (k : Nat) (x : f154_x) : Option f154_r :=
  (cond (decide (x.1 < (0 : Int))) (some ((0 : Int), ())) (cond (decide (x.1 > (65535 : Int))) (some ((0 : Int), ())) (cond (decide (x.1 > (255 : Int))) (some ((3 : Int), ())) (cond (decide (x.1 > (127 : Int))) (some ((2 : Int), ())) (some ((1 : Int), ()))))))
def f154 (k : Nat) (x : f154_x) : Option f154_r := f154_m k x
def f154_lv : Nat → Lp := lps []
def f154_G : Env := findL []
theorem f154_e (k : Nat) (x : f154_x) : fnK types f154_G f154_lv k Try.f154 [(.int .i64)] [(.int .i64)] x =
    f154_m k x := by kernel_rfl
theorem f154_eq (k : Nat) (x : f154_x) : fnK types f154_G f154_lv k Try.f154 [(.int .i64)] [(.int .i64)] x = f154 k x :=
  f154_e k x
theorem f154_c : Contract Try.prog 154 ⟨[(.int .i64)], [(.int .i64)], f154, .no⟩ :=
  fn_contract types_all env_nil mixes (by kernel_rfl) (by kernel_rfl) (by kernel_rfl) (by kernel_rfl) f154_eq

/-! groat/ber.Get -/
abbrev f143_r := Int × Int × Int × Unit
abbrev f143_x := List UInt8 × Int × Unit
abbrev f143_t14 := List UInt8 × Int × Int × Int × Int × Int
def f143_s14 (p : f143_t14) : St := [(0, .tv (.f (.c (.v .str p.1)))), (2, .tv (.f (.c (.v (.int .i64) p.2.1)))), (14, .tv (.f (.c (.v (.int .i64) p.2.2.1)))), (16, .tv (.f (.c (.v (.int .i64) p.2.2.2.1)))), (88, .tv (.f (.c (.v (.int .i64) p.2.2.2.2.1)))), (90, .tv (.f (.c (.v (.int .i64) p.2.2.2.2.2))))]
def f143_b14 (k : Nat) (R14 : f143_t14 → Option f143_r) (p : f143_t14) : Option f143_r :=
  (cond (decide (p.2.2.2.2.2 < p.2.2.2.2.1)) (chk (decide ((0 : Int) ≤ (IntKind.i64.wrap (p.2.1 + p.2.2.2.2.2)))) (chk (decide ((IntKind.i64.wrap (p.2.1 + p.2.2.2.2.2)) < ((((List.length p.1) : Nat) : Int)))) (R14 (p.1, (p.2.1, ((bitsN .or .i64 (IntKind.i64.wrap (p.2.2.1 * 2 ^ (min (Int.toNat (8 : Int)) (IntKind.bits IntKind.i64)))) (IntKind.i64.wrap (((UInt8.toNat (List.getD p.1 (Int.toNat (IntKind.i64.wrap (p.2.1 + p.2.2.2.2.2))) 0) : Nat) : Int)))), (p.2.2.2.1, (p.2.2.2.2.1, (IntKind.i64.wrap (p.2.2.2.2.2 + (1 : Int))))))))))) ((f154 k (p.2.2.1, ())).bind fun r1 => (cond (r1.1 != (IntKind.i64.wrap (p.2.2.2.1 + (1 : Int)))) (some ((0 : Int), ((0 : Int), ((14 : Int), ())))) (some (p.2.2.1, ((IntKind.i64.wrap (p.2.1 + p.2.2.2.1)), ((0 : Int), ())))))))
def f143_l14 (k : Nat) : f143_t14 → Option f143_r := loopP (fun R14 p => f143_b14 k R14 p) k
def f143_m (k : Nat) (A14 : f143_t14 → Option f143_r) (x : f143_x) : Option f143_r :=
  (cond (decide (x.2.1 < (0 : Int))) (some ((0 : Int), ((0 : Int), ((1 : Int), ())))) (cond (decide (x.2.1 > ((((List.length x.1) : Nat) : Int)))) (some ((0 : Int), ((0 : Int), ((1 : Int), ())))) (cond (x.2.1 == ((((List.length x.1) : Nat) : Int))) (some ((0 : Int), ((0 : Int), ((2 : Int), ())))) (chk (decide ((0 : Int) ≤ x.2.1)) (chk (decide (x.2.1 < ((((List.length x.1) : Nat) : Int)))) (cond (decide ((IntKind.i64.wrap (((UInt8.toNat (List.getD x.1 (Int.toNat x.2.1) 0) : Nat) : Int))) > (127 : Int))) (cond ((IntKind.i64.wrap (((UInt8.toNat (List.getD x.1 (Int.toNat x.2.1) 0) : Nat) : Int))) == (128 : Int)) (some ((0 : Int), ((0 : Int), ((14 : Int), ())))) (cond (decide ((IntKind.i64.wrap (((UInt8.toNat (List.getD x.1 (Int.toNat x.2.1) 0) : Nat) : Int))) > (130 : Int))) (some ((0 : Int), ((0 : Int), ((14 : Int), ())))) (cond (decide ((IntKind.i64.wrap (((((List.length x.1) : Nat) : Int)) - (IntKind.i64.wrap (x.2.1 + (1 : Int))))) < (IntKind.i64.wrap ((IntKind.i64.wrap (((UInt8.toNat (List.getD x.1 (Int.toNat x.2.1) 0) : Nat) : Int))) - (128 : Int))))) (some ((0 : Int), ((0 : Int), ((2 : Int), ())))) (A14 (x.1, ((IntKind.i64.wrap (x.2.1 + (1 : Int))), ((0 : Int), ((IntKind.i64.wrap ((IntKind.i64.wrap (((UInt8.toNat (List.getD x.1 (Int.toNat x.2.1) 0) : Nat) : Int))) - (128 : Int))), ((IntKind.i64.wrap ((IntKind.i64.wrap (((UInt8.toNat (List.getD x.1 (Int.toNat x.2.1) 0) : Nat) : Int))) - (128 : Int))), (0 : Int)))))))))) (cond (decide ((IntKind.i64.wrap (((((List.length x.1) : Nat) : Int)) - (IntKind.i64.wrap (x.2.1 + (1 : Int))))) < (0 : Int))) (some ((0 : Int), ((0 : Int), ((2 : Int), ())))) (A14 (x.1, ((IntKind.i64.wrap (x.2.1 + (1 : Int))), ((IntKind.i64.wrap (((UInt8.toNat (List.getD x.1 (Int.toNat x.2.1) 0) : Nat) : Int))), ((0 : Int), ((0 : Int), (0 : Int))))))))))))))
def f143 (k : Nat) (x : f143_x) : Option f143_r := f143_m k (f143_l14 k) x
def f143_lv : Nat → Lp := lps [(14, .keep [0, 1, 7, 8, 44, 45] [])]
def f143_G : Env := findL [(154, ⟨[(.int .i64)], [(.int .i64)], f154, .no⟩)]
theorem f143_e14 (k : Nat) (kn : St → Option f143_r) (p : f143_t14) : stepAt types f143_G f143_lv k Try.f143.ntmps (kns []) 14 (Try.f143.body.getD .skip) (topK types Try.f143 [(.int .i64), (.int .i64), (.int .i64)]) (f143_s14 p) kn =
    f143_b14 k (fun p => kn (f143_s14 p)) p := by kernel_rfl
theorem f143_q14 (k : Nat) (n : Nat) (p : f143_t14) : loopAt types f143_G f143_lv k Try.f143.ntmps (kns []) 14 (Try.f143.body.getD .skip) (topK types Try.f143 [(.int .i64), (.int .i64), (.int .i64)]) n (f143_s14 p) = loopP (fun R14 p => f143_b14 k R14 p) n p :=
  loopAt_eq (fun kn p => f143_e14 k kn p) n p
theorem f143_e (k : Nat) (x : f143_x) : fnK types f143_G f143_lv k Try.f143 [.str, (.int .i64)] [(.int .i64), (.int .i64), (.int .i64)] x =
    f143_m k (fun p => loopAt types f143_G f143_lv k Try.f143.ntmps (kns []) 14 (Try.f143.body.getD .skip) (topK types Try.f143 [(.int .i64), (.int .i64), (.int .i64)]) k (f143_s14 p)) x := by kernel_rfl
theorem f143_eq (k : Nat) (x : f143_x) : fnK types f143_G f143_lv k Try.f143 [.str, (.int .i64)] [(.int .i64), (.int .i64), (.int .i64)] x = f143 k x :=
  (f143_e k x).trans (congrFun (congrArg (f143_m k) (funext fun p => f143_q14 k k p)) x)
theorem f143_c : Contract Try.prog 143 ⟨[.str, (.int .i64)], [(.int .i64), (.int .i64), (.int .i64)], f143, .no⟩ :=
  fn_contract types_all (env_cons f154_c env_nil) mixes (by kernel_rfl) (by kernel_rfl) (by kernel_rfl) (by kernel_rfl) f143_eq

/-! groat/tlv.Get -/
abbrev f110_r := List (Int × List UInt8) × Int × Int × Unit
abbrev f110_x := List UInt8 × Unit
abbrev f110_t4 := List UInt8 × Int × List (Int × List UInt8) × List Int
def f110_s4 (p : f110_t4) : St := [(0, .tv (.f (.c (.v .str p.1)))), (10, .tv (.f (.c (.own 1320)))), (12, .tv (.f (.c (.mp 1384)))), (14, .tv (.f (.c (.v (.int .i64) p.2.1)))), (2641, .row 183 (.pair (.int .i64) .str) p.2.2.1), (2769, .set (.int .i64) p.2.2.2)]
def f110_b4 (k : Nat) (R4 : f110_t4 → Option f110_r) (p : f110_t4) : Option f110_r :=
  (cond (decide (p.2.1 < ((((List.length p.1) : Nat) : Int)))) ((f142 k (p.1, (p.2.1, ()))).bind fun r1 => (cond (r1.2.2.1 != (0 : Int)) (some (([] : List (Int × List UInt8)), (r1.2.2.1, (p.2.1, ())))) ((f143 k (p.1, (r1.2.1, ()))).bind fun r2 => (cond (r2.2.2.1 != (0 : Int)) (some (([] : List (Int × List UInt8)), (r2.2.2.1, (r1.2.1, ())))) (cond (decide ((IntKind.i64.wrap (((((List.length p.1) : Nat) : Int)) - r2.2.1)) < r2.1)) (some (([] : List (Int × List UInt8)), ((2 : Int), (((((List.length p.1) : Nat) : Int)), ())))) (cond (hasI p.2.2.2 r1.1) (some (([] : List (Int × List UInt8)), ((10 : Int), (p.2.1, ())))) (chk (decide ((0 : Int) ≤ r2.2.1)) (chk (decide (r2.2.1 ≤ (IntKind.i64.wrap (r2.2.1 + r2.1)))) (chk (decide ((IntKind.i64.wrap (r2.2.1 + r2.1)) ≤ ((((List.length p.1) : Nat) : Int)))) (chk (decide ((((List.length p.2.2.1) + (List.length ([(r1.1, (List.drop (Int.toNat r2.2.1) (List.take (Int.toNat (IntKind.i64.wrap (r2.2.1 + r2.1))) p.1)))]))) * (24 : Nat)) ≤ (140737488355328 : Nat))) (chk (decide (((List.length p.2.2.1) + (List.length ([(r1.1, (List.drop (Int.toNat r2.2.1) (List.take (Int.toNat (IntKind.i64.wrap (r2.2.1 + r2.1))) p.1)))]))) ≤ (9223372036854775807 : Nat))) (R4 (p.1, ((IntKind.i64.wrap (r2.2.1 + r2.1)), ((p.2.2.1 ++ ([(r1.1, (List.drop (Int.toNat r2.2.1) (List.take (Int.toNat (IntKind.i64.wrap (r2.2.1 + r2.1))) p.1)))])), (putI p.2.2.2 r1.1)))))))))))))))) (some (p.2.2.1, ((0 : Int), ((0 : Int), ())))))
def f110_l4 (k : Nat) : f110_t4 → Option f110_r := loopP (fun R4 p => f110_b4 k R4 p) k
def f110_m (k : Nat) (A4 : f110_t4 → Option f110_r) (x : f110_x) : Option f110_r :=
  (A4 (x.1, ((0 : Int), (([] : List (Int × List UInt8)), ([] : List Int)))))
def f110 (k : Nat) (x : f110_x) : Option f110_r := f110_m k (f110_l4 k) x
def f110_lv : Nat → Lp := lps [(4, .keep [0, 5, 6, 7] [(10, 0, .own 183 300640)])]
def f110_G : Env := findL [(142, ⟨[.str, (.int .i64)], [(.int .i64), (.int .i64), (.int .i64)], f142, .no⟩), (143, ⟨[.str, (.int .i64)], [(.int .i64), (.int .i64), (.int .i64)], f143, .no⟩)]
theorem f110_e4 (k : Nat) (kn : St → Option f110_r) (p : f110_t4) : stepAt types f110_G f110_lv k Try.f110.ntmps (kns []) 4 (Try.f110.body.getD .skip) (topK types Try.f110 [(.sl (.pair (.int .i64) .str)), (.int .i64), (.int .i64)]) (f110_s4 p) kn =
    f110_b4 k (fun p => kn (f110_s4 p)) p := by kernel_rfl
theorem f110_q4 (k : Nat) (n : Nat) (p : f110_t4) : loopAt types f110_G f110_lv k Try.f110.ntmps (kns []) 4 (Try.f110.body.getD .skip) (topK types Try.f110 [(.sl (.pair (.int .i64) .str)), (.int .i64), (.int .i64)]) n (f110_s4 p) = loopP (fun R4 p => f110_b4 k R4 p) n p :=
  loopAt_eq (fun kn p => f110_e4 k kn p) n p
theorem f110_e (k : Nat) (x : f110_x) : fnK types f110_G f110_lv k Try.f110 [.str] [(.sl (.pair (.int .i64) .str)), (.int .i64), (.int .i64)] x =
    f110_m k (fun p => loopAt types f110_G f110_lv k Try.f110.ntmps (kns []) 4 (Try.f110.body.getD .skip) (topK types Try.f110 [(.sl (.pair (.int .i64) .str)), (.int .i64), (.int .i64)]) k (f110_s4 p)) x := by kernel_rfl
theorem f110_eq (k : Nat) (x : f110_x) : fnK types f110_G f110_lv k Try.f110 [.str] [(.sl (.pair (.int .i64) .str)), (.int .i64), (.int .i64)] x = f110 k x :=
  (f110_e k x).trans (congrFun (congrArg (f110_m k) (funext fun p => f110_q4 k k p)) x)
theorem f110_c : Contract Try.prog 110 ⟨[.str], [(.sl (.pair (.int .i64) .str)), (.int .i64), (.int .i64)], f110, .no⟩ :=
  fn_contract types_all (env_cons f142_c (env_cons f143_c env_nil)) mixes (by kernel_rfl) (by kernel_rfl) (by kernel_rfl) (by kernel_rfl) f110_eq

/-! groat/spec.Value -/
abbrev f65_r := Int × Unit
abbrev f65_x := (Int × Int × Int × Int × Int) × List UInt8 × Unit
def f65_m (k : Nat) (x : f65_x) : Option f65_r :=
  ((f92 k (x.1, ())).bind fun r1 => (cond (r1.1 != (0 : Int)) (some ((1 : Int), ())) (cond (decide (((((List.length x.2.1) : Nat) : Int)) < x.1.2.2.2.1)) (some ((5 : Int), ())) (cond (decide (((((List.length x.2.1) : Nat) : Int)) > x.1.2.2.2.2)) (some ((5 : Int), ())) ((f109 k (x.1.2.1, (x.2.1, ()))).bind fun r2 => (cond (decide (r2.1 ≥ (0 : Int))) (some ((6 : Int), ())) (cond (x.1.2.1 == (6 : Int)) ((f110 k (x.2.1, ())).bind fun r3 => (cond (r3.2.1 != (0 : Int)) (some ((13 : Int), ())) (some ((0 : Int), ())))) (some ((0 : Int), ())))))))))
def f65 (k : Nat) (x : f65_x) : Option f65_r := f65_m k x
def f65_lv : Nat → Lp := lps []
def f65_G : Env := findL [(92, ⟨[y66], [(.int .i64)], f92, .no⟩), (109, ⟨[(.int .i64), .str], [(.int .i64)], f109, .no⟩), (110, ⟨[.str], [(.sl (.pair (.int .i64) .str)), (.int .i64), (.int .i64)], f110, .no⟩)]
theorem f65_e (k : Nat) (x : f65_x) : fnK types f65_G f65_lv k Try.f65 [y66, .str] [(.int .i64)] x =
    f65_m k x := by kernel_rfl
theorem f65_eq (k : Nat) (x : f65_x) : fnK types f65_G f65_lv k Try.f65 [y66, .str] [(.int .i64)] x = f65 k x :=
  f65_e k x
theorem f65_c : Contract Try.prog 65 ⟨[y66, .str], [(.int .i64)], f65, .no⟩ :=
  fn_contract types_all (env_cons f92_c (env_cons f109_c (env_cons f110_c env_nil))) mixes (by kernel_rfl) (by kernel_rfl) (by kernel_rfl) (by kernel_rfl) f65_eq

/-! slices.IndexFunc[[]groat/api.Code,groat/api.Code] -/
abbrev f150_r := Int × Unit
abbrev f150_x := List (Int × List UInt8) × (Int × List UInt8) × Unit
abbrev f150_t2 := List (Int × List UInt8) × (Int × List UInt8) × Int × Int
def f150_s2 (p : f150_t2) : St := [(0, .tv (.f (.c (.v (.sl (.pair (.int .i64) .str)) p.1)))), (2, .tv (.f (.c (.v (.fn 135 (.pair (.int .i64) .str)) p.2.1)))), (14, .tv (.f (.c (.v (.int .i64) p.2.2.1)))), (16, .tv (.f (.c (.v (.int .i64) p.2.2.2))))]
def f150_b2 (k : Nat) (R2 : f150_t2 → Option f150_r) (p : f150_t2) : Option f150_r :=
  (cond (decide (p.2.2.2 < p.2.2.1)) (chk (decide ((0 : Int) ≤ p.2.2.2)) (chk (decide (p.2.2.2 < ((((List.length p.1) : Nat) : Int)))) ((f135 k ((List.getD p.1 (Int.toNat p.2.2.2) ((0 : Int), ([] : List UInt8))), (p.2.1, ()))).bind fun r1 => (cond r1.1 (some (p.2.2.2, ())) (R2 (p.1, (p.2.1, (p.2.2.1, (IntKind.i64.wrap (p.2.2.2 + (1 : Int))))))))))) (some ((-1 : Int), ())))
def f150_l2 (k : Nat) : f150_t2 → Option f150_r := loopP (fun R2 p => f150_b2 k R2 p) k
def f150_m (k : Nat) (A2 : f150_t2 → Option f150_r) (x : f150_x) : Option f150_r :=
  (A2 (x.1, (x.2.1, (((((List.length x.1) : Nat) : Int)), (0 : Int)))))
def f150 (k : Nat) (x : f150_x) : Option f150_r := f150_m k (f150_l2 k) x
def f150_lv : Nat → Lp := lps [(2, .keep [0, 1, 7, 8] [])]
def f150_G : Env := findL [(135, ⟨[(.pair (.int .i64) .str), (.refp (.pair (.int .i64) .str))], [.bool], f135, .no⟩)]
theorem f150_e2 (k : Nat) (kn : St → Option f150_r) (p : f150_t2) : stepAt types f150_G f150_lv k Try.f150.ntmps (kns []) 2 (Try.f150.body.getD .skip) (topK types Try.f150 [(.int .i64)]) (f150_s2 p) kn =
    f150_b2 k (fun p => kn (f150_s2 p)) p := by kernel_rfl
theorem f150_q2 (k : Nat) (n : Nat) (p : f150_t2) : loopAt types f150_G f150_lv k Try.f150.ntmps (kns []) 2 (Try.f150.body.getD .skip) (topK types Try.f150 [(.int .i64)]) n (f150_s2 p) = loopP (fun R2 p => f150_b2 k R2 p) n p :=
  loopAt_eq (fun kn p => f150_e2 k kn p) n p
theorem f150_e (k : Nat) (x : f150_x) : fnK types f150_G f150_lv k Try.f150 [(.sl (.pair (.int .i64) .str)), (.fn 135 (.pair (.int .i64) .str))] [(.int .i64)] x =
    f150_m k (fun p => loopAt types f150_G f150_lv k Try.f150.ntmps (kns []) 2 (Try.f150.body.getD .skip) (topK types Try.f150 [(.int .i64)]) k (f150_s2 p)) x := by kernel_rfl
theorem f150_eq (k : Nat) (x : f150_x) : fnK types f150_G f150_lv k Try.f150 [(.sl (.pair (.int .i64) .str)), (.fn 135 (.pair (.int .i64) .str))] [(.int .i64)] x = f150 k x :=
  (f150_e k x).trans (congrFun (congrArg (f150_m k) (funext fun p => f150_q2 k k p)) x)
theorem f150_c : Contract Try.prog 150 ⟨[(.sl (.pair (.int .i64) .str)), (.fn 135 (.pair (.int .i64) .str))], [(.int .i64)], f150, .no⟩ :=
  fn_contract types_all (env_cons f135_c env_nil) mixes (by kernel_rfl) (by kernel_rfl) (by kernel_rfl) (by kernel_rfl) f150_eq

/-! slices.ContainsFunc[[]groat/api.Code,groat/api.Code] -/
abbrev f134_r := Bool × Unit
abbrev f134_x := List (Int × List UInt8) × (Int × List UInt8) × Unit
def f134_m (k : Nat) (x : f134_x) : Option f134_r :=
  ((f150 k (x.1, (x.2.1, ()))).bind fun r1 => (some ((decide (r1.1 ≥ (0 : Int))), ())))
def f134 (k : Nat) (x : f134_x) : Option f134_r := f134_m k x
def f134_lv : Nat → Lp := lps []
def f134_G : Env := findL [(150, ⟨[(.sl (.pair (.int .i64) .str)), (.fn 135 (.pair (.int .i64) .str))], [(.int .i64)], f150, .no⟩)]
theorem f134_e (k : Nat) (x : f134_x) : fnK types f134_G f134_lv k Try.f134 [(.sl (.pair (.int .i64) .str)), (.fn 135 (.pair (.int .i64) .str))] [.bool] x =
    f134_m k x := by kernel_rfl
theorem f134_eq (k : Nat) (x : f134_x) : fnK types f134_G f134_lv k Try.f134 [(.sl (.pair (.int .i64) .str)), (.fn 135 (.pair (.int .i64) .str))] [.bool] x = f134 k x :=
  f134_e k x
theorem f134_c : Contract Try.prog 134 ⟨[(.sl (.pair (.int .i64) .str)), (.fn 135 (.pair (.int .i64) .str))], [.bool], f134, .no⟩ :=
  fn_contract types_all (env_cons f150_c env_nil) mixes (by kernel_rfl) (by kernel_rfl) (by kernel_rfl) (by kernel_rfl) f134_eq

/-! groat/reject.code -/
abbrev f99_r := Int × Unit
abbrev f99_x := ((Int × Int × List (Int × Int × Int × Int × Int)) × (List (List UInt8 × List UInt8) × List (Int × Int × Int × List UInt8 × List (List UInt8 × List UInt8))) × List Int × List (Int × List UInt8)) × Int × (Int × Int × Int × Int × Int) × Unit
def f99_m (k : Nat) (x : f99_x) : Option f99_r :=
  (chk (decide ((0 : Int) ≤ x.2.1)) (chk (decide (x.2.1 < ((((List.length x.1.2.2.2) : Nat) : Int)))) (cond (decide ((List.getD x.1.2.2.2 (Int.toNat x.2.1) ((0 : Int), ([] : List UInt8))).1 < (0 : Int))) (some ((1 : Int), ())) (cond (decide ((List.getD x.1.2.2.2 (Int.toNat x.2.1) ((0 : Int), ([] : List UInt8))).1 > (16 : Int))) (some ((1 : Int), ())) (chk (decide ((0 : Int) ≤ x.2.1)) (chk (decide (x.2.1 ≤ ((((List.length x.1.2.2.2) : Nat) : Int)))) ((f134 k ((List.drop (0 : Nat) (List.take (Int.toNat x.2.1) x.1.2.2.2)), ((List.getD x.1.2.2.2 (Int.toNat x.2.1) ((0 : Int), ([] : List UInt8))), ()))).bind fun r1 => (cond r1.1 (some ((10 : Int), ())) ((f65 k (x.2.2.1, ((List.getD x.1.2.2.2 (Int.toNat x.2.1) ((0 : Int), ([] : List UInt8))).2, ()))).bind fun r2 => (some (r2.1, ())))))))))))
def f99 (k : Nat) (x : f99_x) : Option f99_r := f99_m k x
def f99_lv : Nat → Lp := lps []
def f99_G : Env := findL [(65, ⟨[y66, .str], [(.int .i64)], f65, .no⟩), (134, ⟨[(.sl (.pair (.int .i64) .str)), (.fn 135 (.pair (.int .i64) .str))], [.bool], f134, .no⟩), (135, ⟨[(.pair (.int .i64) .str), (.refp (.pair (.int .i64) .str))], [.bool], f135, .no⟩)]
theorem f99_e (k : Nat) (x : f99_x) : fnK types f99_G f99_lv k Try.f99 [(.pair (.pair (.int .i64) (.pair (.int .i64) (.sl y66))) (.pair (.pair (.sl (.pair .str .str)) (.sl y207)) (.pair (.sl (.int .i64)) (.sl (.pair (.int .i64) .str))))), (.int .i64), y66] [(.int .i64)] x =
    f99_m k x := by kernel_rfl
theorem f99_eq (k : Nat) (x : f99_x) : fnK types f99_G f99_lv k Try.f99 [(.pair (.pair (.int .i64) (.pair (.int .i64) (.sl y66))) (.pair (.pair (.sl (.pair .str .str)) (.sl y207)) (.pair (.sl (.int .i64)) (.sl (.pair (.int .i64) .str))))), (.int .i64), y66] [(.int .i64)] x = f99 k x :=
  f99_e k x
theorem f99_c : Contract Try.prog 99 ⟨[(.pair (.pair (.int .i64) (.pair (.int .i64) (.sl y66))) (.pair (.pair (.sl (.pair .str .str)) (.sl y207)) (.pair (.sl (.int .i64)) (.sl (.pair (.int .i64) .str))))), (.int .i64), y66], [(.int .i64)], f99, .no⟩ :=
  fn_contract types_all (env_cons f65_c (env_cons f134_c (env_cons f135_c env_nil))) mixes (by kernel_rfl) (by kernel_rfl) (by kernel_rfl) (by kernel_rfl) f99_eq

/-! groat/reject.Check -/
abbrev f50_r := Int × Int × Int × Unit
abbrev f50_x := ((Int × Int × List (Int × Int × Int × Int × Int)) × (List (List UInt8 × List UInt8) × List (Int × Int × Int × List UInt8 × List (List UInt8 × List UInt8))) × List Int × List (Int × List UInt8)) × Unit
abbrev f50_t16 := Bool × List (Int × List UInt8) × Int × Int × Int × Int × List (Int × Int × Int × Int × Int) × List (List UInt8 × List UInt8) × List (Int × Int × Int × List UInt8 × List (List UInt8 × List UInt8)) × List Int × List (Int × List UInt8) × Int × Int × Int × Int × Int
abbrev f50_t8 := Int × Int × Int × Int × List (Int × Int × Int × Int × Int) × List (List UInt8 × List UInt8) × List (Int × Int × Int × List UInt8 × List (List UInt8 × List UInt8)) × List Int × List (Int × List UInt8) × Int × Int × Int × Int × Int
def f50_s16 (p : f50_t16) : St := [(2, .tv (.f (.c (.ptr 1064 0)))), (14, .tv (.f (.c (.ptr 1448 0)))), (22, .tv (.f (.c (.v .bool p.1)))), (92, .tv (.f (.c (.v (.sl (.pair (.int .i64) .str)) p.2.1)))), (94, .tv (.f (.c (.v (.int .i64) p.2.2.1)))), (96, .tv (.f (.c (.v (.int .i64) p.2.2.2.1)))), (2129, .box [.v (.int .i64) p.2.2.2.2.1, .v (.int .i64) p.2.2.2.2.2.1, .v (.sl y66) p.2.2.2.2.2.2.1, .v (.sl (.pair .str .str)) p.2.2.2.2.2.2.2.1, .v (.sl y207) p.2.2.2.2.2.2.2.2.1, .v (.sl (.int .i64)) p.2.2.2.2.2.2.2.2.2.1, .v (.sl (.pair (.int .i64) .str)) p.2.2.2.2.2.2.2.2.2.2.1]), (2897, .box [.v (.int .i64) p.2.2.2.2.2.2.2.2.2.2.2.1, .v (.int .i64) p.2.2.2.2.2.2.2.2.2.2.2.2.1, .v (.int .i64) p.2.2.2.2.2.2.2.2.2.2.2.2.2.1, .v (.int .i64) p.2.2.2.2.2.2.2.2.2.2.2.2.2.2.1, .v (.int .i64) p.2.2.2.2.2.2.2.2.2.2.2.2.2.2.2])]
def f50_b16 (k : Nat) (R16 : f50_t16 → Option f50_r) (p : f50_t16) : Option f50_r :=
  (cond (decide (p.2.2.2.1 < p.2.2.1)) (chk (decide ((0 : Int) ≤ p.2.2.2.1)) (chk (decide (p.2.2.2.1 < ((((List.length p.2.1) : Nat) : Int)))) ((f99 k (((p.2.2.2.2.1, (p.2.2.2.2.2.1, p.2.2.2.2.2.2.1)), ((p.2.2.2.2.2.2.2.1, p.2.2.2.2.2.2.2.2.1), (p.2.2.2.2.2.2.2.2.2.1, p.2.2.2.2.2.2.2.2.2.2.1))), (p.2.2.2.1, (p.2.2.2.2.2.2.2.2.2.2.2, ())))).bind fun r4 => (cond (r4.1 != (0 : Int)) (some (r4.1, ((3 : Int), (p.2.2.2.1, ())))) (cond p.1 (R16 (true, (p.2.1, (p.2.2.1, ((IntKind.i64.wrap (p.2.2.2.1 + (1 : Int))), p.2.2.2.2))))) (R16 (((List.getD p.2.1 (Int.toNat p.2.2.2.1) ((0 : Int), ([] : List UInt8))).1 == (0 : Int)), (p.2.1, (p.2.2.1, ((IntKind.i64.wrap (p.2.2.2.1 + (1 : Int))), p.2.2.2.2)))))))))) (cond (!p.1) (some ((15 : Int), ((3 : Int), (((((List.length p.2.2.2.2.2.2.2.2.2.2.1) : Nat) : Int)), ())))) (some ((0 : Int), ((0 : Int), ((0 : Int), ()))))))
def f50_l16 (k : Nat) : f50_t16 → Option f50_r := loopP (fun R16 p => f50_b16 k R16 p) k
def f50_s8 (p : f50_t8) : St := [(2, .tv (.f (.c (.ptr 1064 0)))), (14, .tv (.f (.c (.ptr 1448 0)))), (66, .tv (.f (.c (.v (.int .i64) p.1)))), (68, .tv (.f (.c (.v (.int .i64) p.2.1)))), (2129, .box [.v (.int .i64) p.2.2.1, .v (.int .i64) p.2.2.2.1, .v (.sl y66) p.2.2.2.2.1, .v (.sl (.pair .str .str)) p.2.2.2.2.2.1, .v (.sl y207) p.2.2.2.2.2.2.1, .v (.sl (.int .i64)) p.2.2.2.2.2.2.2.1, .v (.sl (.pair (.int .i64) .str)) p.2.2.2.2.2.2.2.2.1]), (2897, .box [.v (.int .i64) p.2.2.2.2.2.2.2.2.2.1, .v (.int .i64) p.2.2.2.2.2.2.2.2.2.2.1, .v (.int .i64) p.2.2.2.2.2.2.2.2.2.2.2.1, .v (.int .i64) p.2.2.2.2.2.2.2.2.2.2.2.2.1, .v (.int .i64) p.2.2.2.2.2.2.2.2.2.2.2.2.2])]
def f50_b8 (k : Nat) (A16 : f50_t16 → Option f50_r) (R8 : f50_t8 → Option f50_r) (p : f50_t8) : Option f50_r :=
  (cond (decide (p.2.1 < p.1)) ((f98 k (((p.2.2.1, (p.2.2.2.1, p.2.2.2.2.1)), ((p.2.2.2.2.2.1, p.2.2.2.2.2.2.1), (p.2.2.2.2.2.2.2.1, p.2.2.2.2.2.2.2.2.1))), (p.2.1, ()))).bind fun r3 => (cond (r3.1 != (0 : Int)) (some (r3.1, ((2 : Int), (p.2.1, ())))) (R8 (p.1, ((IntKind.i64.wrap (p.2.1 + (1 : Int))), p.2.2))))) (A16 (false, (p.2.2.2.2.2.2.2.2.1, (((((List.length p.2.2.2.2.2.2.2.2.1) : Nat) : Int)), ((0 : Int), p.2.2))))))
def f50_l8 (k : Nat) : f50_t8 → Option f50_r := loopP (fun R8 p => f50_b8 k (f50_l16 k) R8 p) k
def f50_m (k : Nat) (A8 : f50_t8 → Option f50_r) (x : f50_x) : Option f50_r :=
  ((f63 k (x.1.1, ())).bind fun r1 => (cond (r1.1 != (0 : Int)) (some ((1 : Int), ((1 : Int), ((0 : Int), ())))) ((f40 k (x.1.1, ((39 : Int), ()))).bind fun r2 => (cond (!r2.2.1) (some ((9 : Int), ((1 : Int), ((1 : Int), ())))) (A8 (((((List.length x.1.2.2.1) : Nat) : Int)), ((0 : Int), (x.1.1.1, (x.1.1.2.1, (x.1.1.2.2, (x.1.2.1.1, (x.1.2.1.2, (x.1.2.2.1, (x.1.2.2.2, r2.1))))))))))))))
def f50 (k : Nat) (x : f50_x) : Option f50_r := f50_m k (f50_l8 k) x
def f50_lv : Nat → Lp := lps [(16, .keep [1, 7, 11, 46, 47, 48] []), (8, .keep [1, 7, 33, 34] [])]
def f50_G : Env := findL [(40, ⟨[(.pair (.int .i64) (.pair (.int .i64) (.sl y66))), (.int .i64)], [y66, .bool], f40, .no⟩), (63, ⟨[(.pair (.int .i64) (.pair (.int .i64) (.sl y66)))], [(.int .i64), (.int .i64)], f63, .no⟩), (98, ⟨[(.pair (.pair (.int .i64) (.pair (.int .i64) (.sl y66))) (.pair (.pair (.sl (.pair .str .str)) (.sl y207)) (.pair (.sl (.int .i64)) (.sl (.pair (.int .i64) .str))))), (.int .i64)], [(.int .i64)], f98, .no⟩), (99, ⟨[(.pair (.pair (.int .i64) (.pair (.int .i64) (.sl y66))) (.pair (.pair (.sl (.pair .str .str)) (.sl y207)) (.pair (.sl (.int .i64)) (.sl (.pair (.int .i64) .str))))), (.int .i64), y66], [(.int .i64)], f99, .no⟩)]
theorem f50_e16 (k : Nat) (kn : St → Option f50_r) (p : f50_t16) : stepAt types f50_G f50_lv k Try.f50.ntmps (kns []) 16 (Try.f50.body.getD .skip) (topK types Try.f50 [(.int .i64), (.int .i64), (.int .i64)]) (f50_s16 p) kn =
    f50_b16 k (fun p => kn (f50_s16 p)) p := by kernel_rfl
theorem f50_q16 (k : Nat) (n : Nat) (p : f50_t16) : loopAt types f50_G f50_lv k Try.f50.ntmps (kns []) 16 (Try.f50.body.getD .skip) (topK types Try.f50 [(.int .i64), (.int .i64), (.int .i64)]) n (f50_s16 p) = loopP (fun R16 p => f50_b16 k R16 p) n p :=
  loopAt_eq (fun kn p => f50_e16 k kn p) n p
theorem f50_e8 (k : Nat) (kn : St → Option f50_r) (p : f50_t8) : stepAt types f50_G f50_lv k Try.f50.ntmps (kns []) 8 (Try.f50.body.getD .skip) (topK types Try.f50 [(.int .i64), (.int .i64), (.int .i64)]) (f50_s8 p) kn =
    f50_b8 k (fun p => loopAt types f50_G f50_lv k Try.f50.ntmps (kns []) 16 (Try.f50.body.getD .skip) (topK types Try.f50 [(.int .i64), (.int .i64), (.int .i64)]) k (f50_s16 p)) (fun p => kn (f50_s8 p)) p := by kernel_rfl
theorem f50_q8 (k : Nat) (n : Nat) (p : f50_t8) : loopAt types f50_G f50_lv k Try.f50.ntmps (kns []) 8 (Try.f50.body.getD .skip) (topK types Try.f50 [(.int .i64), (.int .i64), (.int .i64)]) n (f50_s8 p) = loopP (fun R8 p => f50_b8 k (f50_l16 k) R8 p) n p :=
  loopAt_eq (fun kn p => (f50_e8 k kn p).trans (congrFun (congrFun (congrArg (f50_b8 k) (funext fun p => f50_q16 k k p)) _) _)) n p
theorem f50_e (k : Nat) (x : f50_x) : fnK types f50_G f50_lv k Try.f50 [(.pair (.pair (.int .i64) (.pair (.int .i64) (.sl y66))) (.pair (.pair (.sl (.pair .str .str)) (.sl y207)) (.pair (.sl (.int .i64)) (.sl (.pair (.int .i64) .str)))))] [(.int .i64), (.int .i64), (.int .i64)] x =
    f50_m k (fun p => loopAt types f50_G f50_lv k Try.f50.ntmps (kns []) 8 (Try.f50.body.getD .skip) (topK types Try.f50 [(.int .i64), (.int .i64), (.int .i64)]) k (f50_s8 p)) x := by kernel_rfl
theorem f50_eq (k : Nat) (x : f50_x) : fnK types f50_G f50_lv k Try.f50 [(.pair (.pair (.int .i64) (.pair (.int .i64) (.sl y66))) (.pair (.pair (.sl (.pair .str .str)) (.sl y207)) (.pair (.sl (.int .i64)) (.sl (.pair (.int .i64) .str)))))] [(.int .i64), (.int .i64), (.int .i64)] x = f50 k x :=
  (f50_e k x).trans (congrFun (congrArg (f50_m k) (funext fun p => f50_q8 k k p)) x)
theorem f50_c : Contract Try.prog 50 ⟨[(.pair (.pair (.int .i64) (.pair (.int .i64) (.sl y66))) (.pair (.pair (.sl (.pair .str .str)) (.sl y207)) (.pair (.sl (.int .i64)) (.sl (.pair (.int .i64) .str)))))], [(.int .i64), (.int .i64), (.int .i64)], f50, .no⟩ :=
  fn_contract types_all (env_cons f40_c (env_cons f63_c (env_cons f98_c (env_cons f99_c env_nil)))) mixes (by kernel_rfl) (by kernel_rfl) (by kernel_rfl) (by kernel_rfl) f50_eq

/-! groat/groatlaw23.awake -/
abbrev f17_r := Bool × Unit
abbrev f17_x := Unit
def f17_m (k : Nat) (x : f17_x) : Option f17_r :=
  ((f49 k ((0 : Int), ())).bind fun r1 => ((f20 k ((r1.1, ((([] : List (List UInt8 × List UInt8)), ([] : List (Int × Int × Int × List UInt8 × List (List UInt8 × List UInt8)))), (([(11 : Int), (41 : Int)]), ([((0 : Int), ([57, 54] : List UInt8)), ((2 : Int), ([51, 48] : List UInt8))])))), ((([48, 50, 48, 48] : List UInt8), ([((3 : Int), ([48, 48, 48, 48, 48, 48] : List UInt8)), ((11 : Int), ([49, 50, 51, 52, 53, 54] : List UInt8))])), (((2 : Int), (0 : Int)), ())))).bind fun r2 => ((f20 k ((r1.1, ((([] : List (List UInt8 × List UInt8)), ([] : List (Int × Int × Int × List UInt8 × List (List UInt8 × List UInt8)))), (([(11 : Int), (41 : Int)]), ([((0 : Int), ([57, 54] : List UInt8)), ((2 : Int), ([51, 48] : List UInt8))])))), ((([48, 50, 49, 48] : List UInt8), ([] : List (Int × List UInt8))), (((2 : Int), (0 : Int)), ())))).bind fun r3 => ((f50 k ((r1.1, ((([] : List (List UInt8 × List UInt8)), ([] : List (Int × Int × Int × List UInt8 × List (List UInt8 × List UInt8)))), (([(11 : Int), (41 : Int)]), ([((0 : Int), ([57, 54] : List UInt8)), ((2 : Int), ([51, 48] : List UInt8))])))), ())).bind fun r4 => ((f24 k (r2.1, ((([48, 50, 49, 48] : List UInt8), ([((11 : Int), ([49, 50, 51, 52, 53, 54] : List UInt8)), ((39 : Int), ([51, 48] : List UInt8))])), ()))).bind fun r5 => (cond r5.1 (cond r2.2.1 (cond (!r3.2.1) (cond (r4.1 == (0 : Int)) (cond (r4.2.1 == (0 : Int)) (cond (r4.2.2.1 == (0 : Int)) ((f27 k ((r1.1, ((([] : List (List UInt8 × List UInt8)), ([] : List (Int × Int × Int × List UInt8 × List (List UInt8 × List UInt8)))), (([(11 : Int), (41 : Int)]), ([((0 : Int), ([57, 54] : List UInt8)), ((2 : Int), ([51, 48] : List UInt8))])))), ((13 : Int), ()))).bind fun r6 => (some ((r6.1 == ([57, 54] : List UInt8)), ()))) (some (false, ()))) (some (false, ()))) (some (false, ()))) (some (false, ()))) (some (false, ()))) (some (false, ()))))))))
def f17 (k : Nat) (x : f17_x) : Option f17_r := f17_m k x
def f17_lv : Nat → Lp := lps [(1, .freeze [11, 14])]
def f17_G : Env := findL [(20, ⟨[(.pair (.pair (.int .i64) (.pair (.int .i64) (.sl y66))) (.pair (.pair (.sl (.pair .str .str)) (.sl y207)) (.pair (.sl (.int .i64)) (.sl (.pair (.int .i64) .str))))), y34, (.pair (.int .i64) (.int .i64))], [y34, .bool], f20, .no⟩), (24, ⟨[y34, y34], [.bool], f24, .no⟩), (27, ⟨[(.pair (.pair (.int .i64) (.pair (.int .i64) (.sl y66))) (.pair (.pair (.sl (.pair .str .str)) (.sl y207)) (.pair (.sl (.int .i64)) (.sl (.pair (.int .i64) .str))))), (.int .i64)], [.str], f27, .no⟩), (49, ⟨[(.int .i64)], [(.pair (.int .i64) (.pair (.int .i64) (.sl y66)))], f49, .no⟩), (50, ⟨[(.pair (.pair (.int .i64) (.pair (.int .i64) (.sl y66))) (.pair (.pair (.sl (.pair .str .str)) (.sl y207)) (.pair (.sl (.int .i64)) (.sl (.pair (.int .i64) .str)))))], [(.int .i64), (.int .i64), (.int .i64)], f50, .no⟩)]
theorem f17_e (k : Nat) (x : f17_x) : fnK types f17_G f17_lv k Try.f17 [] [.bool] x =
    f17_m k x := by kernel_rfl
theorem f17_eq (k : Nat) (x : f17_x) : fnK types f17_G f17_lv k Try.f17 [] [.bool] x = f17 k x :=
  f17_e k x
theorem f17_c : Contract Try.prog 17 ⟨[], [.bool], f17, .no⟩ :=
  fn_contract types_all (env_cons f20_c (env_cons f24_c (env_cons f27_c (env_cons f49_c (env_cons f50_c env_nil))))) mixes (by kernel_rfl) (by kernel_rfl) (by kernel_rfl) (by kernel_rfl) f17_eq

/-! groat/groatref23.Great -/
abbrev f18_r := Bool × Unit
abbrev f18_x := ((Int × Int × List (Int × Int × Int × Int × Int)) × (List (List UInt8 × List UInt8) × List (Int × Int × Int × List UInt8 × List (List UInt8 × List UInt8))) × List Int × List (Int × List UInt8)) × Unit
abbrev f18_t4 := Int × Int × Int × List (Int × Int × Int × Int × Int) × List (List UInt8 × List UInt8) × List (Int × Int × Int × List UInt8 × List (List UInt8 × List UInt8)) × List Int × List (Int × List UInt8)
def f18_s4 (p : f18_t4) : St := [(2, .tv (.f (.c (.ptr 1064 0)))), (6, .tv (.f (.c (.v (.int .i64) p.1)))), (2129, .box [.v (.int .i64) p.2.1, .v (.int .i64) p.2.2.1, .v (.sl y66) p.2.2.2.1, .v (.sl (.pair .str .str)) p.2.2.2.2.1, .v (.sl y207) p.2.2.2.2.2.1, .v (.sl (.int .i64)) p.2.2.2.2.2.2.1, .v (.sl (.pair (.int .i64) .str)) p.2.2.2.2.2.2.2])]
def f18_b4 (k : Nat) (R4 : f18_t4 → Option f18_r) (p : f18_t4) : Option f18_r :=
  (cond (decide (p.1 < ((((List.length p.2.2.2.2.2.2.2) : Nat) : Int)))) (chk (decide ((0 : Int) ≤ p.1)) (chk (decide (p.1 < ((((List.length p.2.2.2.2.2.2.2) : Nat) : Int)))) (cond (decide (((((List.length (List.getD p.2.2.2.2.2.2.2 (Int.toNat p.1) ((0 : Int), ([] : List UInt8))).2) : Nat) : Int)) > (1200 : Int))) (some (true, ())) (R4 ((IntKind.i64.wrap (p.1 + (1 : Int))), p.2))))) (some (false, ())))
def f18_l4 (k : Nat) : f18_t4 → Option f18_r := loopP (fun R4 p => f18_b4 k R4 p) k
def f18_m (k : Nat) (A4 : f18_t4 → Option f18_r) (x : f18_x) : Option f18_r :=
  (cond (decide (((((List.length x.1.1.2.2) : Nat) : Int)) > (200 : Int))) (some (true, ())) (cond (decide (((((List.length x.1.2.2.1) : Nat) : Int)) > (300 : Int))) (some (true, ())) (cond (decide (((((List.length x.1.2.2.2) : Nat) : Int)) > (300 : Int))) (some (true, ())) (A4 ((0 : Int), (x.1.1.1, (x.1.1.2.1, (x.1.1.2.2, (x.1.2.1.1, (x.1.2.1.2, x.1.2.2))))))))))
def f18 (k : Nat) (x : f18_x) : Option f18_r := f18_m k (f18_l4 k) x
def f18_lv : Nat → Lp := lps [(4, .keep [1, 3] [])]
def f18_G : Env := findL []
theorem f18_e4 (k : Nat) (kn : St → Option f18_r) (p : f18_t4) : stepAt types f18_G f18_lv k Try.f18.ntmps (kns []) 4 (Try.f18.body.getD .skip) (topK types Try.f18 [.bool]) (f18_s4 p) kn =
    f18_b4 k (fun p => kn (f18_s4 p)) p := by kernel_rfl
theorem f18_q4 (k : Nat) (n : Nat) (p : f18_t4) : loopAt types f18_G f18_lv k Try.f18.ntmps (kns []) 4 (Try.f18.body.getD .skip) (topK types Try.f18 [.bool]) n (f18_s4 p) = loopP (fun R4 p => f18_b4 k R4 p) n p :=
  loopAt_eq (fun kn p => f18_e4 k kn p) n p
theorem f18_e (k : Nat) (x : f18_x) : fnK types f18_G f18_lv k Try.f18 [(.pair (.pair (.int .i64) (.pair (.int .i64) (.sl y66))) (.pair (.pair (.sl (.pair .str .str)) (.sl y207)) (.pair (.sl (.int .i64)) (.sl (.pair (.int .i64) .str)))))] [.bool] x =
    f18_m k (fun p => loopAt types f18_G f18_lv k Try.f18.ntmps (kns []) 4 (Try.f18.body.getD .skip) (topK types Try.f18 [.bool]) k (f18_s4 p)) x := by kernel_rfl
theorem f18_eq (k : Nat) (x : f18_x) : fnK types f18_G f18_lv k Try.f18 [(.pair (.pair (.int .i64) (.pair (.int .i64) (.sl y66))) (.pair (.pair (.sl (.pair .str .str)) (.sl y207)) (.pair (.sl (.int .i64)) (.sl (.pair (.int .i64) .str)))))] [.bool] x = f18 k x :=
  (f18_e k x).trans (congrFun (congrArg (f18_m k) (funext fun p => f18_q4 k k p)) x)
theorem f18_c : Contract Try.prog 18 ⟨[(.pair (.pair (.int .i64) (.pair (.int .i64) (.sl y66))) (.pair (.pair (.sl (.pair .str .str)) (.sl y207)) (.pair (.sl (.int .i64)) (.sl (.pair (.int .i64) .str)))))], [.bool], f18, .no⟩ :=
  fn_contract types_all env_nil mixes (by kernel_rfl) (by kernel_rfl) (by kernel_rfl) (by kernel_rfl) f18_eq

/-! groat/groatref16.Great -/
abbrev f19_r := Bool × Unit
abbrev f19_x := (List UInt8 × List (Int × List UInt8)) × Unit
abbrev f19_t4 := Int × List UInt8 × List (Int × List UInt8)
def f19_s4 (p : f19_t4) : St := [(2, .tv (.f (.c (.ptr 1064 0)))), (6, .tv (.f (.c (.v (.int .i64) p.1)))), (2129, .box [.v .str p.2.1, .v (.sl (.pair (.int .i64) .str)) p.2.2])]
def f19_b4 (k : Nat) (R4 : f19_t4 → Option f19_r) (p : f19_t4) : Option f19_r :=
  (cond (decide (p.1 < ((((List.length p.2.2) : Nat) : Int)))) (chk (decide ((0 : Int) ≤ p.1)) (chk (decide (p.1 < ((((List.length p.2.2) : Nat) : Int)))) (cond (decide (((((List.length (List.getD p.2.2 (Int.toNat p.1) ((0 : Int), ([] : List UInt8))).2) : Nat) : Int)) > (1200 : Int))) (some (true, ())) (R4 ((IntKind.i64.wrap (p.1 + (1 : Int))), p.2))))) (some (false, ())))
def f19_l4 (k : Nat) : f19_t4 → Option f19_r := loopP (fun R4 p => f19_b4 k R4 p) k
def f19_m (k : Nat) (A4 : f19_t4 → Option f19_r) (x : f19_x) : Option f19_r :=
  (cond (decide (((((List.length x.1.1) : Nat) : Int)) > (100 : Int))) (some (true, ())) (cond (decide (((((List.length x.1.2) : Nat) : Int)) > (200 : Int))) (some (true, ())) (A4 ((0 : Int), x.1))))
def f19 (k : Nat) (x : f19_x) : Option f19_r := f19_m k (f19_l4 k) x
def f19_lv : Nat → Lp := lps [(4, .keep [1, 3] [])]
def f19_G : Env := findL []
theorem f19_e4 (k : Nat) (kn : St → Option f19_r) (p : f19_t4) : stepAt types f19_G f19_lv k Try.f19.ntmps (kns []) 4 (Try.f19.body.getD .skip) (topK types Try.f19 [.bool]) (f19_s4 p) kn =
    f19_b4 k (fun p => kn (f19_s4 p)) p := by kernel_rfl
theorem f19_q4 (k : Nat) (n : Nat) (p : f19_t4) : loopAt types f19_G f19_lv k Try.f19.ntmps (kns []) 4 (Try.f19.body.getD .skip) (topK types Try.f19 [.bool]) n (f19_s4 p) = loopP (fun R4 p => f19_b4 k R4 p) n p :=
  loopAt_eq (fun kn p => f19_e4 k kn p) n p
theorem f19_e (k : Nat) (x : f19_x) : fnK types f19_G f19_lv k Try.f19 [y34] [.bool] x =
    f19_m k (fun p => loopAt types f19_G f19_lv k Try.f19.ntmps (kns []) 4 (Try.f19.body.getD .skip) (topK types Try.f19 [.bool]) k (f19_s4 p)) x := by kernel_rfl
theorem f19_eq (k : Nat) (x : f19_x) : fnK types f19_G f19_lv k Try.f19 [y34] [.bool] x = f19 k x :=
  (f19_e k x).trans (congrFun (congrArg (f19_m k) (funext fun p => f19_q4 k k p)) x)
theorem f19_c : Contract Try.prog 19 ⟨[y34], [.bool], f19, .no⟩ :=
  fn_contract types_all env_nil mixes (by kernel_rfl) (by kernel_rfl) (by kernel_rfl) (by kernel_rfl) f19_eq

/-! groat/groatref13.Copy -/
abbrev f52_r := (Int × Int × List (Int × Int × Int × Int × Int)) × Unit
abbrev f52_x := (Int × Int × List (Int × Int × Int × Int × Int)) × Unit
def f52_m (k : Nat) (x : f52_x) : Option f52_r :=
  (chk (decide ((((0 : Nat) + (List.length x.1.2.2)) * (40 : Nat)) ≤ (140737488355328 : Nat))) (chk (decide (((0 : Nat) + (List.length x.1.2.2)) ≤ (9223372036854775807 : Nat))) (some ((x.1.1, (x.1.2.1, (([] : List (Int × Int × Int × Int × Int)) ++ x.1.2.2))), ()))))
def f52 (k : Nat) (x : f52_x) : Option f52_r := f52_m k x
def f52_lv : Nat → Lp := lps []
def f52_G : Env := findL []
theorem f52_e (k : Nat) (x : f52_x) : fnK types f52_G f52_lv k Try.f52 [(.pair (.int .i64) (.pair (.int .i64) (.sl y66)))] [(.pair (.int .i64) (.pair (.int .i64) (.sl y66)))] x =
    f52_m k x := by kernel_rfl
theorem f52_eq (k : Nat) (x : f52_x) : fnK types f52_G f52_lv k Try.f52 [(.pair (.int .i64) (.pair (.int .i64) (.sl y66)))] [(.pair (.int .i64) (.pair (.int .i64) (.sl y66)))] x = f52 k x :=
  f52_e k x
theorem f52_c : Contract Try.prog 52 ⟨[(.pair (.int .i64) (.pair (.int .i64) (.sl y66)))], [(.pair (.int .i64) (.pair (.int .i64) (.sl y66)))], f52, .no⟩ :=
  fn_contract types_all env_nil mixes (by kernel_rfl) (by kernel_rfl) (by kernel_rfl) (by kernel_rfl) f52_eq

/-! groat/groatref23.Copy -/
abbrev f21_r := ((Int × Int × List (Int × Int × Int × Int × Int)) × (List (List UInt8 × List UInt8) × List (Int × Int × Int × List UInt8 × List (List UInt8 × List UInt8))) × List Int × List (Int × List UInt8)) × Unit
abbrev f21_x := ((Int × Int × List (Int × Int × Int × Int × Int)) × (List (List UInt8 × List UInt8) × List (Int × Int × Int × List UInt8 × List (List UInt8 × List UInt8))) × List Int × List (Int × List UInt8)) × Unit
def f21_m (k : Nat) (x : f21_x) : Option f21_r :=
  ((f52 k (x.1.1, ())).bind fun r1 => (chk (decide ((((0 : Nat) + (List.length x.1.2.2.1)) * (8 : Nat)) ≤ (140737488355328 : Nat))) (chk (decide (((0 : Nat) + (List.length x.1.2.2.1)) ≤ (9223372036854775807 : Nat))) (chk (decide ((((0 : Nat) + (List.length x.1.2.2.2)) * (24 : Nat)) ≤ (140737488355328 : Nat))) (chk (decide (((0 : Nat) + (List.length x.1.2.2.2)) ≤ (9223372036854775807 : Nat))) (some ((r1.1, (x.1.2.1, ((([] : List Int) ++ x.1.2.2.1), (([] : List (Int × List UInt8)) ++ x.1.2.2.2)))), ())))))))
def f21 (k : Nat) (x : f21_x) : Option f21_r := f21_m k x
def f21_lv : Nat → Lp := lps []
def f21_G : Env := findL [(52, ⟨[(.pair (.int .i64) (.pair (.int .i64) (.sl y66)))], [(.pair (.int .i64) (.pair (.int .i64) (.sl y66)))], f52, .no⟩)]
theorem f21_e (k : Nat) (x : f21_x) : fnK types f21_G f21_lv k Try.f21 [(.pair (.pair (.int .i64) (.pair (.int .i64) (.sl y66))) (.pair (.pair (.sl (.pair .str .str)) (.sl y207)) (.pair (.sl (.int .i64)) (.sl (.pair (.int .i64) .str)))))] [(.pair (.pair (.int .i64) (.pair (.int .i64) (.sl y66))) (.pair (.pair (.sl (.pair .str .str)) (.sl y207)) (.pair (.sl (.int .i64)) (.sl (.pair (.int .i64) .str)))))] x =
    f21_m k x := by kernel_rfl
theorem f21_eq (k : Nat) (x : f21_x) : fnK types f21_G f21_lv k Try.f21 [(.pair (.pair (.int .i64) (.pair (.int .i64) (.sl y66))) (.pair (.pair (.sl (.pair .str .str)) (.sl y207)) (.pair (.sl (.int .i64)) (.sl (.pair (.int .i64) .str)))))] [(.pair (.pair (.int .i64) (.pair (.int .i64) (.sl y66))) (.pair (.pair (.sl (.pair .str .str)) (.sl y207)) (.pair (.sl (.int .i64)) (.sl (.pair (.int .i64) .str)))))] x = f21 k x :=
  f21_e k x
theorem f21_c : Contract Try.prog 21 ⟨[(.pair (.pair (.int .i64) (.pair (.int .i64) (.sl y66))) (.pair (.pair (.sl (.pair .str .str)) (.sl y207)) (.pair (.sl (.int .i64)) (.sl (.pair (.int .i64) .str)))))], [(.pair (.pair (.int .i64) (.pair (.int .i64) (.sl y66))) (.pair (.pair (.sl (.pair .str .str)) (.sl y207)) (.pair (.sl (.int .i64)) (.sl (.pair (.int .i64) .str)))))], f21, .no⟩ :=
  fn_contract types_all (env_cons f52_c env_nil) mixes (by kernel_rfl) (by kernel_rfl) (by kernel_rfl) (by kernel_rfl) f21_eq

/-! groat/groatref16.Copy -/
abbrev f22_r := (List UInt8 × List (Int × List UInt8)) × Unit
abbrev f22_x := (List UInt8 × List (Int × List UInt8)) × Unit
def f22_m (k : Nat) (x : f22_x) : Option f22_r :=
  (chk (decide ((((0 : Nat) + (List.length x.1.2)) * (24 : Nat)) ≤ (140737488355328 : Nat))) (chk (decide (((0 : Nat) + (List.length x.1.2)) ≤ (9223372036854775807 : Nat))) (some ((x.1.1, (([] : List (Int × List UInt8)) ++ x.1.2)), ()))))
def f22 (k : Nat) (x : f22_x) : Option f22_r := f22_m k x
def f22_lv : Nat → Lp := lps []
def f22_G : Env := findL []
theorem f22_e (k : Nat) (x : f22_x) : fnK types f22_G f22_lv k Try.f22 [y34] [y34] x =
    f22_m k x := by kernel_rfl
theorem f22_eq (k : Nat) (x : f22_x) : fnK types f22_G f22_lv k Try.f22 [y34] [y34] x = f22 k x :=
  f22_e k x
theorem f22_c : Contract Try.prog 22 ⟨[y34], [y34], f22, .no⟩ :=
  fn_contract types_all env_nil mixes (by kernel_rfl) (by kernel_rfl) (by kernel_rfl) (by kernel_rfl) f22_eq

/-! groat/groatref01.Digit -/
abbrev f111_r := Bool × Unit
abbrev f111_x := Int × Unit
def f111_m (k : Nat) (x : f111_x) : Option f111_r :=
  (cond (decide (x.1 ≥ (48 : Int))) (some ((decide (x.1 ≤ (57 : Int))), ())) (some (false, ())))
def f111 (k : Nat) (x : f111_x) : Option f111_r := f111_m k x
def f111_lv : Nat → Lp := lps []
def f111_G : Env := findL []
theorem f111_e (k : Nat) (x : f111_x) : fnK types f111_G f111_lv k Try.f111 [(.int .u8)] [.bool] x =
    f111_m k x := by kernel_rfl
theorem f111_eq (k : Nat) (x : f111_x) : fnK types f111_G f111_lv k Try.f111 [(.int .u8)] [.bool] x = f111 k x :=
  f111_e k x
theorem f111_c : Contract Try.prog 111 ⟨[(.int .u8)], [.bool], f111, .no⟩ :=
  fn_contract types_all env_nil mixes (by kernel_rfl) (by kernel_rfl) (by kernel_rfl) (by kernel_rfl) f111_eq

/-! groat/groatref01.All -/
abbrev f67_r := Bool × Unit
abbrev f67_x := List UInt8 × Unit
abbrev f67_t2 := List UInt8 × Int
def f67_s2 (p : f67_t2) : St := [(0, .tv (.f (.c (.v .str p.1)))), (6, .tv (.f (.c (.v (.int .i64) p.2))))]
def f67_b2 (k : Nat) (R2 : f67_t2 → Option f67_r) (p : f67_t2) : Option f67_r :=
  (cond (decide (p.2 < ((((List.length p.1) : Nat) : Int)))) (chk (decide ((0 : Int) ≤ p.2)) (chk (decide (p.2 < ((((List.length p.1) : Nat) : Int)))) ((f111 k ((((UInt8.toNat (List.getD p.1 (Int.toNat p.2) 0) : Nat) : Int)), ())).bind fun r1 => (cond (!r1.1) (some (false, ())) (R2 (p.1, (IntKind.i64.wrap (p.2 + (1 : Int))))))))) (some (true, ())))
def f67_l2 (k : Nat) : f67_t2 → Option f67_r := loopP (fun R2 p => f67_b2 k R2 p) k
def f67_m (k : Nat) (A2 : f67_t2 → Option f67_r) (x : f67_x) : Option f67_r :=
  (A2 (x.1, (0 : Int)))
def f67 (k : Nat) (x : f67_x) : Option f67_r := f67_m k (f67_l2 k) x
def f67_lv : Nat → Lp := lps [(2, .keep [0, 3] [])]
def f67_G : Env := findL [(111, ⟨[(.int .u8)], [.bool], f111, .no⟩)]
theorem f67_e2 (k : Nat) (kn : St → Option f67_r) (p : f67_t2) : stepAt types f67_G f67_lv k Try.f67.ntmps (kns []) 2 (Try.f67.body.getD .skip) (topK types Try.f67 [.bool]) (f67_s2 p) kn =
    f67_b2 k (fun p => kn (f67_s2 p)) p := by kernel_rfl
theorem f67_q2 (k : Nat) (n : Nat) (p : f67_t2) : loopAt types f67_G f67_lv k Try.f67.ntmps (kns []) 2 (Try.f67.body.getD .skip) (topK types Try.f67 [.bool]) n (f67_s2 p) = loopP (fun R2 p => f67_b2 k R2 p) n p :=
  loopAt_eq (fun kn p => f67_e2 k kn p) n p
theorem f67_e (k : Nat) (x : f67_x) : fnK types f67_G f67_lv k Try.f67 [.str] [.bool] x =
    f67_m k (fun p => loopAt types f67_G f67_lv k Try.f67.ntmps (kns []) 2 (Try.f67.body.getD .skip) (topK types Try.f67 [.bool]) k (f67_s2 p)) x := by kernel_rfl
theorem f67_eq (k : Nat) (x : f67_x) : fnK types f67_G f67_lv k Try.f67 [.str] [.bool] x = f67 k x :=
  (f67_e k x).trans (congrFun (congrArg (f67_m k) (funext fun p => f67_q2 k k p)) x)
theorem f67_c : Contract Try.prog 67 ⟨[.str], [.bool], f67, .no⟩ :=
  fn_contract types_all (env_cons f111_c env_nil) mixes (by kernel_rfl) (by kernel_rfl) (by kernel_rfl) (by kernel_rfl) f67_eq

/-! groat/groatref01.Get -/
abbrev f100_r := Int × Bool × Unit
abbrev f100_x := List UInt8 × Unit
abbrev f100_t5 := List UInt8 × Int × Int
def f100_s5 (p : f100_t5) : St := [(0, .tv (.f (.c (.v .str p.1)))), (8, .tv (.f (.c (.v (.int .i64) p.2.1)))), (10, .tv (.f (.c (.v (.int .i64) p.2.2))))]
def f100_b5 (k : Nat) (R5 : f100_t5 → Option f100_r) (p : f100_t5) : Option f100_r :=
  (cond (decide (p.2.2 < ((((List.length p.1) : Nat) : Int)))) (chk (decide ((0 : Int) ≤ p.2.2)) (chk (decide (p.2.2 < ((((List.length p.1) : Nat) : Int)))) (R5 (p.1, ((IntKind.i64.wrap ((IntKind.i64.wrap ((IntKind.i64.wrap ((10 : Int) * p.2.1)) + (IntKind.i64.wrap (((UInt8.toNat (List.getD p.1 (Int.toNat p.2.2) 0) : Nat) : Int))))) - (48 : Int))), (IntKind.i64.wrap (p.2.2 + (1 : Int)))))))) (some (p.2.1, (true, ()))))
def f100_l5 (k : Nat) : f100_t5 → Option f100_r := loopP (fun R5 p => f100_b5 k R5 p) k
def f100_m (k : Nat) (A5 : f100_t5 → Option f100_r) (x : f100_x) : Option f100_r :=
  (cond (decide (((((List.length x.1) : Nat) : Int)) < (1 : Int))) (some ((0 : Int), (false, ()))) (cond (decide (((((List.length x.1) : Nat) : Int)) > (18 : Int))) (some ((0 : Int), (false, ()))) ((f67 k (x.1, ())).bind fun r1 => (cond (!r1.1) (some ((0 : Int), (false, ()))) (A5 (x.1, ((0 : Int), (0 : Int))))))))
def f100 (k : Nat) (x : f100_x) : Option f100_r := f100_m k (f100_l5 k) x
def f100_lv : Nat → Lp := lps [(5, .keep [0, 4, 5] [])]
def f100_G : Env := findL [(67, ⟨[.str], [.bool], f67, .no⟩)]
theorem f100_e5 (k : Nat) (kn : St → Option f100_r) (p : f100_t5) : stepAt types f100_G f100_lv k Try.f100.ntmps (kns []) 5 (Try.f100.body.getD .skip) (topK types Try.f100 [(.int .i64), .bool]) (f100_s5 p) kn =
    f100_b5 k (fun p => kn (f100_s5 p)) p := by kernel_rfl
theorem f100_q5 (k : Nat) (n : Nat) (p : f100_t5) : loopAt types f100_G f100_lv k Try.f100.ntmps (kns []) 5 (Try.f100.body.getD .skip) (topK types Try.f100 [(.int .i64), .bool]) n (f100_s5 p) = loopP (fun R5 p => f100_b5 k R5 p) n p :=
  loopAt_eq (fun kn p => f100_e5 k kn p) n p
theorem f100_e (k : Nat) (x : f100_x) : fnK types f100_G f100_lv k Try.f100 [.str] [(.int .i64), .bool] x =
    f100_m k (fun p => loopAt types f100_G f100_lv k Try.f100.ntmps (kns []) 5 (Try.f100.body.getD .skip) (topK types Try.f100 [(.int .i64), .bool]) k (f100_s5 p)) x := by kernel_rfl
theorem f100_eq (k : Nat) (x : f100_x) : fnK types f100_G f100_lv k Try.f100 [.str] [(.int .i64), .bool] x = f100 k x :=
  (f100_e k x).trans (congrFun (congrArg (f100_m k) (funext fun p => f100_q5 k k p)) x)
theorem f100_c : Contract Try.prog 100 ⟨[.str], [(.int .i64), .bool], f100, .no⟩ :=
  fn_contract types_all (env_cons f67_c env_nil) mixes (by kernel_rfl) (by kernel_rfl) (by kernel_rfl) (by kernel_rfl) f100_eq

/-! groat/groatref15.Request -/
abbrev f53_r := Bool × Unit
abbrev f53_x := List UInt8 × Unit
def f53_m (k : Nat) (x : f53_x) : Option f53_r :=
  ((f100 k (x.1, ())).bind fun r1 => (cond r1.2.1 (cond (((((List.length x.1) : Nat) : Int)) == (4 : Int)) (cond ((Int.tmod (IntKind.i64.wrap (Int.tdiv r1.1 (10 : Int))) (10 : Int)) == (0 : Int)) (some (true, ())) (some (((Int.tmod (IntKind.i64.wrap (Int.tdiv r1.1 (10 : Int))) (10 : Int)) == (2 : Int)), ()))) (some (false, ()))) (some (false, ()))))
def f53 (k : Nat) (x : f53_x) : Option f53_r := f53_m k x
def f53_lv : Nat → Lp := lps []
def f53_G : Env := findL [(100, ⟨[.str], [(.int .i64), .bool], f100, .no⟩)]
theorem f53_e (k : Nat) (x : f53_x) : fnK types f53_G f53_lv k Try.f53 [.str] [.bool] x =
    f53_m k x := by kernel_rfl
theorem f53_eq (k : Nat) (x : f53_x) : fnK types f53_G f53_lv k Try.f53 [.str] [.bool] x = f53 k x :=
  f53_e k x
theorem f53_c : Contract Try.prog 53 ⟨[.str], [.bool], f53, .no⟩ :=
  fn_contract types_all (env_cons f100_c env_nil) mixes (by kernel_rfl) (by kernel_rfl) (by kernel_rfl) (by kernel_rfl) f53_eq

/-! groat/groatref01.Put -/
abbrev f101_r := List UInt8 × Bool × Unit
abbrev f101_x := Int × Int × Unit
abbrev f101_t5 := Int × Int × List UInt8 × Int
def f101_s5 (p : f101_t5) : St := [(0, .tv (.f (.c (.v (.int .i64) p.1)))), (2, .tv (.f (.c (.v (.int .i64) p.2.1)))), (12, .tv (.f (.c (.v .str p.2.2.1)))), (14, .tv (.f (.c (.v (.int .i64) p.2.2.2))))]
def f101_b5 (k : Nat) (R5 : f101_t5 → Option f101_r) (p : f101_t5) : Option f101_r :=
  (cond (decide (p.2.2.2 < p.2.1)) (chk (decide (((List.length (List.map toByte ([(IntKind.u8.wrap (IntKind.i64.wrap ((48 : Int) + (Int.tmod p.1 (10 : Int)))))]))) + (List.length p.2.2.1)) ≤ (9223372036854775807 : Nat))) (R5 ((IntKind.i64.wrap (Int.tdiv p.1 (10 : Int))), (p.2.1, (((List.map toByte ([(IntKind.u8.wrap (IntKind.i64.wrap ((48 : Int) + (Int.tmod p.1 (10 : Int)))))])) ++ p.2.2.1), (IntKind.i64.wrap (p.2.2.2 + (1 : Int)))))))) (cond (p.1 != (0 : Int)) (some (([] : List UInt8), (false, ()))) (some (p.2.2.1, (true, ())))))
def f101_l5 (k : Nat) : f101_t5 → Option f101_r := loopP (fun R5 p => f101_b5 k R5 p) k
def f101_m (k : Nat) (A5 : f101_t5 → Option f101_r) (x : f101_x) : Option f101_r :=
  (cond (decide (x.1 < (0 : Int))) (some (([] : List UInt8), (false, ()))) (cond (decide (x.2.1 < (1 : Int))) (some (([] : List UInt8), (false, ()))) (cond (decide (x.2.1 > (18 : Int))) (some (([] : List UInt8), (false, ()))) (A5 (x.1, (x.2.1, (([] : List UInt8), (0 : Int))))))))
def f101 (k : Nat) (x : f101_x) : Option f101_r := f101_m k (f101_l5 k) x
def f101_lv : Nat → Lp := lps [(5, .keep [0, 1, 6, 7] [])]
def f101_G : Env := findL []
theorem f101_e5 (k : Nat) (kn : St → Option f101_r) (p : f101_t5) : stepAt types f101_G f101_lv k Try.f101.ntmps (kns []) 5 (Try.f101.body.getD .skip) (topK types Try.f101 [.str, .bool]) (f101_s5 p) kn =
    f101_b5 k (fun p => kn (f101_s5 p)) p := by kernel_rfl
theorem f101_q5 (k : Nat) (n : Nat) (p : f101_t5) : loopAt types f101_G f101_lv k Try.f101.ntmps (kns []) 5 (Try.f101.body.getD .skip) (topK types Try.f101 [.str, .bool]) n (f101_s5 p) = loopP (fun R5 p => f101_b5 k R5 p) n p :=
  loopAt_eq (fun kn p => f101_e5 k kn p) n p
theorem f101_e (k : Nat) (x : f101_x) : fnK types f101_G f101_lv k Try.f101 [(.int .i64), (.int .i64)] [.str, .bool] x =
    f101_m k (fun p => loopAt types f101_G f101_lv k Try.f101.ntmps (kns []) 5 (Try.f101.body.getD .skip) (topK types Try.f101 [.str, .bool]) k (f101_s5 p)) x := by kernel_rfl
theorem f101_eq (k : Nat) (x : f101_x) : fnK types f101_G f101_lv k Try.f101 [(.int .i64), (.int .i64)] [.str, .bool] x = f101 k x :=
  (f101_e k x).trans (congrFun (congrArg (f101_m k) (funext fun p => f101_q5 k k p)) x)
theorem f101_c : Contract Try.prog 101 ⟨[(.int .i64), (.int .i64)], [.str, .bool], f101, .no⟩ :=
  fn_contract types_all env_nil mixes (by kernel_rfl) (by kernel_rfl) (by kernel_rfl) (by kernel_rfl) f101_eq

/-! groat/groatref15.Response -/
abbrev f54_r := List UInt8 × Unit
abbrev f54_x := List UInt8 × Unit
def f54_m (k : Nat) (x : f54_x) : Option f54_r :=
  ((f100 k (x.1, ())).bind fun r1 => ((f101 k ((IntKind.i64.wrap (r1.1 + (10 : Int))), ((4 : Int), ()))).bind fun r2 => (some (r2.1, ()))))
def f54 (k : Nat) (x : f54_x) : Option f54_r := f54_m k x
def f54_lv : Nat → Lp := lps []
def f54_G : Env := findL [(100, ⟨[.str], [(.int .i64), .bool], f100, .no⟩), (101, ⟨[(.int .i64), (.int .i64)], [.str, .bool], f101, .no⟩)]
theorem f54_e (k : Nat) (x : f54_x) : fnK types f54_G f54_lv k Try.f54 [.str] [.str] x =
    f54_m k x := by kernel_rfl
theorem f54_eq (k : Nat) (x : f54_x) : fnK types f54_G f54_lv k Try.f54 [.str] [.str] x = f54 k x :=
  f54_e k x
theorem f54_c : Contract Try.prog 54 ⟨[.str], [.str], f54, .no⟩ :=
  fn_contract types_all (env_cons f100_c (env_cons f101_c env_nil)) mixes (by kernel_rfl) (by kernel_rfl) (by kernel_rfl) (by kernel_rfl) f54_eq

/-! groat/groatref16.Find -/
abbrev f55_r := Int × Unit
abbrev f55_x := (List UInt8 × List (Int × List UInt8)) × Int × Unit
abbrev f55_t2 := Int × Int × List UInt8 × List (Int × List UInt8)
def f55_s2 (p : f55_t2) : St := [(2, .tv (.f (.c (.v (.int .i64) p.1)))), (4, .tv (.f (.c (.ptr 1128 0)))), (10, .tv (.f (.c (.v (.int .i64) p.2.1)))), (2257, .box [.v .str p.2.2.1, .v (.sl (.pair (.int .i64) .str)) p.2.2.2])]
def f55_b2 (k : Nat) (R2 : f55_t2 → Option f55_r) (p : f55_t2) : Option f55_r :=
  (cond (decide (p.2.1 < ((((List.length p.2.2.2) : Nat) : Int)))) (chk (decide ((0 : Int) ≤ p.2.1)) (chk (decide (p.2.1 < ((((List.length p.2.2.2) : Nat) : Int)))) (cond ((List.getD p.2.2.2 (Int.toNat p.2.1) ((0 : Int), ([] : List UInt8))).1 == p.1) (some (p.2.1, ())) (R2 (p.1, ((IntKind.i64.wrap (p.2.1 + (1 : Int))), p.2.2)))))) (some ((-1 : Int), ())))
def f55_l2 (k : Nat) : f55_t2 → Option f55_r := loopP (fun R2 p => f55_b2 k R2 p) k
def f55_m (k : Nat) (A2 : f55_t2 → Option f55_r) (x : f55_x) : Option f55_r :=
  (A2 (x.2.1, ((0 : Int), x.1)))
def f55 (k : Nat) (x : f55_x) : Option f55_r := f55_m k (f55_l2 k) x
def f55_lv : Nat → Lp := lps [(2, .keep [1, 2, 5] [])]
def f55_G : Env := findL []
theorem f55_e2 (k : Nat) (kn : St → Option f55_r) (p : f55_t2) : stepAt types f55_G f55_lv k Try.f55.ntmps (kns []) 2 (Try.f55.body.getD .skip) (topK types Try.f55 [(.int .i64)]) (f55_s2 p) kn =
    f55_b2 k (fun p => kn (f55_s2 p)) p := by kernel_rfl
theorem f55_q2 (k : Nat) (n : Nat) (p : f55_t2) : loopAt types f55_G f55_lv k Try.f55.ntmps (kns []) 2 (Try.f55.body.getD .skip) (topK types Try.f55 [(.int .i64)]) n (f55_s2 p) = loopP (fun R2 p => f55_b2 k R2 p) n p :=
  loopAt_eq (fun kn p => f55_e2 k kn p) n p
theorem f55_e (k : Nat) (x : f55_x) : fnK types f55_G f55_lv k Try.f55 [y34, (.int .i64)] [(.int .i64)] x =
    f55_m k (fun p => loopAt types f55_G f55_lv k Try.f55.ntmps (kns []) 2 (Try.f55.body.getD .skip) (topK types Try.f55 [(.int .i64)]) k (f55_s2 p)) x := by kernel_rfl
theorem f55_eq (k : Nat) (x : f55_x) : fnK types f55_G f55_lv k Try.f55 [y34, (.int .i64)] [(.int .i64)] x = f55 k x :=
  (f55_e k x).trans (congrFun (congrArg (f55_m k) (funext fun p => f55_q2 k k p)) x)
theorem f55_c : Contract Try.prog 55 ⟨[y34, (.int .i64)], [(.int .i64)], f55, .no⟩ :=
  fn_contract types_all env_nil mixes (by kernel_rfl) (by kernel_rfl) (by kernel_rfl) (by kernel_rfl) f55_eq

/-! groat/groatref16.Without -/
abbrev f102_r := (List UInt8 × List (Int × List UInt8)) × Unit
abbrev f102_x := (List UInt8 × List (Int × List UInt8)) × Int × Unit
abbrev f102_t3 := Int × Int × List UInt8 × List (Int × List UInt8) × List UInt8 × List UInt8 × List (Int × List UInt8)
def f102_s3 (p : f102_t3) : St := [(2, .tv (.f (.c (.v (.int .i64) p.1)))), (4, .tv (.f (.c (.ptr 1128 0)))), (8, .tv (.f (.c (.ptr 1256 0)))), (10, .tv (.f (.c (.ptr 1320 0)))), (12, .tv (.f (.c (.v (.int .i64) p.2.1)))), (2257, .box [.v .str p.2.2.1, .v (.sl (.pair (.int .i64) .str)) p.2.2.2.1]), (2513, .box [.v .str p.2.2.2.2.1, .nil]), (2641, .box [.v .str p.2.2.2.2.2.1, .own 184481]), (368963, .row 63 (.pair (.int .i64) .str) p.2.2.2.2.2.2)]
def f102_b3 (k : Nat) (R3 : f102_t3 → Option f102_r) (p : f102_t3) : Option f102_r :=
  (cond (decide (p.2.1 < ((((List.length p.2.2.2.1) : Nat) : Int)))) (chk (decide ((0 : Int) ≤ p.2.1)) (chk (decide (p.2.1 < ((((List.length p.2.2.2.1) : Nat) : Int)))) (cond ((List.getD p.2.2.2.1 (Int.toNat p.2.1) ((0 : Int), ([] : List UInt8))).1 != p.1) (chk (decide ((0 : Int) ≤ p.2.1)) (chk (decide (p.2.1 < ((((List.length p.2.2.2.1) : Nat) : Int)))) (chk (decide ((((List.length p.2.2.2.2.2.2) + (List.length ([(List.getD p.2.2.2.1 (Int.toNat p.2.1) ((0 : Int), ([] : List UInt8)))]))) * (24 : Nat)) ≤ (140737488355328 : Nat))) (chk (decide (((List.length p.2.2.2.2.2.2) + (List.length ([(List.getD p.2.2.2.1 (Int.toNat p.2.1) ((0 : Int), ([] : List UInt8)))]))) ≤ (9223372036854775807 : Nat))) (R3 (p.1, ((IntKind.i64.wrap (p.2.1 + (1 : Int))), (p.2.2.1, (p.2.2.2.1, (p.2.2.2.2.1, (p.2.2.2.2.2.1, (p.2.2.2.2.2.2 ++ ([(List.getD p.2.2.2.1 (Int.toNat p.2.1) ((0 : Int), ([] : List UInt8)))]))))))))))))) (R3 (p.1, ((IntKind.i64.wrap (p.2.1 + (1 : Int))), p.2.2)))))) (some (p.2.2.2.2.2, ())))
def f102_l3 (k : Nat) : f102_t3 → Option f102_r := loopP (fun R3 p => f102_b3 k R3 p) k
def f102_m (k : Nat) (A3 : f102_t3 → Option f102_r) (x : f102_x) : Option f102_r :=
  (A3 (x.2.1, ((0 : Int), (x.1.1, (x.1.2, (([] : List UInt8), (x.1.1, ([] : List (Int × List UInt8)))))))))
def f102 (k : Nat) (x : f102_x) : Option f102_r := f102_m k (f102_l3 k) x
def f102_lv : Nat → Lp := lps [(3, .keep [1, 2, 4, 5, 6] [(2641, 1, .own 63 469025)])]
def f102_G : Env := findL []
theorem f102_e3 (k : Nat) (kn : St → Option f102_r) (p : f102_t3) : stepAt types f102_G f102_lv k Try.f102.ntmps (kns []) 3 (Try.f102.body.getD .skip) (topK types Try.f102 [y34]) (f102_s3 p) kn =
    f102_b3 k (fun p => kn (f102_s3 p)) p := by kernel_rfl
theorem f102_q3 (k : Nat) (n : Nat) (p : f102_t3) : loopAt types f102_G f102_lv k Try.f102.ntmps (kns []) 3 (Try.f102.body.getD .skip) (topK types Try.f102 [y34]) n (f102_s3 p) = loopP (fun R3 p => f102_b3 k R3 p) n p :=
  loopAt_eq (fun kn p => f102_e3 k kn p) n p
theorem f102_e (k : Nat) (x : f102_x) : fnK types f102_G f102_lv k Try.f102 [y34, (.int .i64)] [y34] x =
    f102_m k (fun p => loopAt types f102_G f102_lv k Try.f102.ntmps (kns []) 3 (Try.f102.body.getD .skip) (topK types Try.f102 [y34]) k (f102_s3 p)) x := by kernel_rfl
theorem f102_eq (k : Nat) (x : f102_x) : fnK types f102_G f102_lv k Try.f102 [y34, (.int .i64)] [y34] x = f102 k x :=
  (f102_e k x).trans (congrFun (congrArg (f102_m k) (funext fun p => f102_q3 k k p)) x)
theorem f102_c : Contract Try.prog 102 ⟨[y34, (.int .i64)], [y34], f102, .no⟩ :=
  fn_contract types_all env_nil mixes (by kernel_rfl) (by kernel_rfl) (by kernel_rfl) (by kernel_rfl) f102_eq

/-! groat/groatref16.With -/
abbrev f56_r := (List UInt8 × List (Int × List UInt8)) × Unit
abbrev f56_x := (List UInt8 × List (Int × List UInt8)) × Int × List UInt8 × Unit
abbrev f56_t5 := Int × List UInt8 × Bool × Int × List UInt8 × List UInt8 × List UInt8 × List (Int × List UInt8) × List (Int × List UInt8)
def f56_s5 (p : f56_t5) : St := [(2, .tv (.f (.c (.v (.int .i64) p.1)))), (4, .tv (.f (.c (.v .str p.2.1)))), (12, .tv (.f (.c (.ptr 1384 0)))), (14, .tv (.f (.c (.ptr 1448 0)))), (16, .tv (.f (.c (.ptr 1512 0)))), (18, .tv (.f (.c (.v .bool p.2.2.1)))), (20, .tv (.f (.c (.v (.int .i64) p.2.2.2.1)))), (2769, .box [.v .str p.2.2.2.2.1, .nil]), (2897, .box [.v .str p.2.2.2.2.2.1, .own 192673]), (3025, .box [.v .str p.2.2.2.2.2.2.1, .v (.sl (.pair (.int .i64) .str)) p.2.2.2.2.2.2.2.1]), (385347, .row 63 (.pair (.int .i64) .str) p.2.2.2.2.2.2.2.2)]
def f56_b5 (k : Nat) (R5 : f56_t5 → Option f56_r) (p : f56_t5) : Option f56_r :=
  (cond (decide (p.2.2.2.1 < ((((List.length p.2.2.2.2.2.2.2.1) : Nat) : Int)))) (cond (!p.2.2.1) (chk (decide ((0 : Int) ≤ p.2.2.2.1)) (chk (decide (p.2.2.2.1 < ((((List.length p.2.2.2.2.2.2.2.1) : Nat) : Int)))) (cond (decide ((List.getD p.2.2.2.2.2.2.2.1 (Int.toNat p.2.2.2.1) ((0 : Int), ([] : List UInt8))).1 > p.1)) (chk (decide ((((List.length p.2.2.2.2.2.2.2.2) + (List.length ([(p.1, p.2.1)]))) * (24 : Nat)) ≤ (140737488355328 : Nat))) (chk (decide (((List.length p.2.2.2.2.2.2.2.2) + (List.length ([(p.1, p.2.1)]))) ≤ (9223372036854775807 : Nat))) (chk (decide ((0 : Int) ≤ p.2.2.2.1)) (chk (decide (p.2.2.2.1 < ((((List.length p.2.2.2.2.2.2.2.1) : Nat) : Int)))) (chk (decide ((((List.length (p.2.2.2.2.2.2.2.2 ++ ([(p.1, p.2.1)]))) + (List.length ([(List.getD p.2.2.2.2.2.2.2.1 (Int.toNat p.2.2.2.1) ((0 : Int), ([] : List UInt8)))]))) * (24 : Nat)) ≤ (140737488355328 : Nat))) (chk (decide (((List.length (p.2.2.2.2.2.2.2.2 ++ ([(p.1, p.2.1)]))) + (List.length ([(List.getD p.2.2.2.2.2.2.2.1 (Int.toNat p.2.2.2.1) ((0 : Int), ([] : List UInt8)))]))) ≤ (9223372036854775807 : Nat))) (R5 (p.1, (p.2.1, (true, ((IntKind.i64.wrap (p.2.2.2.1 + (1 : Int))), (p.2.2.2.2.1, (p.2.2.2.2.2.1, (p.2.2.2.2.2.2.1, (p.2.2.2.2.2.2.2.1, ((p.2.2.2.2.2.2.2.2 ++ ([(p.1, p.2.1)])) ++ ([(List.getD p.2.2.2.2.2.2.2.1 (Int.toNat p.2.2.2.1) ((0 : Int), ([] : List UInt8)))]))))))))))))))))) (chk (decide ((0 : Int) ≤ p.2.2.2.1)) (chk (decide (p.2.2.2.1 < ((((List.length p.2.2.2.2.2.2.2.1) : Nat) : Int)))) (chk (decide ((((List.length p.2.2.2.2.2.2.2.2) + (List.length ([(List.getD p.2.2.2.2.2.2.2.1 (Int.toNat p.2.2.2.1) ((0 : Int), ([] : List UInt8)))]))) * (24 : Nat)) ≤ (140737488355328 : Nat))) (chk (decide (((List.length p.2.2.2.2.2.2.2.2) + (List.length ([(List.getD p.2.2.2.2.2.2.2.1 (Int.toNat p.2.2.2.1) ((0 : Int), ([] : List UInt8)))]))) ≤ (9223372036854775807 : Nat))) (R5 (p.1, (p.2.1, (p.2.2.1, ((IntKind.i64.wrap (p.2.2.2.1 + (1 : Int))), (p.2.2.2.2.1, (p.2.2.2.2.2.1, (p.2.2.2.2.2.2.1, (p.2.2.2.2.2.2.2.1, (p.2.2.2.2.2.2.2.2 ++ ([(List.getD p.2.2.2.2.2.2.2.1 (Int.toNat p.2.2.2.1) ((0 : Int), ([] : List UInt8)))])))))))))))))))))) (chk (decide ((0 : Int) ≤ p.2.2.2.1)) (chk (decide (p.2.2.2.1 < ((((List.length p.2.2.2.2.2.2.2.1) : Nat) : Int)))) (chk (decide ((((List.length p.2.2.2.2.2.2.2.2) + (List.length ([(List.getD p.2.2.2.2.2.2.2.1 (Int.toNat p.2.2.2.1) ((0 : Int), ([] : List UInt8)))]))) * (24 : Nat)) ≤ (140737488355328 : Nat))) (chk (decide (((List.length p.2.2.2.2.2.2.2.2) + (List.length ([(List.getD p.2.2.2.2.2.2.2.1 (Int.toNat p.2.2.2.1) ((0 : Int), ([] : List UInt8)))]))) ≤ (9223372036854775807 : Nat))) (R5 (p.1, (p.2.1, (p.2.2.1, ((IntKind.i64.wrap (p.2.2.2.1 + (1 : Int))), (p.2.2.2.2.1, (p.2.2.2.2.2.1, (p.2.2.2.2.2.2.1, (p.2.2.2.2.2.2.2.1, (p.2.2.2.2.2.2.2.2 ++ ([(List.getD p.2.2.2.2.2.2.2.1 (Int.toNat p.2.2.2.1) ((0 : Int), ([] : List UInt8)))])))))))))))))))) (cond (!p.2.2.1) (chk (decide ((((List.length p.2.2.2.2.2.2.2.2) + (List.length ([(p.1, p.2.1)]))) * (24 : Nat)) ≤ (140737488355328 : Nat))) (chk (decide (((List.length p.2.2.2.2.2.2.2.2) + (List.length ([(p.1, p.2.1)]))) ≤ (9223372036854775807 : Nat))) (some ((p.2.2.2.2.2.1, (p.2.2.2.2.2.2.2.2 ++ ([(p.1, p.2.1)]))), ())))) (some ((p.2.2.2.2.2.1, p.2.2.2.2.2.2.2.2), ()))))
def f56_l5 (k : Nat) : f56_t5 → Option f56_r := loopP (fun R5 p => f56_b5 k R5 p) k
def f56_m (k : Nat) (A5 : f56_t5 → Option f56_r) (x : f56_x) : Option f56_r :=
  ((f102 k (x.1, (x.2.1, ()))).bind fun r1 => (A5 (x.2.1, (x.2.2.1, (false, ((0 : Int), (([] : List UInt8), (x.1.1, (r1.1.1, (r1.1.2, ([] : List (Int × List UInt8))))))))))))
def f56 (k : Nat) (x : f56_x) : Option f56_r := f56_m k (f56_l5 k) x
def f56_lv : Nat → Lp := lps [(5, .keep [1, 2, 6, 7, 8, 9, 10] [(2897, 1, .own 63 485409)])]
def f56_G : Env := findL [(102, ⟨[y34, (.int .i64)], [y34], f102, .no⟩)]
theorem f56_e5 (k : Nat) (kn : St → Option f56_r) (p : f56_t5) : stepAt types f56_G f56_lv k Try.f56.ntmps (kns []) 5 (Try.f56.body.getD .skip) (topK types Try.f56 [y34]) (f56_s5 p) kn =
    f56_b5 k (fun p => kn (f56_s5 p)) p := by kernel_rfl
theorem f56_q5 (k : Nat) (n : Nat) (p : f56_t5) : loopAt types f56_G f56_lv k Try.f56.ntmps (kns []) 5 (Try.f56.body.getD .skip) (topK types Try.f56 [y34]) n (f56_s5 p) = loopP (fun R5 p => f56_b5 k R5 p) n p :=
  loopAt_eq (fun kn p => f56_e5 k kn p) n p
theorem f56_e (k : Nat) (x : f56_x) : fnK types f56_G f56_lv k Try.f56 [y34, (.int .i64), .str] [y34] x =
    f56_m k (fun p => loopAt types f56_G f56_lv k Try.f56.ntmps (kns []) 5 (Try.f56.body.getD .skip) (topK types Try.f56 [y34]) k (f56_s5 p)) x := by kernel_rfl
theorem f56_eq (k : Nat) (x : f56_x) : fnK types f56_G f56_lv k Try.f56 [y34, (.int .i64), .str] [y34] x = f56 k x :=
  (f56_e k x).trans (congrFun (congrArg (f56_m k) (funext fun p => f56_q5 k k p)) x)
theorem f56_c : Contract Try.prog 56 ⟨[y34, (.int .i64), .str], [y34], f56, .no⟩ :=
  fn_contract types_all (env_cons f102_c env_nil) mixes (by kernel_rfl) (by kernel_rfl) (by kernel_rfl) (by kernel_rfl) f56_eq

/-! groat/groatref23.find -/
abbrev f103_r := Int × Unit
abbrev f103_x := List (Int × List UInt8) × Int × Int × Unit
abbrev f103_t2 := List (Int × List UInt8) × Int × Int × Int
def f103_s2 (p : f103_t2) : St := [(0, .tv (.f (.c (.v (.sl (.pair (.int .i64) .str)) p.1)))), (2, .tv (.f (.c (.v (.int .i64) p.2.1)))), (4, .tv (.f (.c (.v (.int .i64) p.2.2.1)))), (14, .tv (.f (.c (.v (.int .i64) p.2.2.2))))]
def f103_b2 (k : Nat) (R2 : f103_t2 → Option f103_r) (p : f103_t2) : Option f103_r :=
  (cond (decide (p.2.2.2 < p.2.1)) (chk (decide ((0 : Int) ≤ p.2.2.2)) (chk (decide (p.2.2.2 < ((((List.length p.1) : Nat) : Int)))) (cond ((List.getD p.1 (Int.toNat p.2.2.2) ((0 : Int), ([] : List UInt8))).1 == p.2.2.1) (some (p.2.2.2, ())) (R2 (p.1, (p.2.1, (p.2.2.1, (IntKind.i64.wrap (p.2.2.2 + (1 : Int)))))))))) (some ((-1 : Int), ())))
def f103_l2 (k : Nat) : f103_t2 → Option f103_r := loopP (fun R2 p => f103_b2 k R2 p) k
def f103_m (k : Nat) (A2 : f103_t2 → Option f103_r) (x : f103_x) : Option f103_r :=
  (A2 (x.1, (x.2.1, (x.2.2.1, (0 : Int)))))
def f103 (k : Nat) (x : f103_x) : Option f103_r := f103_m k (f103_l2 k) x
def f103_lv : Nat → Lp := lps [(2, .keep [0, 1, 2, 7] [])]
def f103_G : Env := findL []
theorem f103_e2 (k : Nat) (kn : St → Option f103_r) (p : f103_t2) : stepAt types f103_G f103_lv k Try.f103.ntmps (kns []) 2 (Try.f103.body.getD .skip) (topK types Try.f103 [(.int .i64)]) (f103_s2 p) kn =
    f103_b2 k (fun p => kn (f103_s2 p)) p := by kernel_rfl
theorem f103_q2 (k : Nat) (n : Nat) (p : f103_t2) : loopAt types f103_G f103_lv k Try.f103.ntmps (kns []) 2 (Try.f103.body.getD .skip) (topK types Try.f103 [(.int .i64)]) n (f103_s2 p) = loopP (fun R2 p => f103_b2 k R2 p) n p :=
  loopAt_eq (fun kn p => f103_e2 k kn p) n p
theorem f103_e (k : Nat) (x : f103_x) : fnK types f103_G f103_lv k Try.f103 [(.sl (.pair (.int .i64) .str)), (.int .i64), (.int .i64)] [(.int .i64)] x =
    f103_m k (fun p => loopAt types f103_G f103_lv k Try.f103.ntmps (kns []) 2 (Try.f103.body.getD .skip) (topK types Try.f103 [(.int .i64)]) k (f103_s2 p)) x := by kernel_rfl
theorem f103_eq (k : Nat) (x : f103_x) : fnK types f103_G f103_lv k Try.f103 [(.sl (.pair (.int .i64) .str)), (.int .i64), (.int .i64)] [(.int .i64)] x = f103 k x :=
  (f103_e k x).trans (congrFun (congrArg (f103_m k) (funext fun p => f103_q2 k k p)) x)
theorem f103_c : Contract Try.prog 103 ⟨[(.sl (.pair (.int .i64) .str)), (.int .i64), (.int .i64)], [(.int .i64)], f103, .no⟩ :=
  fn_contract types_all env_nil mixes (by kernel_rfl) (by kernel_rfl) (by kernel_rfl) (by kernel_rfl) f103_eq

/-! groat/groatref23.Code -/
abbrev f57_r := List UInt8 × Unit
abbrev f57_x := ((Int × Int × List (Int × Int × Int × Int × Int)) × (List (List UInt8 × List UInt8) × List (Int × Int × Int × List UInt8 × List (List UInt8 × List UInt8))) × List Int × List (Int × List UInt8)) × Int × Unit
def f57_m (k : Nat) (x : f57_x) : Option f57_r :=
  ((f103 k (x.1.2.2.2, (((((List.length x.1.2.2.2) : Nat) : Int)), (x.2.1, ())))).bind fun r1 => (cond (decide (r1.1 < (0 : Int))) ((f103 k (x.1.2.2.2, (((((List.length x.1.2.2.2) : Nat) : Int)), ((0 : Int), ())))).bind fun r2 => (cond (decide (r2.1 < (0 : Int))) (some (([] : List UInt8), ())) (chk (decide ((0 : Int) ≤ r2.1)) (chk (decide (r2.1 < ((((List.length x.1.2.2.2) : Nat) : Int)))) (some ((List.getD x.1.2.2.2 (Int.toNat r2.1) ((0 : Int), ([] : List UInt8))).2, ())))))) (cond (decide (r1.1 < (0 : Int))) (some (([] : List UInt8), ())) (chk (decide ((0 : Int) ≤ r1.1)) (chk (decide (r1.1 < ((((List.length x.1.2.2.2) : Nat) : Int)))) (some ((List.getD x.1.2.2.2 (Int.toNat r1.1) ((0 : Int), ([] : List UInt8))).2, ())))))))
def f57 (k : Nat) (x : f57_x) : Option f57_r := f57_m k x
def f57_lv : Nat → Lp := lps []
def f57_G : Env := findL [(103, ⟨[(.sl (.pair (.int .i64) .str)), (.int .i64), (.int .i64)], [(.int .i64)], f103, .no⟩)]
theorem f57_e (k : Nat) (x : f57_x) : fnK types f57_G f57_lv k Try.f57 [(.pair (.pair (.int .i64) (.pair (.int .i64) (.sl y66))) (.pair (.pair (.sl (.pair .str .str)) (.sl y207)) (.pair (.sl (.int .i64)) (.sl (.pair (.int .i64) .str))))), (.int .i64)] [.str] x =
    f57_m k x := by kernel_rfl
theorem f57_eq (k : Nat) (x : f57_x) : fnK types f57_G f57_lv k Try.f57 [(.pair (.pair (.int .i64) (.pair (.int .i64) (.sl y66))) (.pair (.pair (.sl (.pair .str .str)) (.sl y207)) (.pair (.sl (.int .i64)) (.sl (.pair (.int .i64) .str))))), (.int .i64)] [.str] x = f57 k x :=
  f57_e k x
theorem f57_c : Contract Try.prog 57 ⟨[(.pair (.pair (.int .i64) (.pair (.int .i64) (.sl y66))) (.pair (.pair (.sl (.pair .str .str)) (.sl y207)) (.pair (.sl (.int .i64)) (.sl (.pair (.int .i64) .str))))), (.int .i64)], [.str], f57, .no⟩ :=
  fn_contract types_all (env_cons f103_c env_nil) mixes (by kernel_rfl) (by kernel_rfl) (by kernel_rfl) (by kernel_rfl) f57_eq

/-! groat/groatref23.Build -/
abbrev f23_r := (List UInt8 × List (Int × List UInt8)) × Bool × Unit
abbrev f23_x := ((Int × Int × List (Int × Int × Int × Int × Int)) × (List (List UInt8 × List UInt8) × List (Int × Int × Int × List UInt8 × List (List UInt8 × List UInt8))) × List Int × List (Int × List UInt8)) × (List UInt8 × List (Int × List UInt8)) × (Int × Int) × Unit
abbrev f23_t5 := Int × Int × Int × List (Int × Int × Int × Int × Int) × List (List UInt8 × List UInt8) × List (Int × Int × Int × List UInt8 × List (List UInt8 × List UInt8)) × List Int × List (Int × List UInt8) × List UInt8 × List (Int × List UInt8) × Int × Int × List UInt8 × List UInt8 × List (Int × List UInt8)
def f23_s5 (p : f23_t5) : St := [(6, .tv (.f (.c (.ptr 1192 0)))), (8, .tv (.f (.c (.ptr 1256 0)))), (10, .tv (.f (.c (.ptr 1320 0)))), (12, .tv (.f (.c (.ptr 1384 0)))), (16, .tv (.f (.c (.ptr 1512 0)))), (18, .tv (.f (.c (.v (.int .i64) p.1)))), (2385, .box [.v (.int .i64) p.2.1, .v (.int .i64) p.2.2.1, .v (.sl y66) p.2.2.2.1, .v (.sl (.pair .str .str)) p.2.2.2.2.1, .v (.sl y207) p.2.2.2.2.2.1, .v (.sl (.int .i64)) p.2.2.2.2.2.2.1, .v (.sl (.pair (.int .i64) .str)) p.2.2.2.2.2.2.2.1]), (2513, .box [.v .str p.2.2.2.2.2.2.2.2.1, .v (.sl (.pair (.int .i64) .str)) p.2.2.2.2.2.2.2.2.2.1]), (2641, .box [.v (.int .i64) p.2.2.2.2.2.2.2.2.2.2.1, .v (.int .i64) p.2.2.2.2.2.2.2.2.2.2.2.1]), (2769, .box [.v .str p.2.2.2.2.2.2.2.2.2.2.2.2.1, .nil]), (3025, .box [.v .str p.2.2.2.2.2.2.2.2.2.2.2.2.2.1, .v (.sl (.pair (.int .i64) .str)) p.2.2.2.2.2.2.2.2.2.2.2.2.2.2])]
def f23_b5 (k : Nat) (R5 : f23_t5 → Option f23_r) (p : f23_t5) : Option f23_r :=
  (cond (decide (p.1 < ((((List.length p.2.2.2.2.2.2.1) : Nat) : Int)))) (chk (decide ((0 : Int) ≤ p.1)) (chk (decide (p.1 < ((((List.length p.2.2.2.2.2.2.1) : Nat) : Int)))) ((f55 k ((p.2.2.2.2.2.2.2.2.1, p.2.2.2.2.2.2.2.2.2.1), ((List.getD p.2.2.2.2.2.2.1 (Int.toNat p.1) (0 : Int)), ()))).bind fun r3 => (cond (decide (r3.1 ≥ (0 : Int))) (chk (decide ((0 : Int) ≤ p.1)) (chk (decide (p.1 < ((((List.length p.2.2.2.2.2.2.1) : Nat) : Int)))) (chk (decide ((0 : Int) ≤ r3.1)) (chk (decide (r3.1 < ((((List.length p.2.2.2.2.2.2.2.2.2.1) : Nat) : Int)))) ((f56 k (p.2.2.2.2.2.2.2.2.2.2.2.2.2, ((List.getD p.2.2.2.2.2.2.1 (Int.toNat p.1) (0 : Int)), ((List.getD p.2.2.2.2.2.2.2.2.2.1 (Int.toNat r3.1) ((0 : Int), ([] : List UInt8))).2, ())))).bind fun r4 => (R5 ((IntKind.i64.wrap (p.1 + (1 : Int))), (p.2.1, (p.2.2.1, (p.2.2.2.1, (p.2.2.2.2.1, (p.2.2.2.2.2.1, (p.2.2.2.2.2.2.1, (p.2.2.2.2.2.2.2.1, (p.2.2.2.2.2.2.2.2.1, (p.2.2.2.2.2.2.2.2.2.1, (p.2.2.2.2.2.2.2.2.2.2.1, (p.2.2.2.2.2.2.2.2.2.2.2.1, (p.2.2.2.2.2.2.2.2.2.2.2.2.1, r4.1))))))))))))))))))) (R5 ((IntKind.i64.wrap (p.1 + (1 : Int))), p.2)))))) ((f57 k (((p.2.1, (p.2.2.1, p.2.2.2.1)), ((p.2.2.2.2.1, p.2.2.2.2.2.1), (p.2.2.2.2.2.2.1, p.2.2.2.2.2.2.2.1))), (p.2.2.2.2.2.2.2.2.2.2.1, ()))).bind fun r5 => ((f56 k (p.2.2.2.2.2.2.2.2.2.2.2.2.2, ((39 : Int), (r5.1, ())))).bind fun r6 => (some (r6.1, (true, ()))))))
def f23_l5 (k : Nat) : f23_t5 → Option f23_r := loopP (fun R5 p => f23_b5 k R5 p) k
def f23_m (k : Nat) (A5 : f23_t5 → Option f23_r) (x : f23_x) : Option f23_r :=
  ((f53 k (x.2.1.1, ())).bind fun r1 => (cond (!r1.1) (some ((([] : List UInt8), ([] : List (Int × List UInt8))), (false, ()))) ((f54 k (x.2.1.1, ())).bind fun r2 => (A5 ((0 : Int), (x.1.1.1, (x.1.1.2.1, (x.1.1.2.2, (x.1.2.1.1, (x.1.2.1.2, (x.1.2.2.1, (x.1.2.2.2, (x.2.1.1, (x.2.1.2, (x.2.2.1.1, (x.2.2.1.2, (([] : List UInt8), (r2.1, ([] : List (Int × List UInt8))))))))))))))))))))
def f23 (k : Nat) (x : f23_x) : Option f23_r := f23_m k (f23_l5 k) x
def f23_lv : Nat → Lp := lps [(5, .keep [3, 4, 5, 6, 8, 9] [(3025, 1, .ro (.pair (.int .i64) .str))])]
def f23_G : Env := findL [(53, ⟨[.str], [.bool], f53, .no⟩), (54, ⟨[.str], [.str], f54, .no⟩), (55, ⟨[y34, (.int .i64)], [(.int .i64)], f55, .no⟩), (56, ⟨[y34, (.int .i64), .str], [y34], f56, .no⟩), (57, ⟨[(.pair (.pair (.int .i64) (.pair (.int .i64) (.sl y66))) (.pair (.pair (.sl (.pair .str .str)) (.sl y207)) (.pair (.sl (.int .i64)) (.sl (.pair (.int .i64) .str))))), (.int .i64)], [.str], f57, .no⟩)]
theorem f23_e5 (k : Nat) (kn : St → Option f23_r) (p : f23_t5) : stepAt types f23_G f23_lv k Try.f23.ntmps (kns []) 5 (Try.f23.body.getD .skip) (topK types Try.f23 [y34, .bool]) (f23_s5 p) kn =
    f23_b5 k (fun p => kn (f23_s5 p)) p := by kernel_rfl
theorem f23_q5 (k : Nat) (n : Nat) (p : f23_t5) : loopAt types f23_G f23_lv k Try.f23.ntmps (kns []) 5 (Try.f23.body.getD .skip) (topK types Try.f23 [y34, .bool]) n (f23_s5 p) = loopP (fun R5 p => f23_b5 k R5 p) n p :=
  loopAt_eq (fun kn p => f23_e5 k kn p) n p
theorem f23_e (k : Nat) (x : f23_x) : fnK types f23_G f23_lv k Try.f23 [(.pair (.pair (.int .i64) (.pair (.int .i64) (.sl y66))) (.pair (.pair (.sl (.pair .str .str)) (.sl y207)) (.pair (.sl (.int .i64)) (.sl (.pair (.int .i64) .str))))), y34, (.pair (.int .i64) (.int .i64))] [y34, .bool] x =
    f23_m k (fun p => loopAt types f23_G f23_lv k Try.f23.ntmps (kns []) 5 (Try.f23.body.getD .skip) (topK types Try.f23 [y34, .bool]) k (f23_s5 p)) x := by kernel_rfl
theorem f23_eq (k : Nat) (x : f23_x) : fnK types f23_G f23_lv k Try.f23 [(.pair (.pair (.int .i64) (.pair (.int .i64) (.sl y66))) (.pair (.pair (.sl (.pair .str .str)) (.sl y207)) (.pair (.sl (.int .i64)) (.sl (.pair (.int .i64) .str))))), y34, (.pair (.int .i64) (.int .i64))] [y34, .bool] x = f23 k x :=
  (f23_e k x).trans (congrFun (congrArg (f23_m k) (funext fun p => f23_q5 k k p)) x)
theorem f23_c : Contract Try.prog 23 ⟨[(.pair (.pair (.int .i64) (.pair (.int .i64) (.sl y66))) (.pair (.pair (.sl (.pair .str .str)) (.sl y207)) (.pair (.sl (.int .i64)) (.sl (.pair (.int .i64) .str))))), y34, (.pair (.int .i64) (.int .i64))], [y34, .bool], f23, .no⟩ :=
  fn_contract types_all (env_cons f53_c (env_cons f54_c (env_cons f55_c (env_cons f56_c (env_cons f57_c env_nil))))) mixes (by kernel_rfl) (by kernel_rfl) (by kernel_rfl) (by kernel_rfl) f23_eq

/-! groat/groatlaw23.RejectBuilds -/
abbrev f3_r := Bool × Unit
abbrev f3_x := ((Int × Int × List (Int × Int × Int × Int × Int)) × (List (List UInt8 × List UInt8) × List (Int × Int × Int × List UInt8 × List (List UInt8 × List UInt8))) × List Int × List (Int × List UInt8)) × (List UInt8 × List (Int × List UInt8)) × (Int × Int) × Unit
def f3_m (k : Nat) (x : f3_x) : Option f3_r :=
  ((f17 k ()).bind fun r1 => (cond (!r1.1) ((f17 k ()).bind fun r2 => (some (r2.1, ()))) ((f18 k (x.1, ())).bind fun r3 => (cond r3.1 ((f17 k ()).bind fun r4 => (some (r4.1, ()))) ((f19 k (x.2.1, ())).bind fun r5 => (cond r5.1 ((f17 k ()).bind fun r6 => (some (r6.1, ()))) ((f21 k (x.1, ())).bind fun r7 => ((f22 k (x.2.1, ())).bind fun r8 => ((f20 k (r7.1, (r8.1, (x.2.2.1, ())))).bind fun r9 => ((f23 k (x.1, (x.2.1, (x.2.2.1, ())))).bind fun r10 => (cond (r9.2.1 == r10.2.1) ((f24 k (r9.1, (r10.1, ()))).bind fun r11 => (some (r11.1, ()))) (some (false, ())))))))))))))
def f3 (k : Nat) (x : f3_x) : Option f3_r := f3_m k x
def f3_lv : Nat → Lp := lps []
def f3_G : Env := findL [(17, ⟨[], [.bool], f17, .no⟩), (18, ⟨[(.pair (.pair (.int .i64) (.pair (.int .i64) (.sl y66))) (.pair (.pair (.sl (.pair .str .str)) (.sl y207)) (.pair (.sl (.int .i64)) (.sl (.pair (.int .i64) .str)))))], [.bool], f18, .no⟩), (19, ⟨[y34], [.bool], f19, .no⟩), (20, ⟨[(.pair (.pair (.int .i64) (.pair (.int .i64) (.sl y66))) (.pair (.pair (.sl (.pair .str .str)) (.sl y207)) (.pair (.sl (.int .i64)) (.sl (.pair (.int .i64) .str))))), y34, (.pair (.int .i64) (.int .i64))], [y34, .bool], f20, .no⟩), (21, ⟨[(.pair (.pair (.int .i64) (.pair (.int .i64) (.sl y66))) (.pair (.pair (.sl (.pair .str .str)) (.sl y207)) (.pair (.sl (.int .i64)) (.sl (.pair (.int .i64) .str)))))], [(.pair (.pair (.int .i64) (.pair (.int .i64) (.sl y66))) (.pair (.pair (.sl (.pair .str .str)) (.sl y207)) (.pair (.sl (.int .i64)) (.sl (.pair (.int .i64) .str)))))], f21, .no⟩), (22, ⟨[y34], [y34], f22, .no⟩), (23, ⟨[(.pair (.pair (.int .i64) (.pair (.int .i64) (.sl y66))) (.pair (.pair (.sl (.pair .str .str)) (.sl y207)) (.pair (.sl (.int .i64)) (.sl (.pair (.int .i64) .str))))), y34, (.pair (.int .i64) (.int .i64))], [y34, .bool], f23, .no⟩), (24, ⟨[y34, y34], [.bool], f24, .no⟩)]
theorem f3_e (k : Nat) (x : f3_x) : fnK types f3_G f3_lv k Try.f3 [(.pair (.pair (.int .i64) (.pair (.int .i64) (.sl y66))) (.pair (.pair (.sl (.pair .str .str)) (.sl y207)) (.pair (.sl (.int .i64)) (.sl (.pair (.int .i64) .str))))), y34, (.pair (.int .i64) (.int .i64))] [.bool] x =
    f3_m k x := by kernel_rfl
theorem f3_eq (k : Nat) (x : f3_x) : fnK types f3_G f3_lv k Try.f3 [(.pair (.pair (.int .i64) (.pair (.int .i64) (.sl y66))) (.pair (.pair (.sl (.pair .str .str)) (.sl y207)) (.pair (.sl (.int .i64)) (.sl (.pair (.int .i64) .str))))), y34, (.pair (.int .i64) (.int .i64))] [.bool] x = f3 k x :=
  f3_e k x
theorem f3_c : Contract Try.prog 3 ⟨[(.pair (.pair (.int .i64) (.pair (.int .i64) (.sl y66))) (.pair (.pair (.sl (.pair .str .str)) (.sl y207)) (.pair (.sl (.int .i64)) (.sl (.pair (.int .i64) .str))))), y34, (.pair (.int .i64) (.int .i64))], [.bool], f3, .no⟩ :=
  fn_contract types_all (env_cons f17_c (env_cons f18_c (env_cons f19_c (env_cons f20_c (env_cons f21_c (env_cons f22_c (env_cons f23_c (env_cons f24_c env_nil)))))))) mixes (by kernel_rfl) (by kernel_rfl) (by kernel_rfl) (by kernel_rfl) f3_eq

/-! groat/groatref05.In -/
abbrev f28_r := Bool × Unit
abbrev f28_x := List Int × Int × Unit
abbrev f28_t2 := List Int × Int × Int
def f28_s2 (p : f28_t2) : St := [(0, .tv (.f (.c (.v (.sl (.int .i64)) p.1)))), (2, .tv (.f (.c (.v (.int .i64) p.2.1)))), (10, .tv (.f (.c (.v (.int .i64) p.2.2))))]
def f28_b2 (k : Nat) (R2 : f28_t2 → Option f28_r) (p : f28_t2) : Option f28_r :=
  (cond (decide (p.2.2 < ((((List.length p.1) : Nat) : Int)))) (chk (decide ((0 : Int) ≤ p.2.2)) (chk (decide (p.2.2 < ((((List.length p.1) : Nat) : Int)))) (cond ((List.getD p.1 (Int.toNat p.2.2) (0 : Int)) == p.2.1) (some (true, ())) (R2 (p.1, (p.2.1, (IntKind.i64.wrap (p.2.2 + (1 : Int))))))))) (some (false, ())))
def f28_l2 (k : Nat) : f28_t2 → Option f28_r := loopP (fun R2 p => f28_b2 k R2 p) k
def f28_m (k : Nat) (A2 : f28_t2 → Option f28_r) (x : f28_x) : Option f28_r :=
  (A2 (x.1, (x.2.1, (0 : Int))))
def f28 (k : Nat) (x : f28_x) : Option f28_r := f28_m k (f28_l2 k) x
def f28_lv : Nat → Lp := lps [(2, .keep [0, 1, 5] [])]
def f28_G : Env := findL []
theorem f28_e2 (k : Nat) (kn : St → Option f28_r) (p : f28_t2) : stepAt types f28_G f28_lv k Try.f28.ntmps (kns []) 2 (Try.f28.body.getD .skip) (topK types Try.f28 [.bool]) (f28_s2 p) kn =
    f28_b2 k (fun p => kn (f28_s2 p)) p := by kernel_rfl
theorem f28_q2 (k : Nat) (n : Nat) (p : f28_t2) : loopAt types f28_G f28_lv k Try.f28.ntmps (kns []) 2 (Try.f28.body.getD .skip) (topK types Try.f28 [.bool]) n (f28_s2 p) = loopP (fun R2 p => f28_b2 k R2 p) n p :=
  loopAt_eq (fun kn p => f28_e2 k kn p) n p
theorem f28_e (k : Nat) (x : f28_x) : fnK types f28_G f28_lv k Try.f28 [(.sl (.int .i64)), (.int .i64)] [.bool] x =
    f28_m k (fun p => loopAt types f28_G f28_lv k Try.f28.ntmps (kns []) 2 (Try.f28.body.getD .skip) (topK types Try.f28 [.bool]) k (f28_s2 p)) x := by kernel_rfl
theorem f28_eq (k : Nat) (x : f28_x) : fnK types f28_G f28_lv k Try.f28 [(.sl (.int .i64)), (.int .i64)] [.bool] x = f28 k x :=
  (f28_e k x).trans (congrFun (congrArg (f28_m k) (funext fun p => f28_q2 k k p)) x)
theorem f28_c : Contract Try.prog 28 ⟨[(.sl (.int .i64)), (.int .i64)], [.bool], f28, .no⟩ :=
  fn_contract types_all env_nil mixes (by kernel_rfl) (by kernel_rfl) (by kernel_rfl) (by kernel_rfl) f28_eq

/-! groat/groatref11.Check -/
abbrev f105_r := Int × Unit
abbrev f105_x := (Int × Int × Int × Int × Int) × Unit
def f105_m (k : Nat) (x : f105_x) : Option f105_r :=
  (cond (decide (x.1.1 < (2 : Int))) (some ((1 : Int), ())) (cond (decide (x.1.1 > (128 : Int))) (some ((1 : Int), ())) (cond (decide (x.1.2.1 < (1 : Int))) (some ((6 : Int), ())) (cond (decide (x.1.2.1 > (6 : Int))) (some ((6 : Int), ())) (cond (decide (x.1.2.2.1 < (1 : Int))) (some ((3 : Int), ())) (cond (decide (x.1.2.2.1 > (3 : Int))) (some ((3 : Int), ())) (cond (x.1.2.2.1 == (2 : Int)) (cond (decide (x.1.2.2.2.1 < (1 : Int))) (some ((5 : Int), ())) (cond (decide (x.1.2.2.2.2 < x.1.2.2.2.1)) (some ((5 : Int), ())) (cond (decide (x.1.2.2.2.2 > (99 : Int))) (some ((5 : Int), ())) (cond (x.1.2.2.1 == (1 : Int)) (cond (x.1.2.2.2.1 != x.1.2.2.2.2) (some ((5 : Int), ())) (cond (x.1.2.2.1 == (1 : Int)) (cond (x.1.2.1 == (6 : Int)) (some ((13 : Int), ())) (some ((0 : Int), ()))) (some ((0 : Int), ())))) (cond (x.1.2.2.1 == (1 : Int)) (cond (x.1.2.1 == (6 : Int)) (some ((13 : Int), ())) (some ((0 : Int), ()))) (some ((0 : Int), ()))))))) (cond (decide (x.1.2.2.2.1 < (1 : Int))) (some ((5 : Int), ())) (cond (decide (x.1.2.2.2.2 < x.1.2.2.2.1)) (some ((5 : Int), ())) (cond (decide (x.1.2.2.2.2 > (999 : Int))) (some ((5 : Int), ())) (cond (x.1.2.2.1 == (1 : Int)) (cond (x.1.2.2.2.1 != x.1.2.2.2.2) (some ((5 : Int), ())) (cond (x.1.2.2.1 == (1 : Int)) (cond (x.1.2.1 == (6 : Int)) (some ((13 : Int), ())) (some ((0 : Int), ()))) (some ((0 : Int), ())))) (cond (x.1.2.2.1 == (1 : Int)) (cond (x.1.2.1 == (6 : Int)) (some ((13 : Int), ())) (some ((0 : Int), ()))) (some ((0 : Int), ()))))))))))))))
def f105 (k : Nat) (x : f105_x) : Option f105_r := f105_m k x
def f105_lv : Nat → Lp := lps []
def f105_G : Env := findL []
theorem f105_e (k : Nat) (x : f105_x) : fnK types f105_G f105_lv k Try.f105 [y66] [(.int .i64)] x =
    f105_m k x := by kernel_rfl
theorem f105_eq (k : Nat) (x : f105_x) : fnK types f105_G f105_lv k Try.f105 [y66] [(.int .i64)] x = f105 k x :=
  f105_e k x
theorem f105_c : Contract Try.prog 105 ⟨[y66], [(.int .i64)], f105, .no⟩ :=
  fn_contract types_all env_nil mixes (by kernel_rfl) (by kernel_rfl) (by kernel_rfl) (by kernel_rfl) f105_eq

/-! groat/groatref13.Check -/
abbrev f104_r := Int × Int × Unit
abbrev f104_x := (Int × Int × List (Int × Int × Int × Int × Int)) × Unit
abbrev f104_t7 := Int × Int × Int × Int × List (Int × Int × Int × Int × Int)
def f104_s7 (p : f104_t7) : St := [(2, .tv (.f (.c (.ptr 1064 0)))), (8, .tv (.f (.c (.v (.int .i64) p.1)))), (10, .tv (.f (.c (.v (.int .i64) p.2.1)))), (2129, .box [.v (.int .i64) p.2.2.1, .v (.int .i64) p.2.2.2.1, .v (.sl y66) p.2.2.2.2])]
def f104_b7 (k : Nat) (R7 : f104_t7 → Option f104_r) (p : f104_t7) : Option f104_r :=
  (cond (decide (p.2.1 < ((((List.length p.2.2.2.2) : Nat) : Int)))) (chk (decide ((0 : Int) ≤ p.2.1)) (chk (decide (p.2.1 < ((((List.length p.2.2.2.2) : Nat) : Int)))) ((f105 k ((List.getD p.2.2.2.2 (Int.toNat p.2.1) ((0 : Int), ((0 : Int), ((0 : Int), ((0 : Int), (0 : Int)))))), ())).bind fun r1 => (cond (r1.1 != (0 : Int)) (some (r1.1, (p.2.1, ()))) (chk (decide ((0 : Int) ≤ p.2.1)) (chk (decide (p.2.1 < ((((List.length p.2.2.2.2) : Nat) : Int)))) (cond (decide ((List.getD p.2.2.2.2 (Int.toNat p.2.1) ((0 : Int), ((0 : Int), ((0 : Int), ((0 : Int), (0 : Int)))))).1 ≤ p.1)) (some ((11 : Int), (p.2.1, ()))) (chk (decide ((0 : Int) ≤ p.2.1)) (chk (decide (p.2.1 < ((((List.length p.2.2.2.2) : Nat) : Int)))) (R7 ((List.getD p.2.2.2.2 (Int.toNat p.2.1) ((0 : Int), ((0 : Int), ((0 : Int), ((0 : Int), (0 : Int)))))).1, ((IntKind.i64.wrap (p.2.1 + (1 : Int))), p.2.2)))))))))))) (some ((0 : Int), ((0 : Int), ()))))
def f104_l7 (k : Nat) : f104_t7 → Option f104_r := loopP (fun R7 p => f104_b7 k R7 p) k
def f104_m (k : Nat) (A7 : f104_t7 → Option f104_r) (x : f104_x) : Option f104_r :=
  (cond (x.1.1 != (1 : Int)) (cond (x.1.1 != (2 : Int)) (some ((1 : Int), ((-1 : Int), ()))) (cond (decide (x.1.2.1 < (0 : Int))) (some ((7 : Int), ((-1 : Int), ()))) (cond (decide (x.1.2.1 > (9 : Int))) (some ((7 : Int), ((-1 : Int), ()))) (A7 ((0 : Int), ((0 : Int), x.1)))))) (cond (decide (x.1.2.1 < (0 : Int))) (some ((7 : Int), ((-1 : Int), ()))) (cond (decide (x.1.2.1 > (9 : Int))) (some ((7 : Int), ((-1 : Int), ()))) (A7 ((0 : Int), ((0 : Int), x.1))))))
def f104 (k : Nat) (x : f104_x) : Option f104_r := f104_m k (f104_l7 k) x
def f104_lv : Nat → Lp := lps [(7, .keep [1, 4, 5] [])]
def f104_G : Env := findL [(105, ⟨[y66], [(.int .i64)], f105, .no⟩)]
theorem f104_e7 (k : Nat) (kn : St → Option f104_r) (p : f104_t7) : stepAt types f104_G f104_lv k Try.f104.ntmps (kns []) 7 (Try.f104.body.getD .skip) (topK types Try.f104 [(.int .i64), (.int .i64)]) (f104_s7 p) kn =
    f104_b7 k (fun p => kn (f104_s7 p)) p := by kernel_rfl
theorem f104_q7 (k : Nat) (n : Nat) (p : f104_t7) : loopAt types f104_G f104_lv k Try.f104.ntmps (kns []) 7 (Try.f104.body.getD .skip) (topK types Try.f104 [(.int .i64), (.int .i64)]) n (f104_s7 p) = loopP (fun R7 p => f104_b7 k R7 p) n p :=
  loopAt_eq (fun kn p => f104_e7 k kn p) n p
theorem f104_e (k : Nat) (x : f104_x) : fnK types f104_G f104_lv k Try.f104 [(.pair (.int .i64) (.pair (.int .i64) (.sl y66)))] [(.int .i64), (.int .i64)] x =
    f104_m k (fun p => loopAt types f104_G f104_lv k Try.f104.ntmps (kns []) 7 (Try.f104.body.getD .skip) (topK types Try.f104 [(.int .i64), (.int .i64)]) k (f104_s7 p)) x := by kernel_rfl
theorem f104_eq (k : Nat) (x : f104_x) : fnK types f104_G f104_lv k Try.f104 [(.pair (.int .i64) (.pair (.int .i64) (.sl y66)))] [(.int .i64), (.int .i64)] x = f104 k x :=
  (f104_e k x).trans (congrFun (congrArg (f104_m k) (funext fun p => f104_q7 k k p)) x)
theorem f104_c : Contract Try.prog 104 ⟨[(.pair (.int .i64) (.pair (.int .i64) (.sl y66)))], [(.int .i64), (.int .i64)], f104, .no⟩ :=
  fn_contract types_all (env_cons f105_c env_nil) mixes (by kernel_rfl) (by kernel_rfl) (by kernel_rfl) (by kernel_rfl) f104_eq

/-! groat/groatref13.Right -/
abbrev f59_r := Bool × Unit
abbrev f59_x := (Int × Int × List (Int × Int × Int × Int × Int)) × Unit
def f59_m (k : Nat) (x : f59_x) : Option f59_r :=
  ((f104 k (x.1, ())).bind fun r1 => (some ((r1.1 == (0 : Int)), ())))
def f59 (k : Nat) (x : f59_x) : Option f59_r := f59_m k x
def f59_lv : Nat → Lp := lps []
def f59_G : Env := findL [(104, ⟨[(.pair (.int .i64) (.pair (.int .i64) (.sl y66)))], [(.int .i64), (.int .i64)], f104, .no⟩)]
theorem f59_e (k : Nat) (x : f59_x) : fnK types f59_G f59_lv k Try.f59 [(.pair (.int .i64) (.pair (.int .i64) (.sl y66)))] [.bool] x =
    f59_m k x := by kernel_rfl
theorem f59_eq (k : Nat) (x : f59_x) : fnK types f59_G f59_lv k Try.f59 [(.pair (.int .i64) (.pair (.int .i64) (.sl y66)))] [.bool] x = f59 k x :=
  f59_e k x
theorem f59_c : Contract Try.prog 59 ⟨[(.pair (.int .i64) (.pair (.int .i64) (.sl y66)))], [.bool], f59, .no⟩ :=
  fn_contract types_all (env_cons f104_c env_nil) mixes (by kernel_rfl) (by kernel_rfl) (by kernel_rfl) (by kernel_rfl) f59_eq

/-! groat/groatref13.Find -/
abbrev f60_r := Int × Unit
abbrev f60_x := (Int × Int × List (Int × Int × Int × Int × Int)) × Int × Unit
abbrev f60_t2 := Int × Int × Int × Int × List (Int × Int × Int × Int × Int)
def f60_s2 (p : f60_t2) : St := [(2, .tv (.f (.c (.v (.int .i64) p.1)))), (4, .tv (.f (.c (.ptr 1128 0)))), (10, .tv (.f (.c (.v (.int .i64) p.2.1)))), (2257, .box [.v (.int .i64) p.2.2.1, .v (.int .i64) p.2.2.2.1, .v (.sl y66) p.2.2.2.2])]
def f60_b2 (k : Nat) (R2 : f60_t2 → Option f60_r) (p : f60_t2) : Option f60_r :=
  (cond (decide (p.2.1 < ((((List.length p.2.2.2.2) : Nat) : Int)))) (chk (decide ((0 : Int) ≤ p.2.1)) (chk (decide (p.2.1 < ((((List.length p.2.2.2.2) : Nat) : Int)))) (cond ((List.getD p.2.2.2.2 (Int.toNat p.2.1) ((0 : Int), ((0 : Int), ((0 : Int), ((0 : Int), (0 : Int)))))).1 == p.1) (some (p.2.1, ())) (R2 (p.1, ((IntKind.i64.wrap (p.2.1 + (1 : Int))), p.2.2)))))) (some ((-1 : Int), ())))
def f60_l2 (k : Nat) : f60_t2 → Option f60_r := loopP (fun R2 p => f60_b2 k R2 p) k
def f60_m (k : Nat) (A2 : f60_t2 → Option f60_r) (x : f60_x) : Option f60_r :=
  (A2 (x.2.1, ((0 : Int), x.1)))
def f60 (k : Nat) (x : f60_x) : Option f60_r := f60_m k (f60_l2 k) x
def f60_lv : Nat → Lp := lps [(2, .keep [1, 2, 5] [])]
def f60_G : Env := findL []
theorem f60_e2 (k : Nat) (kn : St → Option f60_r) (p : f60_t2) : stepAt types f60_G f60_lv k Try.f60.ntmps (kns []) 2 (Try.f60.body.getD .skip) (topK types Try.f60 [(.int .i64)]) (f60_s2 p) kn =
    f60_b2 k (fun p => kn (f60_s2 p)) p := by kernel_rfl
theorem f60_q2 (k : Nat) (n : Nat) (p : f60_t2) : loopAt types f60_G f60_lv k Try.f60.ntmps (kns []) 2 (Try.f60.body.getD .skip) (topK types Try.f60 [(.int .i64)]) n (f60_s2 p) = loopP (fun R2 p => f60_b2 k R2 p) n p :=
  loopAt_eq (fun kn p => f60_e2 k kn p) n p
theorem f60_e (k : Nat) (x : f60_x) : fnK types f60_G f60_lv k Try.f60 [(.pair (.int .i64) (.pair (.int .i64) (.sl y66))), (.int .i64)] [(.int .i64)] x =
    f60_m k (fun p => loopAt types f60_G f60_lv k Try.f60.ntmps (kns []) 2 (Try.f60.body.getD .skip) (topK types Try.f60 [(.int .i64)]) k (f60_s2 p)) x := by kernel_rfl
theorem f60_eq (k : Nat) (x : f60_x) : fnK types f60_G f60_lv k Try.f60 [(.pair (.int .i64) (.pair (.int .i64) (.sl y66))), (.int .i64)] [(.int .i64)] x = f60 k x :=
  (f60_e k x).trans (congrFun (congrArg (f60_m k) (funext fun p => f60_q2 k k p)) x)
theorem f60_c : Contract Try.prog 60 ⟨[(.pair (.int .i64) (.pair (.int .i64) (.sl y66))), (.int .i64)], [(.int .i64)], f60, .no⟩ :=
  fn_contract types_all env_nil mixes (by kernel_rfl) (by kernel_rfl) (by kernel_rfl) (by kernel_rfl) f60_eq

/-! groat/groatref04.Is -/
abbrev f136_r := Bool × Unit
abbrev f136_x := Int × Int × Unit
def f136_m (k : Nat) (x : f136_x) : Option f136_r :=
  (cond (decide (x.2.1 ≥ (48 : Int))) (cond (decide (x.2.1 ≥ (65 : Int))) (cond (decide (x.2.1 ≤ (90 : Int))) (cond (x.1 == (1 : Int)) (some ((decide (x.2.1 ≤ (57 : Int))), ())) (cond (x.1 == (2 : Int)) (some (true, ())) (cond (x.1 == (3 : Int)) (cond (decide (x.2.1 ≤ (57 : Int))) (some (true, ())) (some (true, ()))) (cond (x.1 == (4 : Int)) (cond (decide (x.2.1 ≥ (32 : Int))) (some ((decide (x.2.1 ≤ (126 : Int))), ())) (some (false, ()))) (cond (x.1 == (5 : Int)) (some (true, ())) (some ((x.1 == (6 : Int)), ()))))))) (cond (decide (x.2.1 ≥ (97 : Int))) (cond (x.1 == (1 : Int)) (some ((decide (x.2.1 ≤ (57 : Int))), ())) (cond (x.1 == (2 : Int)) (some ((decide (x.2.1 ≤ (122 : Int))), ())) (cond (x.1 == (3 : Int)) (cond (decide (x.2.1 ≤ (57 : Int))) (some (true, ())) (some ((decide (x.2.1 ≤ (122 : Int))), ()))) (cond (x.1 == (4 : Int)) (cond (decide (x.2.1 ≥ (32 : Int))) (some ((decide (x.2.1 ≤ (126 : Int))), ())) (some (false, ()))) (cond (x.1 == (5 : Int)) (some (true, ())) (some ((x.1 == (6 : Int)), ()))))))) (cond (x.1 == (1 : Int)) (some ((decide (x.2.1 ≤ (57 : Int))), ())) (cond (x.1 == (2 : Int)) (some (false, ())) (cond (x.1 == (3 : Int)) (cond (decide (x.2.1 ≤ (57 : Int))) (some (true, ())) (some (false, ()))) (cond (x.1 == (4 : Int)) (cond (decide (x.2.1 ≥ (32 : Int))) (some ((decide (x.2.1 ≤ (126 : Int))), ())) (some (false, ()))) (cond (x.1 == (5 : Int)) (some (true, ())) (some ((x.1 == (6 : Int)), ()))))))))) (cond (decide (x.2.1 ≥ (97 : Int))) (cond (x.1 == (1 : Int)) (some ((decide (x.2.1 ≤ (57 : Int))), ())) (cond (x.1 == (2 : Int)) (some ((decide (x.2.1 ≤ (122 : Int))), ())) (cond (x.1 == (3 : Int)) (cond (decide (x.2.1 ≤ (57 : Int))) (some (true, ())) (some ((decide (x.2.1 ≤ (122 : Int))), ()))) (cond (x.1 == (4 : Int)) (cond (decide (x.2.1 ≥ (32 : Int))) (some ((decide (x.2.1 ≤ (126 : Int))), ())) (some (false, ()))) (cond (x.1 == (5 : Int)) (some (true, ())) (some ((x.1 == (6 : Int)), ()))))))) (cond (x.1 == (1 : Int)) (some ((decide (x.2.1 ≤ (57 : Int))), ())) (cond (x.1 == (2 : Int)) (some (false, ())) (cond (x.1 == (3 : Int)) (cond (decide (x.2.1 ≤ (57 : Int))) (some (true, ())) (some (false, ()))) (cond (x.1 == (4 : Int)) (cond (decide (x.2.1 ≥ (32 : Int))) (some ((decide (x.2.1 ≤ (126 : Int))), ())) (some (false, ()))) (cond (x.1 == (5 : Int)) (some (true, ())) (some ((x.1 == (6 : Int)), ()))))))))) (cond (decide (x.2.1 ≥ (65 : Int))) (cond (decide (x.2.1 ≤ (90 : Int))) (cond (x.1 == (1 : Int)) (some (false, ())) (cond (x.1 == (2 : Int)) (some (true, ())) (cond (x.1 == (3 : Int)) (some (true, ())) (cond (x.1 == (4 : Int)) (cond (decide (x.2.1 ≥ (32 : Int))) (some ((decide (x.2.1 ≤ (126 : Int))), ())) (some (false, ()))) (cond (x.1 == (5 : Int)) (some (true, ())) (some ((x.1 == (6 : Int)), ()))))))) (cond (decide (x.2.1 ≥ (97 : Int))) (cond (x.1 == (1 : Int)) (some (false, ())) (cond (x.1 == (2 : Int)) (some ((decide (x.2.1 ≤ (122 : Int))), ())) (cond (x.1 == (3 : Int)) (some ((decide (x.2.1 ≤ (122 : Int))), ())) (cond (x.1 == (4 : Int)) (cond (decide (x.2.1 ≥ (32 : Int))) (some ((decide (x.2.1 ≤ (126 : Int))), ())) (some (false, ()))) (cond (x.1 == (5 : Int)) (some (true, ())) (some ((x.1 == (6 : Int)), ()))))))) (cond (x.1 == (1 : Int)) (some (false, ())) (cond (x.1 == (2 : Int)) (some (false, ())) (cond (x.1 == (3 : Int)) (some (false, ())) (cond (x.1 == (4 : Int)) (cond (decide (x.2.1 ≥ (32 : Int))) (some ((decide (x.2.1 ≤ (126 : Int))), ())) (some (false, ()))) (cond (x.1 == (5 : Int)) (some (true, ())) (some ((x.1 == (6 : Int)), ()))))))))) (cond (decide (x.2.1 ≥ (97 : Int))) (cond (x.1 == (1 : Int)) (some (false, ())) (cond (x.1 == (2 : Int)) (some ((decide (x.2.1 ≤ (122 : Int))), ())) (cond (x.1 == (3 : Int)) (some ((decide (x.2.1 ≤ (122 : Int))), ())) (cond (x.1 == (4 : Int)) (cond (decide (x.2.1 ≥ (32 : Int))) (some ((decide (x.2.1 ≤ (126 : Int))), ())) (some (false, ()))) (cond (x.1 == (5 : Int)) (some (true, ())) (some ((x.1 == (6 : Int)), ()))))))) (cond (x.1 == (1 : Int)) (some (false, ())) (cond (x.1 == (2 : Int)) (some (false, ())) (cond (x.1 == (3 : Int)) (some (false, ())) (cond (x.1 == (4 : Int)) (cond (decide (x.2.1 ≥ (32 : Int))) (some ((decide (x.2.1 ≤ (126 : Int))), ())) (some (false, ()))) (cond (x.1 == (5 : Int)) (some (true, ())) (some ((x.1 == (6 : Int)), ()))))))))))
def f136 (k : Nat) (x : f136_x) : Option f136_r := f136_m k x
def f136_lv : Nat → Lp := lps []
def f136_G : Env := findL []
theorem f136_e (k : Nat) (x : f136_x) : fnK types f136_G f136_lv k Try.f136 [(.int .i64), (.int .u8)] [.bool] x =
    f136_m k x := by kernel_rfl
theorem f136_eq (k : Nat) (x : f136_x) : fnK types f136_G f136_lv k Try.f136 [(.int .i64), (.int .u8)] [.bool] x = f136 k x :=
  f136_e k x
theorem f136_c : Contract Try.prog 136 ⟨[(.int .i64), (.int .u8)], [.bool], f136, .no⟩ :=
  fn_contract types_all env_nil mixes (by kernel_rfl) (by kernel_rfl) (by kernel_rfl) (by kernel_rfl) f136_eq

/-! groat/groatref04.First -/
abbrev f106_r := Int × Unit
abbrev f106_x := Int × List UInt8 × Unit
abbrev f106_t2 := Int × List UInt8 × Int
def f106_s2 (p : f106_t2) : St := [(0, .tv (.f (.c (.v (.int .i64) p.1)))), (2, .tv (.f (.c (.v .str p.2.1)))), (10, .tv (.f (.c (.v (.int .i64) p.2.2))))]
def f106_b2 (k : Nat) (R2 : f106_t2 → Option f106_r) (p : f106_t2) : Option f106_r :=
  (cond (decide (p.2.2 < ((((List.length p.2.1) : Nat) : Int)))) (chk (decide ((0 : Int) ≤ p.2.2)) (chk (decide (p.2.2 < ((((List.length p.2.1) : Nat) : Int)))) ((f136 k (p.1, ((((UInt8.toNat (List.getD p.2.1 (Int.toNat p.2.2) 0) : Nat) : Int)), ()))).bind fun r1 => (cond (!r1.1) (some (p.2.2, ())) (R2 (p.1, (p.2.1, (IntKind.i64.wrap (p.2.2 + (1 : Int)))))))))) (some ((-1 : Int), ())))
def f106_l2 (k : Nat) : f106_t2 → Option f106_r := loopP (fun R2 p => f106_b2 k R2 p) k
def f106_m (k : Nat) (A2 : f106_t2 → Option f106_r) (x : f106_x) : Option f106_r :=
  (A2 (x.1, (x.2.1, (0 : Int))))
def f106 (k : Nat) (x : f106_x) : Option f106_r := f106_m k (f106_l2 k) x
def f106_lv : Nat → Lp := lps [(2, .keep [0, 1, 5] [])]
def f106_G : Env := findL [(136, ⟨[(.int .i64), (.int .u8)], [.bool], f136, .no⟩)]
theorem f106_e2 (k : Nat) (kn : St → Option f106_r) (p : f106_t2) : stepAt types f106_G f106_lv k Try.f106.ntmps (kns []) 2 (Try.f106.body.getD .skip) (topK types Try.f106 [(.int .i64)]) (f106_s2 p) kn =
    f106_b2 k (fun p => kn (f106_s2 p)) p := by kernel_rfl
theorem f106_q2 (k : Nat) (n : Nat) (p : f106_t2) : loopAt types f106_G f106_lv k Try.f106.ntmps (kns []) 2 (Try.f106.body.getD .skip) (topK types Try.f106 [(.int .i64)]) n (f106_s2 p) = loopP (fun R2 p => f106_b2 k R2 p) n p :=
  loopAt_eq (fun kn p => f106_e2 k kn p) n p
theorem f106_e (k : Nat) (x : f106_x) : fnK types f106_G f106_lv k Try.f106 [(.int .i64), .str] [(.int .i64)] x =
    f106_m k (fun p => loopAt types f106_G f106_lv k Try.f106.ntmps (kns []) 2 (Try.f106.body.getD .skip) (topK types Try.f106 [(.int .i64)]) k (f106_s2 p)) x := by kernel_rfl
theorem f106_eq (k : Nat) (x : f106_x) : fnK types f106_G f106_lv k Try.f106 [(.int .i64), .str] [(.int .i64)] x = f106 k x :=
  (f106_e k x).trans (congrFun (congrArg (f106_m k) (funext fun p => f106_q2 k k p)) x)
theorem f106_c : Contract Try.prog 106 ⟨[(.int .i64), .str], [(.int .i64)], f106, .no⟩ :=
  fn_contract types_all (env_cons f136_c env_nil) mixes (by kernel_rfl) (by kernel_rfl) (by kernel_rfl) (by kernel_rfl) f106_eq

/-! groat/groatref08.First -/
abbrev f151_r := Int × Unit
abbrev f151_x := Int × Unit
def f151_m (k : Nat) (x : f151_x) : Option f151_r :=
  (cond (x.1 == (0 : Int)) (some ((0 : Int), ())) (cond ((Int.tmod (IntKind.u8.wrap (Int.tdiv x.1 (32 : Int))) (2 : Int)) == (1 : Int)) (some ((0 : Int), ())) (cond ((Int.tmod x.1 (32 : Int)) == (31 : Int)) (some ((2 : Int), ())) (some ((1 : Int), ())))))
def f151 (k : Nat) (x : f151_x) : Option f151_r := f151_m k x
def f151_lv : Nat → Lp := lps []
def f151_G : Env := findL []
theorem f151_e (k : Nat) (x : f151_x) : fnK types f151_G f151_lv k Try.f151 [(.int .u8)] [(.int .i64)] x =
    f151_m k x := by kernel_rfl
theorem f151_eq (k : Nat) (x : f151_x) : fnK types f151_G f151_lv k Try.f151 [(.int .u8)] [(.int .i64)] x = f151 k x :=
  f151_e k x
theorem f151_c : Contract Try.prog 151 ⟨[(.int .u8)], [(.int .i64)], f151, .no⟩ :=
  fn_contract types_all env_nil mixes (by kernel_rfl) (by kernel_rfl) (by kernel_rfl) (by kernel_rfl) f151_eq

/-! groat/groatref08.Get -/
abbrev f137_r := Int × Int × Int × Unit
abbrev f137_x := List UInt8 × Int × Unit
def f137_m (k : Nat) (x : f137_x) : Option f137_r :=
  (cond (decide (x.2.1 < (0 : Int))) (some ((0 : Int), ((0 : Int), ((1 : Int), ())))) (cond (decide (x.2.1 > ((((List.length x.1) : Nat) : Int)))) (some ((0 : Int), ((0 : Int), ((1 : Int), ())))) (cond (x.2.1 == ((((List.length x.1) : Nat) : Int))) (some ((0 : Int), ((0 : Int), ((2 : Int), ())))) (chk (decide ((0 : Int) ≤ x.2.1)) (chk (decide (x.2.1 < ((((List.length x.1) : Nat) : Int)))) ((f151 k ((((UInt8.toNat (List.getD x.1 (Int.toNat x.2.1) 0) : Nat) : Int)), ())).bind fun r1 => (cond (r1.1 == (0 : Int)) (some ((0 : Int), ((0 : Int), ((13 : Int), ())))) (cond (r1.1 == (1 : Int)) (chk (decide ((0 : Int) ≤ x.2.1)) (chk (decide (x.2.1 < ((((List.length x.1) : Nat) : Int)))) (some ((IntKind.i64.wrap (((UInt8.toNat (List.getD x.1 (Int.toNat x.2.1) 0) : Nat) : Int))), ((IntKind.i64.wrap (x.2.1 + (1 : Int))), ((0 : Int), ())))))) (cond (decide ((IntKind.i64.wrap (((((List.length x.1) : Nat) : Int)) - x.2.1)) < (2 : Int))) (some ((0 : Int), ((0 : Int), ((2 : Int), ())))) (chk (decide ((0 : Int) ≤ (IntKind.i64.wrap (x.2.1 + (1 : Int))))) (chk (decide ((IntKind.i64.wrap (x.2.1 + (1 : Int))) < ((((List.length x.1) : Nat) : Int)))) (cond ((((UInt8.toNat (List.getD x.1 (Int.toNat (IntKind.i64.wrap (x.2.1 + (1 : Int)))) 0) : Nat) : Int)) == (0 : Int)) (some ((0 : Int), ((0 : Int), ((13 : Int), ())))) (chk (decide ((0 : Int) ≤ (IntKind.i64.wrap (x.2.1 + (1 : Int))))) (chk (decide ((IntKind.i64.wrap (x.2.1 + (1 : Int))) < ((((List.length x.1) : Nat) : Int)))) (cond (decide ((((UInt8.toNat (List.getD x.1 (Int.toNat (IntKind.i64.wrap (x.2.1 + (1 : Int)))) 0) : Nat) : Int)) > (127 : Int))) (some ((0 : Int), ((0 : Int), ((13 : Int), ())))) (chk (decide ((0 : Int) ≤ x.2.1)) (chk (decide (x.2.1 < ((((List.length x.1) : Nat) : Int)))) (chk (decide ((0 : Int) ≤ (IntKind.i64.wrap (x.2.1 + (1 : Int))))) (chk (decide ((IntKind.i64.wrap (x.2.1 + (1 : Int))) < ((((List.length x.1) : Nat) : Int)))) (some ((IntKind.i64.wrap ((IntKind.i64.wrap ((256 : Int) * (IntKind.i64.wrap (((UInt8.toNat (List.getD x.1 (Int.toNat x.2.1) 0) : Nat) : Int))))) + (IntKind.i64.wrap (((UInt8.toNat (List.getD x.1 (Int.toNat (IntKind.i64.wrap (x.2.1 + (1 : Int)))) 0) : Nat) : Int))))), ((IntKind.i64.wrap (x.2.1 + (2 : Int))), ((0 : Int), ())))))))))))))))))))))))
def f137 (k : Nat) (x : f137_x) : Option f137_r := f137_m k x
def f137_lv : Nat → Lp := lps []
def f137_G : Env := findL [(151, ⟨[(.int .u8)], [(.int .i64)], f151, .no⟩)]
theorem f137_e (k : Nat) (x : f137_x) : fnK types f137_G f137_lv k Try.f137 [.str, (.int .i64)] [(.int .i64), (.int .i64), (.int .i64)] x =
    f137_m k x := by kernel_rfl
theorem f137_eq (k : Nat) (x : f137_x) : fnK types f137_G f137_lv k Try.f137 [.str, (.int .i64)] [(.int .i64), (.int .i64), (.int .i64)] x = f137 k x :=
  f137_e k x
theorem f137_c : Contract Try.prog 137 ⟨[.str, (.int .i64)], [(.int .i64), (.int .i64), (.int .i64)], f137, .no⟩ :=
  fn_contract types_all (env_cons f151_c env_nil) mixes (by kernel_rfl) (by kernel_rfl) (by kernel_rfl) (by kernel_rfl) f137_eq

/-! groat/groatref09.Get -/
abbrev f138_r := Int × Int × Int × Unit
abbrev f138_x := List UInt8 × Int × Unit
def f138_m (k : Nat) (x : f138_x) : Option f138_r :=
  (cond (decide (x.2.1 < (0 : Int))) (some ((0 : Int), ((0 : Int), ((1 : Int), ())))) (cond (decide (x.2.1 > ((((List.length x.1) : Nat) : Int)))) (some ((0 : Int), ((0 : Int), ((1 : Int), ())))) (cond (x.2.1 == ((((List.length x.1) : Nat) : Int))) (some ((0 : Int), ((0 : Int), ((2 : Int), ())))) (chk (decide ((0 : Int) ≤ x.2.1)) (chk (decide (x.2.1 < ((((List.length x.1) : Nat) : Int)))) (cond (decide ((IntKind.i64.wrap (((UInt8.toNat (List.getD x.1 (Int.toNat x.2.1) 0) : Nat) : Int))) < (128 : Int))) (some ((IntKind.i64.wrap (((UInt8.toNat (List.getD x.1 (Int.toNat x.2.1) 0) : Nat) : Int))), ((IntKind.i64.wrap (x.2.1 + (1 : Int))), ((0 : Int), ())))) (cond ((IntKind.i64.wrap (((UInt8.toNat (List.getD x.1 (Int.toNat x.2.1) 0) : Nat) : Int))) != (129 : Int)) (cond ((IntKind.i64.wrap (((UInt8.toNat (List.getD x.1 (Int.toNat x.2.1) 0) : Nat) : Int))) != (130 : Int)) (some ((0 : Int), ((0 : Int), ((14 : Int), ())))) (cond (decide ((IntKind.i64.wrap (((((List.length x.1) : Nat) : Int)) - x.2.1)) < (IntKind.i64.wrap ((IntKind.i64.wrap (((UInt8.toNat (List.getD x.1 (Int.toNat x.2.1) 0) : Nat) : Int))) - (127 : Int))))) (some ((0 : Int), ((0 : Int), ((2 : Int), ())))) (cond ((IntKind.i64.wrap (((UInt8.toNat (List.getD x.1 (Int.toNat x.2.1) 0) : Nat) : Int))) == (129 : Int)) (chk (decide ((0 : Int) ≤ (IntKind.i64.wrap (x.2.1 + (1 : Int))))) (chk (decide ((IntKind.i64.wrap (x.2.1 + (1 : Int))) < ((((List.length x.1) : Nat) : Int)))) (cond (decide ((((UInt8.toNat (List.getD x.1 (Int.toNat (IntKind.i64.wrap (x.2.1 + (1 : Int)))) 0) : Nat) : Int)) < (128 : Int))) (some ((0 : Int), ((0 : Int), ((14 : Int), ())))) (chk (decide ((0 : Int) ≤ (IntKind.i64.wrap (x.2.1 + (1 : Int))))) (chk (decide ((IntKind.i64.wrap (x.2.1 + (1 : Int))) < ((((List.length x.1) : Nat) : Int)))) (some ((IntKind.i64.wrap (((UInt8.toNat (List.getD x.1 (Int.toNat (IntKind.i64.wrap (x.2.1 + (1 : Int)))) 0) : Nat) : Int))), ((IntKind.i64.wrap (x.2.1 + (2 : Int))), ((0 : Int), ()))))))))) (chk (decide ((0 : Int) ≤ (IntKind.i64.wrap (x.2.1 + (1 : Int))))) (chk (decide ((IntKind.i64.wrap (x.2.1 + (1 : Int))) < ((((List.length x.1) : Nat) : Int)))) (cond ((((UInt8.toNat (List.getD x.1 (Int.toNat (IntKind.i64.wrap (x.2.1 + (1 : Int)))) 0) : Nat) : Int)) == (0 : Int)) (some ((0 : Int), ((0 : Int), ((14 : Int), ())))) (chk (decide ((0 : Int) ≤ (IntKind.i64.wrap (x.2.1 + (1 : Int))))) (chk (decide ((IntKind.i64.wrap (x.2.1 + (1 : Int))) < ((((List.length x.1) : Nat) : Int)))) (chk (decide ((0 : Int) ≤ (IntKind.i64.wrap (x.2.1 + (2 : Int))))) (chk (decide ((IntKind.i64.wrap (x.2.1 + (2 : Int))) < ((((List.length x.1) : Nat) : Int)))) (some ((IntKind.i64.wrap ((IntKind.i64.wrap ((256 : Int) * (IntKind.i64.wrap (((UInt8.toNat (List.getD x.1 (Int.toNat (IntKind.i64.wrap (x.2.1 + (1 : Int)))) 0) : Nat) : Int))))) + (IntKind.i64.wrap (((UInt8.toNat (List.getD x.1 (Int.toNat (IntKind.i64.wrap (x.2.1 + (2 : Int)))) 0) : Nat) : Int))))), ((IntKind.i64.wrap (x.2.1 + (3 : Int))), ((0 : Int), ())))))))))))))) (cond (decide ((IntKind.i64.wrap (((((List.length x.1) : Nat) : Int)) - x.2.1)) < (IntKind.i64.wrap ((IntKind.i64.wrap (((UInt8.toNat (List.getD x.1 (Int.toNat x.2.1) 0) : Nat) : Int))) - (127 : Int))))) (some ((0 : Int), ((0 : Int), ((2 : Int), ())))) (cond ((IntKind.i64.wrap (((UInt8.toNat (List.getD x.1 (Int.toNat x.2.1) 0) : Nat) : Int))) == (129 : Int)) (chk (decide ((0 : Int) ≤ (IntKind.i64.wrap (x.2.1 + (1 : Int))))) (chk (decide ((IntKind.i64.wrap (x.2.1 + (1 : Int))) < ((((List.length x.1) : Nat) : Int)))) (cond (decide ((((UInt8.toNat (List.getD x.1 (Int.toNat (IntKind.i64.wrap (x.2.1 + (1 : Int)))) 0) : Nat) : Int)) < (128 : Int))) (some ((0 : Int), ((0 : Int), ((14 : Int), ())))) (chk (decide ((0 : Int) ≤ (IntKind.i64.wrap (x.2.1 + (1 : Int))))) (chk (decide ((IntKind.i64.wrap (x.2.1 + (1 : Int))) < ((((List.length x.1) : Nat) : Int)))) (some ((IntKind.i64.wrap (((UInt8.toNat (List.getD x.1 (Int.toNat (IntKind.i64.wrap (x.2.1 + (1 : Int)))) 0) : Nat) : Int))), ((IntKind.i64.wrap (x.2.1 + (2 : Int))), ((0 : Int), ()))))))))) (chk (decide ((0 : Int) ≤ (IntKind.i64.wrap (x.2.1 + (1 : Int))))) (chk (decide ((IntKind.i64.wrap (x.2.1 + (1 : Int))) < ((((List.length x.1) : Nat) : Int)))) (cond ((((UInt8.toNat (List.getD x.1 (Int.toNat (IntKind.i64.wrap (x.2.1 + (1 : Int)))) 0) : Nat) : Int)) == (0 : Int)) (some ((0 : Int), ((0 : Int), ((14 : Int), ())))) (chk (decide ((0 : Int) ≤ (IntKind.i64.wrap (x.2.1 + (1 : Int))))) (chk (decide ((IntKind.i64.wrap (x.2.1 + (1 : Int))) < ((((List.length x.1) : Nat) : Int)))) (chk (decide ((0 : Int) ≤ (IntKind.i64.wrap (x.2.1 + (2 : Int))))) (chk (decide ((IntKind.i64.wrap (x.2.1 + (2 : Int))) < ((((List.length x.1) : Nat) : Int)))) (some ((IntKind.i64.wrap ((IntKind.i64.wrap ((256 : Int) * (IntKind.i64.wrap (((UInt8.toNat (List.getD x.1 (Int.toNat (IntKind.i64.wrap (x.2.1 + (1 : Int)))) 0) : Nat) : Int))))) + (IntKind.i64.wrap (((UInt8.toNat (List.getD x.1 (Int.toNat (IntKind.i64.wrap (x.2.1 + (2 : Int)))) 0) : Nat) : Int))))), ((IntKind.i64.wrap (x.2.1 + (3 : Int))), ((0 : Int), ()))))))))))))))))))))
def f138 (k : Nat) (x : f138_x) : Option f138_r := f138_m k x
def f138_lv : Nat → Lp := lps []
def f138_G : Env := findL []
theorem f138_e (k : Nat) (x : f138_x) : fnK types f138_G f138_lv k Try.f138 [.str, (.int .i64)] [(.int .i64), (.int .i64), (.int .i64)] x =
    f138_m k x := by kernel_rfl
theorem f138_eq (k : Nat) (x : f138_x) : fnK types f138_G f138_lv k Try.f138 [.str, (.int .i64)] [(.int .i64), (.int .i64), (.int .i64)] x = f138 k x :=
  f138_e k x
theorem f138_c : Contract Try.prog 138 ⟨[.str, (.int .i64)], [(.int .i64), (.int .i64), (.int .i64)], f138, .no⟩ :=
  fn_contract types_all env_nil mixes (by kernel_rfl) (by kernel_rfl) (by kernel_rfl) (by kernel_rfl) f138_eq

/-! groat/groatref10.has -/
abbrev f139_r := Bool × Unit
abbrev f139_x := List (Int × List UInt8) × Int × Int × Unit
abbrev f139_t2 := List (Int × List UInt8) × Int × Int × Int
def f139_s2 (p : f139_t2) : St := [(0, .tv (.f (.c (.v (.sl (.pair (.int .i64) .str)) p.1)))), (2, .tv (.f (.c (.v (.int .i64) p.2.1)))), (4, .tv (.f (.c (.v (.int .i64) p.2.2.1)))), (14, .tv (.f (.c (.v (.int .i64) p.2.2.2))))]
def f139_b2 (k : Nat) (R2 : f139_t2 → Option f139_r) (p : f139_t2) : Option f139_r :=
  (cond (decide (p.2.2.2 < p.2.1)) (chk (decide ((0 : Int) ≤ p.2.2.2)) (chk (decide (p.2.2.2 < ((((List.length p.1) : Nat) : Int)))) (cond ((List.getD p.1 (Int.toNat p.2.2.2) ((0 : Int), ([] : List UInt8))).1 == p.2.2.1) (some (true, ())) (R2 (p.1, (p.2.1, (p.2.2.1, (IntKind.i64.wrap (p.2.2.2 + (1 : Int)))))))))) (some (false, ())))
def f139_l2 (k : Nat) : f139_t2 → Option f139_r := loopP (fun R2 p => f139_b2 k R2 p) k
def f139_m (k : Nat) (A2 : f139_t2 → Option f139_r) (x : f139_x) : Option f139_r :=
  (A2 (x.1, (x.2.1, (x.2.2.1, (0 : Int)))))
def f139 (k : Nat) (x : f139_x) : Option f139_r := f139_m k (f139_l2 k) x
def f139_lv : Nat → Lp := lps [(2, .keep [0, 1, 2, 7] [])]
def f139_G : Env := findL []
theorem f139_e2 (k : Nat) (kn : St → Option f139_r) (p : f139_t2) : stepAt types f139_G f139_lv k Try.f139.ntmps (kns []) 2 (Try.f139.body.getD .skip) (topK types Try.f139 [.bool]) (f139_s2 p) kn =
    f139_b2 k (fun p => kn (f139_s2 p)) p := by kernel_rfl
theorem f139_q2 (k : Nat) (n : Nat) (p : f139_t2) : loopAt types f139_G f139_lv k Try.f139.ntmps (kns []) 2 (Try.f139.body.getD .skip) (topK types Try.f139 [.bool]) n (f139_s2 p) = loopP (fun R2 p => f139_b2 k R2 p) n p :=
  loopAt_eq (fun kn p => f139_e2 k kn p) n p
theorem f139_e (k : Nat) (x : f139_x) : fnK types f139_G f139_lv k Try.f139 [(.sl (.pair (.int .i64) .str)), (.int .i64), (.int .i64)] [.bool] x =
    f139_m k (fun p => loopAt types f139_G f139_lv k Try.f139.ntmps (kns []) 2 (Try.f139.body.getD .skip) (topK types Try.f139 [.bool]) k (f139_s2 p)) x := by kernel_rfl
theorem f139_eq (k : Nat) (x : f139_x) : fnK types f139_G f139_lv k Try.f139 [(.sl (.pair (.int .i64) .str)), (.int .i64), (.int .i64)] [.bool] x = f139 k x :=
  (f139_e k x).trans (congrFun (congrArg (f139_m k) (funext fun p => f139_q2 k k p)) x)
theorem f139_c : Contract Try.prog 139 ⟨[(.sl (.pair (.int .i64) .str)), (.int .i64), (.int .i64)], [.bool], f139, .no⟩ :=
  fn_contract types_all env_nil mixes (by kernel_rfl) (by kernel_rfl) (by kernel_rfl) (by kernel_rfl) f139_eq

/-! groat/groatref10.Get -/
abbrev f107_r := List (Int × List UInt8) × Int × Int × Unit
abbrev f107_x := List UInt8 × Unit
abbrev f107_t3 := List UInt8 × Int × List (Int × List UInt8)
def f107_s3 (p : f107_t3) : St := [(0, .tv (.f (.c (.v .str p.1)))), (10, .tv (.f (.c (.own 1320)))), (12, .tv (.f (.c (.v (.int .i64) p.2.1)))), (2641, .row 183 (.pair (.int .i64) .str) p.2.2)]
def f107_b3 (k : Nat) (R3 : f107_t3 → Option f107_r) (p : f107_t3) : Option f107_r :=
  (cond (decide (p.2.1 < ((((List.length p.1) : Nat) : Int)))) ((f137 k (p.1, (p.2.1, ()))).bind fun r1 => (cond (r1.2.2.1 != (0 : Int)) (some (([] : List (Int × List UInt8)), (r1.2.2.1, (p.2.1, ())))) ((f138 k (p.1, (r1.2.1, ()))).bind fun r2 => (cond (r2.2.2.1 != (0 : Int)) (some (([] : List (Int × List UInt8)), (r2.2.2.1, (r1.2.1, ())))) (cond (decide ((IntKind.i64.wrap (((((List.length p.1) : Nat) : Int)) - r2.2.1)) < r2.1)) (some (([] : List (Int × List UInt8)), ((2 : Int), (((((List.length p.1) : Nat) : Int)), ())))) ((f139 k (p.2.2, (((((List.length p.2.2) : Nat) : Int)), (r1.1, ())))).bind fun r3 => (cond r3.1 (some (([] : List (Int × List UInt8)), ((10 : Int), (p.2.1, ())))) (chk (decide ((0 : Int) ≤ r2.2.1)) (chk (decide (r2.2.1 ≤ (IntKind.i64.wrap (r2.2.1 + r2.1)))) (chk (decide ((IntKind.i64.wrap (r2.2.1 + r2.1)) ≤ ((((List.length p.1) : Nat) : Int)))) (chk (decide ((((List.length p.2.2) + (List.length ([(r1.1, (List.drop (Int.toNat r2.2.1) (List.take (Int.toNat (IntKind.i64.wrap (r2.2.1 + r2.1))) p.1)))]))) * (24 : Nat)) ≤ (140737488355328 : Nat))) (chk (decide (((List.length p.2.2) + (List.length ([(r1.1, (List.drop (Int.toNat r2.2.1) (List.take (Int.toNat (IntKind.i64.wrap (r2.2.1 + r2.1))) p.1)))]))) ≤ (9223372036854775807 : Nat))) (R3 (p.1, ((IntKind.i64.wrap (r2.2.1 + r2.1)), (p.2.2 ++ ([(r1.1, (List.drop (Int.toNat r2.2.1) (List.take (Int.toNat (IntKind.i64.wrap (r2.2.1 + r2.1))) p.1)))]))))))))))))))))) (some (p.2.2, ((0 : Int), ((0 : Int), ())))))
def f107_l3 (k : Nat) : f107_t3 → Option f107_r := loopP (fun R3 p => f107_b3 k R3 p) k
def f107_m (k : Nat) (A3 : f107_t3 → Option f107_r) (x : f107_x) : Option f107_r :=
  (A3 (x.1, ((0 : Int), ([] : List (Int × List UInt8)))))
def f107 (k : Nat) (x : f107_x) : Option f107_r := f107_m k (f107_l3 k) x
def f107_lv : Nat → Lp := lps [(3, .keep [0, 5, 6] [])]
def f107_G : Env := findL [(137, ⟨[.str, (.int .i64)], [(.int .i64), (.int .i64), (.int .i64)], f137, .no⟩), (138, ⟨[.str, (.int .i64)], [(.int .i64), (.int .i64), (.int .i64)], f138, .no⟩), (139, ⟨[(.sl (.pair (.int .i64) .str)), (.int .i64), (.int .i64)], [.bool], f139, .no⟩)]
theorem f107_e3 (k : Nat) (kn : St → Option f107_r) (p : f107_t3) : stepAt types f107_G f107_lv k Try.f107.ntmps (kns []) 3 (Try.f107.body.getD .skip) (topK types Try.f107 [(.sl (.pair (.int .i64) .str)), (.int .i64), (.int .i64)]) (f107_s3 p) kn =
    f107_b3 k (fun p => kn (f107_s3 p)) p := by kernel_rfl
theorem f107_q3 (k : Nat) (n : Nat) (p : f107_t3) : loopAt types f107_G f107_lv k Try.f107.ntmps (kns []) 3 (Try.f107.body.getD .skip) (topK types Try.f107 [(.sl (.pair (.int .i64) .str)), (.int .i64), (.int .i64)]) n (f107_s3 p) = loopP (fun R3 p => f107_b3 k R3 p) n p :=
  loopAt_eq (fun kn p => f107_e3 k kn p) n p
theorem f107_e (k : Nat) (x : f107_x) : fnK types f107_G f107_lv k Try.f107 [.str] [(.sl (.pair (.int .i64) .str)), (.int .i64), (.int .i64)] x =
    f107_m k (fun p => loopAt types f107_G f107_lv k Try.f107.ntmps (kns []) 3 (Try.f107.body.getD .skip) (topK types Try.f107 [(.sl (.pair (.int .i64) .str)), (.int .i64), (.int .i64)]) k (f107_s3 p)) x := by kernel_rfl
theorem f107_eq (k : Nat) (x : f107_x) : fnK types f107_G f107_lv k Try.f107 [.str] [(.sl (.pair (.int .i64) .str)), (.int .i64), (.int .i64)] x = f107 k x :=
  (f107_e k x).trans (congrFun (congrArg (f107_m k) (funext fun p => f107_q3 k k p)) x)
theorem f107_c : Contract Try.prog 107 ⟨[.str], [(.sl (.pair (.int .i64) .str)), (.int .i64), (.int .i64)], f107, .no⟩ :=
  fn_contract types_all (env_cons f137_c (env_cons f138_c (env_cons f139_c env_nil))) mixes (by kernel_rfl) (by kernel_rfl) (by kernel_rfl) (by kernel_rfl) f107_eq

/-! groat/groatref11.Value -/
abbrev f61_r := Int × Unit
abbrev f61_x := (Int × Int × Int × Int × Int) × List UInt8 × Unit
def f61_m (k : Nat) (x : f61_x) : Option f61_r :=
  ((f105 k (x.1, ())).bind fun r1 => (cond (r1.1 != (0 : Int)) (some ((1 : Int), ())) (cond (decide (((((List.length x.2.1) : Nat) : Int)) < x.1.2.2.2.1)) (some ((5 : Int), ())) (cond (decide (((((List.length x.2.1) : Nat) : Int)) > x.1.2.2.2.2)) (some ((5 : Int), ())) ((f106 k (x.1.2.1, (x.2.1, ()))).bind fun r2 => (cond (decide (r2.1 ≥ (0 : Int))) (some ((6 : Int), ())) (cond (x.1.2.1 == (6 : Int)) ((f107 k (x.2.1, ())).bind fun r3 => (cond (r3.2.1 != (0 : Int)) (some ((13 : Int), ())) (some ((0 : Int), ())))) (some ((0 : Int), ())))))))))
def f61 (k : Nat) (x : f61_x) : Option f61_r := f61_m k x
def f61_lv : Nat → Lp := lps []
def f61_G : Env := findL [(105, ⟨[y66], [(.int .i64)], f105, .no⟩), (106, ⟨[(.int .i64), .str], [(.int .i64)], f106, .no⟩), (107, ⟨[.str], [(.sl (.pair (.int .i64) .str)), (.int .i64), (.int .i64)], f107, .no⟩)]
theorem f61_e (k : Nat) (x : f61_x) : fnK types f61_G f61_lv k Try.f61 [y66, .str] [(.int .i64)] x =
    f61_m k x := by kernel_rfl
theorem f61_eq (k : Nat) (x : f61_x) : fnK types f61_G f61_lv k Try.f61 [y66, .str] [(.int .i64)] x = f61 k x :=
  f61_e k x
theorem f61_c : Contract Try.prog 61 ⟨[y66, .str], [(.int .i64)], f61, .no⟩ :=
  fn_contract types_all (env_cons f105_c (env_cons f106_c (env_cons f107_c env_nil))) mixes (by kernel_rfl) (by kernel_rfl) (by kernel_rfl) (by kernel_rfl) f61_eq

/-! groat/groatref23.Check -/
abbrev f58_r := Int × Int × Int × Unit
abbrev f58_x := ((Int × Int × List (Int × Int × Int × Int × Int)) × (List (List UInt8 × List UInt8) × List (Int × Int × Int × List UInt8 × List (List UInt8 × List UInt8))) × List Int × List (Int × List UInt8)) × Unit
abbrev f58_t16 := Int × Int × Int × Int × List (Int × Int × Int × Int × Int) × List (List UInt8 × List UInt8) × List (Int × Int × Int × List UInt8 × List (List UInt8 × List UInt8)) × List Int × List (Int × List UInt8)
abbrev f58_t7 := Int × Int × Int × Int × List (Int × Int × Int × Int × Int) × List (List UInt8 × List UInt8) × List (Int × Int × Int × List UInt8 × List (List UInt8 × List UInt8)) × List Int × List (Int × List UInt8)
def f58_s16 (p : f58_t16) : St := [(2, .tv (.f (.c (.ptr 1064 0)))), (10, .tv (.f (.c (.v (.int .i64) p.1)))), (14, .tv (.f (.c (.v (.int .i64) p.2.1)))), (2129, .box [.v (.int .i64) p.2.2.1, .v (.int .i64) p.2.2.2.1, .v (.sl y66) p.2.2.2.2.1, .v (.sl (.pair .str .str)) p.2.2.2.2.2.1, .v (.sl y207) p.2.2.2.2.2.2.1, .v (.sl (.int .i64)) p.2.2.2.2.2.2.2.1, .v (.sl (.pair (.int .i64) .str)) p.2.2.2.2.2.2.2.2])]
def f58_b16 (k : Nat) (R16 : f58_t16 → Option f58_r) (p : f58_t16) : Option f58_r :=
  (cond (decide (p.2.1 < ((((List.length p.2.2.2.2.2.2.2.2) : Nat) : Int)))) (chk (decide ((0 : Int) ≤ p.2.1)) (chk (decide (p.2.1 < ((((List.length p.2.2.2.2.2.2.2.2) : Nat) : Int)))) (cond (decide ((List.getD p.2.2.2.2.2.2.2.2 (Int.toNat p.2.1) ((0 : Int), ([] : List UInt8))).1 < (0 : Int))) (some ((1 : Int), ((3 : Int), (p.2.1, ())))) (chk (decide ((0 : Int) ≤ p.2.1)) (chk (decide (p.2.1 < ((((List.length p.2.2.2.2.2.2.2.2) : Nat) : Int)))) (cond (decide ((List.getD p.2.2.2.2.2.2.2.2 (Int.toNat p.2.1) ((0 : Int), ([] : List UInt8))).1 > (16 : Int))) (some ((1 : Int), ((3 : Int), (p.2.1, ())))) (chk (decide ((0 : Int) ≤ p.2.1)) (chk (decide (p.2.1 < ((((List.length p.2.2.2.2.2.2.2.2) : Nat) : Int)))) ((f103 k (p.2.2.2.2.2.2.2.2, (p.2.1, ((List.getD p.2.2.2.2.2.2.2.2 (Int.toNat p.2.1) ((0 : Int), ([] : List UInt8))).1, ())))).bind fun r5 => (cond (decide (r5.1 ≥ (0 : Int))) (some ((10 : Int), ((3 : Int), (p.2.1, ())))) (chk (decide ((0 : Int) ≤ p.1)) (chk (decide (p.1 < ((((List.length p.2.2.2.2.1) : Nat) : Int)))) (chk (decide ((0 : Int) ≤ p.2.1)) (chk (decide (p.2.1 < ((((List.length p.2.2.2.2.2.2.2.2) : Nat) : Int)))) ((f61 k ((List.getD p.2.2.2.2.1 (Int.toNat p.1) ((0 : Int), ((0 : Int), ((0 : Int), ((0 : Int), (0 : Int)))))), ((List.getD p.2.2.2.2.2.2.2.2 (Int.toNat p.2.1) ((0 : Int), ([] : List UInt8))).2, ()))).bind fun r6 => (cond (r6.1 != (0 : Int)) (some (r6.1, ((3 : Int), (p.2.1, ())))) (R16 (p.1, ((IntKind.i64.wrap (p.2.1 + (1 : Int))), p.2.2))))))))))))))))))) ((f103 k (p.2.2.2.2.2.2.2.2, (((((List.length p.2.2.2.2.2.2.2.2) : Nat) : Int)), ((0 : Int), ())))).bind fun r7 => (cond (decide (r7.1 < (0 : Int))) (some ((15 : Int), ((3 : Int), (((((List.length p.2.2.2.2.2.2.2.2) : Nat) : Int)), ())))) (some ((0 : Int), ((0 : Int), ((0 : Int), ())))))))
def f58_l16 (k : Nat) : f58_t16 → Option f58_r := loopP (fun R16 p => f58_b16 k R16 p) k
def f58_s7 (p : f58_t7) : St := [(2, .tv (.f (.c (.ptr 1064 0)))), (10, .tv (.f (.c (.v (.int .i64) p.1)))), (12, .tv (.f (.c (.v (.int .i64) p.2.1)))), (2129, .box [.v (.int .i64) p.2.2.1, .v (.int .i64) p.2.2.2.1, .v (.sl y66) p.2.2.2.2.1, .v (.sl (.pair .str .str)) p.2.2.2.2.2.1, .v (.sl y207) p.2.2.2.2.2.2.1, .v (.sl (.int .i64)) p.2.2.2.2.2.2.2.1, .v (.sl (.pair (.int .i64) .str)) p.2.2.2.2.2.2.2.2])]
def f58_b7 (k : Nat) (A16 : f58_t16 → Option f58_r) (R7 : f58_t7 → Option f58_r) (p : f58_t7) : Option f58_r :=
  (cond (decide (p.2.1 < ((((List.length p.2.2.2.2.2.2.2.1) : Nat) : Int)))) (chk (decide ((0 : Int) ≤ p.2.1)) (chk (decide (p.2.1 < ((((List.length p.2.2.2.2.2.2.2.1) : Nat) : Int)))) ((f60 k ((p.2.2.1, (p.2.2.2.1, p.2.2.2.2.1)), ((List.getD p.2.2.2.2.2.2.2.1 (Int.toNat p.2.1) (0 : Int)), ()))).bind fun r3 => (cond (decide (r3.1 < (0 : Int))) (some ((9 : Int), ((2 : Int), (p.2.1, ())))) (chk (decide ((0 : Int) ≤ p.2.1)) (chk (decide (p.2.1 < ((((List.length p.2.2.2.2.2.2.2.1) : Nat) : Int)))) (cond ((List.getD p.2.2.2.2.2.2.2.1 (Int.toNat p.2.1) (0 : Int)) == (39 : Int)) (some ((1 : Int), ((2 : Int), (p.2.1, ())))) (chk (decide ((0 : Int) ≤ p.2.1)) (chk (decide (p.2.1 ≤ ((((List.length p.2.2.2.2.2.2.2.1) : Nat) : Int)))) (chk (decide ((0 : Int) ≤ p.2.1)) (chk (decide (p.2.1 < ((((List.length p.2.2.2.2.2.2.2.1) : Nat) : Int)))) ((f28 k ((List.drop (0 : Nat) (List.take (Int.toNat p.2.1) p.2.2.2.2.2.2.2.1)), ((List.getD p.2.2.2.2.2.2.2.1 (Int.toNat p.2.1) (0 : Int)), ()))).bind fun r4 => (cond r4.1 (some ((10 : Int), ((2 : Int), (p.2.1, ())))) (R7 (p.1, ((IntKind.i64.wrap (p.2.1 + (1 : Int))), p.2.2)))))))))))))))) (A16 (p.1, ((0 : Int), p.2.2))))
def f58_l7 (k : Nat) : f58_t7 → Option f58_r := loopP (fun R7 p => f58_b7 k (f58_l16 k) R7 p) k
def f58_m (k : Nat) (A7 : f58_t7 → Option f58_r) (x : f58_x) : Option f58_r :=
  ((f59 k (x.1.1, ())).bind fun r1 => (cond (!r1.1) (some ((1 : Int), ((1 : Int), ((0 : Int), ())))) ((f60 k (x.1.1, ((39 : Int), ()))).bind fun r2 => (cond (decide (r2.1 < (0 : Int))) (some ((9 : Int), ((1 : Int), ((1 : Int), ())))) (A7 (r2.1, ((0 : Int), (x.1.1.1, (x.1.1.2.1, (x.1.1.2.2, (x.1.2.1.1, (x.1.2.1.2, x.1.2.2))))))))))))
def f58 (k : Nat) (x : f58_x) : Option f58_r := f58_m k (f58_l7 k) x
def f58_lv : Nat → Lp := lps [(16, .keep [1, 5, 7] []), (7, .keep [1, 5, 6] [])]
def f58_G : Env := findL [(28, ⟨[(.sl (.int .i64)), (.int .i64)], [.bool], f28, .no⟩), (59, ⟨[(.pair (.int .i64) (.pair (.int .i64) (.sl y66)))], [.bool], f59, .no⟩), (60, ⟨[(.pair (.int .i64) (.pair (.int .i64) (.sl y66))), (.int .i64)], [(.int .i64)], f60, .no⟩), (61, ⟨[y66, .str], [(.int .i64)], f61, .no⟩), (103, ⟨[(.sl (.pair (.int .i64) .str)), (.int .i64), (.int .i64)], [(.int .i64)], f103, .no⟩)]
theorem f58_e16 (k : Nat) (kn : St → Option f58_r) (p : f58_t16) : stepAt types f58_G f58_lv k Try.f58.ntmps (kns []) 16 (Try.f58.body.getD .skip) (topK types Try.f58 [(.int .i64), (.int .i64), (.int .i64)]) (f58_s16 p) kn =
    f58_b16 k (fun p => kn (f58_s16 p)) p := by kernel_rfl
theorem f58_q16 (k : Nat) (n : Nat) (p : f58_t16) : loopAt types f58_G f58_lv k Try.f58.ntmps (kns []) 16 (Try.f58.body.getD .skip) (topK types Try.f58 [(.int .i64), (.int .i64), (.int .i64)]) n (f58_s16 p) = loopP (fun R16 p => f58_b16 k R16 p) n p :=
  loopAt_eq (fun kn p => f58_e16 k kn p) n p
theorem f58_e7 (k : Nat) (kn : St → Option f58_r) (p : f58_t7) : stepAt types f58_G f58_lv k Try.f58.ntmps (kns []) 7 (Try.f58.body.getD .skip) (topK types Try.f58 [(.int .i64), (.int .i64), (.int .i64)]) (f58_s7 p) kn =
    f58_b7 k (fun p => loopAt types f58_G f58_lv k Try.f58.ntmps (kns []) 16 (Try.f58.body.getD .skip) (topK types Try.f58 [(.int .i64), (.int .i64), (.int .i64)]) k (f58_s16 p)) (fun p => kn (f58_s7 p)) p := by kernel_rfl
theorem f58_q7 (k : Nat) (n : Nat) (p : f58_t7) : loopAt types f58_G f58_lv k Try.f58.ntmps (kns []) 7 (Try.f58.body.getD .skip) (topK types Try.f58 [(.int .i64), (.int .i64), (.int .i64)]) n (f58_s7 p) = loopP (fun R7 p => f58_b7 k (f58_l16 k) R7 p) n p :=
  loopAt_eq (fun kn p => (f58_e7 k kn p).trans (congrFun (congrFun (congrArg (f58_b7 k) (funext fun p => f58_q16 k k p)) _) _)) n p
theorem f58_e (k : Nat) (x : f58_x) : fnK types f58_G f58_lv k Try.f58 [(.pair (.pair (.int .i64) (.pair (.int .i64) (.sl y66))) (.pair (.pair (.sl (.pair .str .str)) (.sl y207)) (.pair (.sl (.int .i64)) (.sl (.pair (.int .i64) .str)))))] [(.int .i64), (.int .i64), (.int .i64)] x =
    f58_m k (fun p => loopAt types f58_G f58_lv k Try.f58.ntmps (kns []) 7 (Try.f58.body.getD .skip) (topK types Try.f58 [(.int .i64), (.int .i64), (.int .i64)]) k (f58_s7 p)) x := by kernel_rfl
theorem f58_eq (k : Nat) (x : f58_x) : fnK types f58_G f58_lv k Try.f58 [(.pair (.pair (.int .i64) (.pair (.int .i64) (.sl y66))) (.pair (.pair (.sl (.pair .str .str)) (.sl y207)) (.pair (.sl (.int .i64)) (.sl (.pair (.int .i64) .str)))))] [(.int .i64), (.int .i64), (.int .i64)] x = f58 k x :=
  (f58_e k x).trans (congrFun (congrArg (f58_m k) (funext fun p => f58_q7 k k p)) x)
theorem f58_c : Contract Try.prog 58 ⟨[(.pair (.pair (.int .i64) (.pair (.int .i64) (.sl y66))) (.pair (.pair (.sl (.pair .str .str)) (.sl y207)) (.pair (.sl (.int .i64)) (.sl (.pair (.int .i64) .str)))))], [(.int .i64), (.int .i64), (.int .i64)], f58, .no⟩ :=
  fn_contract types_all (env_cons f28_c (env_cons f59_c (env_cons f60_c (env_cons f61_c (env_cons f103_c env_nil))))) mixes (by kernel_rfl) (by kernel_rfl) (by kernel_rfl) (by kernel_rfl) f58_eq

/-! groat/groatref23.Right -/
abbrev f25_r := Bool × Unit
abbrev f25_x := ((Int × Int × List (Int × Int × Int × Int × Int)) × (List (List UInt8 × List UInt8) × List (Int × Int × Int × List UInt8 × List (List UInt8 × List UInt8))) × List Int × List (Int × List UInt8)) × Unit
def f25_m (k : Nat) (x : f25_x) : Option f25_r :=
  ((f58 k (x.1, ())).bind fun r1 => (some ((r1.1 == (0 : Int)), ())))
def f25 (k : Nat) (x : f25_x) : Option f25_r := f25_m k x
def f25_lv : Nat → Lp := lps []
def f25_G : Env := findL [(58, ⟨[(.pair (.pair (.int .i64) (.pair (.int .i64) (.sl y66))) (.pair (.pair (.sl (.pair .str .str)) (.sl y207)) (.pair (.sl (.int .i64)) (.sl (.pair (.int .i64) .str)))))], [(.int .i64), (.int .i64), (.int .i64)], f58, .no⟩)]
theorem f25_e (k : Nat) (x : f25_x) : fnK types f25_G f25_lv k Try.f25 [(.pair (.pair (.int .i64) (.pair (.int .i64) (.sl y66))) (.pair (.pair (.sl (.pair .str .str)) (.sl y207)) (.pair (.sl (.int .i64)) (.sl (.pair (.int .i64) .str)))))] [.bool] x =
    f25_m k x := by kernel_rfl
theorem f25_eq (k : Nat) (x : f25_x) : fnK types f25_G f25_lv k Try.f25 [(.pair (.pair (.int .i64) (.pair (.int .i64) (.sl y66))) (.pair (.pair (.sl (.pair .str .str)) (.sl y207)) (.pair (.sl (.int .i64)) (.sl (.pair (.int .i64) .str)))))] [.bool] x = f25 k x :=
  f25_e k x
theorem f25_c : Contract Try.prog 25 ⟨[(.pair (.pair (.int .i64) (.pair (.int .i64) (.sl y66))) (.pair (.pair (.sl (.pair .str .str)) (.sl y207)) (.pair (.sl (.int .i64)) (.sl (.pair (.int .i64) .str)))))], [.bool], f25, .no⟩ :=
  fn_contract types_all (env_cons f58_c env_nil) mixes (by kernel_rfl) (by kernel_rfl) (by kernel_rfl) (by kernel_rfl) f25_eq

/-! groat/groatlaw23.RejectEchoes -/
abbrev f4_r := Bool × Unit
abbrev f4_x := ((Int × Int × List (Int × Int × Int × Int × Int)) × (List (List UInt8 × List UInt8) × List (Int × Int × Int × List UInt8 × List (List UInt8 × List UInt8))) × List Int × List (Int × List UInt8)) × (List UInt8 × List (Int × List UInt8)) × (Int × Int) × Unit
abbrev f4_t5 := Int × Int × Int × List (Int × Int × Int × Int × Int) × List (List UInt8 × List UInt8) × List (Int × Int × Int × List UInt8 × List (List UInt8 × List UInt8)) × List Int × List (Int × List UInt8) × List UInt8 × List (Int × List UInt8) × Int × Int × List UInt8 × List (Int × List UInt8)
def f4_s5 (p : f4_t5) : St := [(6, .tv (.f (.c (.ptr 1192 0)))), (8, .tv (.f (.c (.ptr 1256 0)))), (10, .tv (.f (.c (.ptr 1320 0)))), (14, .tv (.f (.c (.ptr 1448 0)))), (18, .tv (.f (.c (.v (.int .i64) p.1)))), (2385, .box [.v (.int .i64) p.2.1, .v (.int .i64) p.2.2.1, .v (.sl y66) p.2.2.2.1, .v (.sl (.pair .str .str)) p.2.2.2.2.1, .v (.sl y207) p.2.2.2.2.2.1, .v (.sl (.int .i64)) p.2.2.2.2.2.2.1, .v (.sl (.pair (.int .i64) .str)) p.2.2.2.2.2.2.2.1]), (2513, .box [.v .str p.2.2.2.2.2.2.2.2.1, .v (.sl (.pair (.int .i64) .str)) p.2.2.2.2.2.2.2.2.2.1]), (2641, .box [.v (.int .i64) p.2.2.2.2.2.2.2.2.2.2.1, .v (.int .i64) p.2.2.2.2.2.2.2.2.2.2.2.1]), (2897, .box [.v .str p.2.2.2.2.2.2.2.2.2.2.2.2.1, .v (.sl (.pair (.int .i64) .str)) p.2.2.2.2.2.2.2.2.2.2.2.2.2])]
def f4_b5 (k : Nat) (R5 : f4_t5 → Option f4_r) (p : f4_t5) : Option f4_r :=
  (cond (decide (p.1 ≤ (128 : Int))) ((f26 k (p.2.2.2.2.2.2.2.2.2.2.2.2, (p.1, ()))).bind fun r11 => ((f26 k ((p.2.2.2.2.2.2.2.2.1, p.2.2.2.2.2.2.2.2.2.1), (p.1, ()))).bind fun r12 => (cond (p.1 == (39 : Int)) ((f27 k (((p.2.1, (p.2.2.1, p.2.2.2.1)), ((p.2.2.2.2.1, p.2.2.2.2.2.1), (p.2.2.2.2.2.2.1, p.2.2.2.2.2.2.2.1))), (p.2.2.2.2.2.2.2.2.2.2.1, ()))).bind fun r13 => (cond (!(r11.2.1 == true)) (some (false, ())) (cond r11.2.1 (cond (!(r11.1 == r13.1)) (some (false, ())) (R5 ((IntKind.i64.wrap (p.1 + (1 : Int))), p.2))) (R5 ((IntKind.i64.wrap (p.1 + (1 : Int))), p.2))))) (cond r12.2.1 ((f28 k (p.2.2.2.2.2.2.1, (p.1, ()))).bind fun r14 => (cond (!(r11.2.1 == r14.1)) (some (false, ())) (cond r11.2.1 (cond (!(r11.1 == r12.1)) (some (false, ())) (R5 ((IntKind.i64.wrap (p.1 + (1 : Int))), p.2))) (R5 ((IntKind.i64.wrap (p.1 + (1 : Int))), p.2))))) (cond (!(r11.2.1 == false)) (some (false, ())) (cond r11.2.1 (cond (!(r11.1 == r12.1)) (some (false, ())) (R5 ((IntKind.i64.wrap (p.1 + (1 : Int))), p.2))) (R5 ((IntKind.i64.wrap (p.1 + (1 : Int))), p.2)))))))) (some (true, ())))
def f4_l5 (k : Nat) : f4_t5 → Option f4_r := loopP (fun R5 p => f4_b5 k R5 p) k
def f4_m (k : Nat) (A5 : f4_t5 → Option f4_r) (x : f4_x) : Option f4_r :=
  ((f20 k (x.1, (x.2.1, (x.2.2.1, ())))).bind fun r1 => ((f17 k ()).bind fun r2 => (cond (!r2.1) ((f17 k ()).bind fun r3 => (some (r3.1, ()))) ((f18 k (x.1, ())).bind fun r4 => (cond r4.1 ((f17 k ()).bind fun r5 => (some (r5.1, ()))) ((f19 k (x.2.1, ())).bind fun r6 => (cond r6.1 ((f17 k ()).bind fun r7 => (some (r7.1, ()))) ((f25 k (x.1, ())).bind fun r8 => (cond (!r8.1) ((f17 k ()).bind fun r9 => (some (r9.1, ()))) (cond (!r1.2.1) ((f17 k ()).bind fun r10 => (some (r10.1, ()))) (A5 ((2 : Int), (x.1.1.1, (x.1.1.2.1, (x.1.1.2.2, (x.1.2.1.1, (x.1.2.1.2, (x.1.2.2.1, (x.1.2.2.2, (x.2.1.1, (x.2.1.2, (x.2.2.1.1, (x.2.2.1.2, r1.1)))))))))))))))))))))))
def f4 (k : Nat) (x : f4_x) : Option f4_r := f4_m k (f4_l5 k) x
def f4_lv : Nat → Lp := lps [(5, .keep [3, 4, 5, 7, 9] [])]
def f4_G : Env := findL [(17, ⟨[], [.bool], f17, .no⟩), (18, ⟨[(.pair (.pair (.int .i64) (.pair (.int .i64) (.sl y66))) (.pair (.pair (.sl (.pair .str .str)) (.sl y207)) (.pair (.sl (.int .i64)) (.sl (.pair (.int .i64) .str)))))], [.bool], f18, .no⟩), (19, ⟨[y34], [.bool], f19, .no⟩), (20, ⟨[(.pair (.pair (.int .i64) (.pair (.int .i64) (.sl y66))) (.pair (.pair (.sl (.pair .str .str)) (.sl y207)) (.pair (.sl (.int .i64)) (.sl (.pair (.int .i64) .str))))), y34, (.pair (.int .i64) (.int .i64))], [y34, .bool], f20, .no⟩), (25, ⟨[(.pair (.pair (.int .i64) (.pair (.int .i64) (.sl y66))) (.pair (.pair (.sl (.pair .str .str)) (.sl y207)) (.pair (.sl (.int .i64)) (.sl (.pair (.int .i64) .str)))))], [.bool], f25, .no⟩), (26, ⟨[y34, (.int .i64)], [.str, .bool], f26, .no⟩), (27, ⟨[(.pair (.pair (.int .i64) (.pair (.int .i64) (.sl y66))) (.pair (.pair (.sl (.pair .str .str)) (.sl y207)) (.pair (.sl (.int .i64)) (.sl (.pair (.int .i64) .str))))), (.int .i64)], [.str], f27, .no⟩), (28, ⟨[(.sl (.int .i64)), (.int .i64)], [.bool], f28, .no⟩)]
theorem f4_e5 (k : Nat) (kn : St → Option f4_r) (p : f4_t5) : stepAt types f4_G f4_lv k Try.f4.ntmps (kns []) 5 (Try.f4.body.getD .skip) (topK types Try.f4 [.bool]) (f4_s5 p) kn =
    f4_b5 k (fun p => kn (f4_s5 p)) p := by kernel_rfl
theorem f4_q5 (k : Nat) (n : Nat) (p : f4_t5) : loopAt types f4_G f4_lv k Try.f4.ntmps (kns []) 5 (Try.f4.body.getD .skip) (topK types Try.f4 [.bool]) n (f4_s5 p) = loopP (fun R5 p => f4_b5 k R5 p) n p :=
  loopAt_eq (fun kn p => f4_e5 k kn p) n p
theorem f4_e (k : Nat) (x : f4_x) : fnK types f4_G f4_lv k Try.f4 [(.pair (.pair (.int .i64) (.pair (.int .i64) (.sl y66))) (.pair (.pair (.sl (.pair .str .str)) (.sl y207)) (.pair (.sl (.int .i64)) (.sl (.pair (.int .i64) .str))))), y34, (.pair (.int .i64) (.int .i64))] [.bool] x =
    f4_m k (fun p => loopAt types f4_G f4_lv k Try.f4.ntmps (kns []) 5 (Try.f4.body.getD .skip) (topK types Try.f4 [.bool]) k (f4_s5 p)) x := by kernel_rfl
theorem f4_eq (k : Nat) (x : f4_x) : fnK types f4_G f4_lv k Try.f4 [(.pair (.pair (.int .i64) (.pair (.int .i64) (.sl y66))) (.pair (.pair (.sl (.pair .str .str)) (.sl y207)) (.pair (.sl (.int .i64)) (.sl (.pair (.int .i64) .str))))), y34, (.pair (.int .i64) (.int .i64))] [.bool] x = f4 k x :=
  (f4_e k x).trans (congrFun (congrArg (f4_m k) (funext fun p => f4_q5 k k p)) x)
theorem f4_c : Contract Try.prog 4 ⟨[(.pair (.pair (.int .i64) (.pair (.int .i64) (.sl y66))) (.pair (.pair (.sl (.pair .str .str)) (.sl y207)) (.pair (.sl (.int .i64)) (.sl (.pair (.int .i64) .str))))), y34, (.pair (.int .i64) (.int .i64))], [.bool], f4, .no⟩ :=
  fn_contract types_all (env_cons f17_c (env_cons f18_c (env_cons f19_c (env_cons f20_c (env_cons f25_c (env_cons f26_c (env_cons f27_c (env_cons f28_c env_nil)))))))) mixes (by kernel_rfl) (by kernel_rfl) (by kernel_rfl) (by kernel_rfl) f4_eq

/-! groat/groatref15.Right -/
abbrev f34_r := Bool × Unit
abbrev f34_x := List UInt8 × Unit
def f34_m (k : Nat) (x : f34_x) : Option f34_r :=
  (cond (((((List.length x.1) : Nat) : Int)) == (4 : Int)) ((f67 k (x.1, ())).bind fun r1 => (some (r1.1, ()))) (some (false, ())))
def f34 (k : Nat) (x : f34_x) : Option f34_r := f34_m k x
def f34_lv : Nat → Lp := lps []
def f34_G : Env := findL [(67, ⟨[.str], [.bool], f67, .no⟩)]
theorem f34_e (k : Nat) (x : f34_x) : fnK types f34_G f34_lv k Try.f34 [.str] [.bool] x =
    f34_m k x := by kernel_rfl
theorem f34_eq (k : Nat) (x : f34_x) : fnK types f34_G f34_lv k Try.f34 [.str] [.bool] x = f34 k x :=
  f34_e k x
theorem f34_c : Contract Try.prog 34 ⟨[.str], [.bool], f34, .no⟩ :=
  fn_contract types_all (env_cons f67_c env_nil) mixes (by kernel_rfl) (by kernel_rfl) (by kernel_rfl) (by kernel_rfl) f34_eq

/-! groat/groatref16.Check -/
abbrev f29_r := (Int × Int) × Unit
abbrev f29_x := (Int × Int × List (Int × Int × Int × Int × Int)) × (List UInt8 × List (Int × List UInt8)) × Unit
abbrev f29_t7 := Int × Int × Int × Int × List (Int × Int × Int × Int × Int) × List UInt8 × List (Int × List UInt8) × Int × Int
def f29_s7 (p : f29_t7) : St := [(4, .tv (.f (.c (.ptr 1128 0)))), (6, .tv (.f (.c (.ptr 1192 0)))), (8, .tv (.f (.c (.ptr 1256 0)))), (10, .tv (.f (.c (.v (.int .i64) p.1)))), (12, .tv (.f (.c (.v (.int .i64) p.2.1)))), (2257, .box [.v (.int .i64) p.2.2.1, .v (.int .i64) p.2.2.2.1, .v (.sl y66) p.2.2.2.2.1]), (2385, .box [.v .str p.2.2.2.2.2.1, .v (.sl (.pair (.int .i64) .str)) p.2.2.2.2.2.2.1]), (2513, .box [.v (.int .i64) p.2.2.2.2.2.2.2.1, .v (.int .i64) p.2.2.2.2.2.2.2.2])]
def f29_b7 (k : Nat) (R7 : f29_t7 → Option f29_r) (p : f29_t7) : Option f29_r :=
  (cond (decide (p.2.1 < ((((List.length p.2.2.2.2.2.2.1) : Nat) : Int)))) (chk (decide ((0 : Int) ≤ p.2.1)) (chk (decide (p.2.1 < ((((List.length p.2.2.2.2.2.2.1) : Nat) : Int)))) (cond (decide ((List.getD p.2.2.2.2.2.2.1 (Int.toNat p.2.1) ((0 : Int), ([] : List UInt8))).1 ≤ p.1)) (some (((11 : Int), (List.getD p.2.2.2.2.2.2.1 (Int.toNat p.2.1) ((0 : Int), ([] : List UInt8))).1), ())) ((f60 k ((p.2.2.1, (p.2.2.2.1, p.2.2.2.2.1)), ((List.getD p.2.2.2.2.2.2.1 (Int.toNat p.2.1) ((0 : Int), ([] : List UInt8))).1, ()))).bind fun r3 => (cond (decide (r3.1 < (0 : Int))) (some (((9 : Int), (List.getD p.2.2.2.2.2.2.1 (Int.toNat p.2.1) ((0 : Int), ([] : List UInt8))).1), ())) (chk (decide ((0 : Int) ≤ r3.1)) (chk (decide (r3.1 < ((((List.length p.2.2.2.2.1) : Nat) : Int)))) (chk (decide ((0 : Int) ≤ p.2.1)) (chk (decide (p.2.1 < ((((List.length p.2.2.2.2.2.2.1) : Nat) : Int)))) ((f61 k ((List.getD p.2.2.2.2.1 (Int.toNat r3.1) ((0 : Int), ((0 : Int), ((0 : Int), ((0 : Int), (0 : Int)))))), ((List.getD p.2.2.2.2.2.2.1 (Int.toNat p.2.1) ((0 : Int), ([] : List UInt8))).2, ()))).bind fun r4 => (cond (r4.1 != (0 : Int)) (some ((r4.1, (List.getD p.2.2.2.2.2.2.1 (Int.toNat p.2.1) ((0 : Int), ([] : List UInt8))).1), ())) (R7 ((List.getD p.2.2.2.2.2.2.1 (Int.toNat p.2.1) ((0 : Int), ([] : List UInt8))).1, ((IntKind.i64.wrap (p.2.1 + (1 : Int))), p.2.2)))))))))))))) (some (((0 : Int), (0 : Int)), ())))
def f29_l7 (k : Nat) : f29_t7 → Option f29_r := loopP (fun R7 p => f29_b7 k R7 p) k
def f29_m (k : Nat) (A7 : f29_t7 → Option f29_r) (x : f29_x) : Option f29_r :=
  ((f59 k (x.1, ())).bind fun r1 => (cond (!r1.1) (some (((1 : Int), (-1 : Int)), ())) ((f34 k (x.2.1.1, ())).bind fun r2 => (cond (!r2.1) (some (((7 : Int), (0 : Int)), ())) (chk (decide ((0 : Int) < ((((List.length x.2.1.1) : Nat) : Int)))) (cond ((IntKind.i64.wrap ((IntKind.i64.wrap (((UInt8.toNat (List.getD x.2.1.1 (0 : Nat) 0) : Nat) : Int))) - (48 : Int))) != x.1.2.1) (some (((7 : Int), (0 : Int)), ())) (A7 ((0 : Int), ((0 : Int), (x.1.1, (x.1.2.1, (x.1.2.2, (x.2.1.1, (x.2.1.2, ((0 : Int), (0 : Int))))))))))))))))
def f29 (k : Nat) (x : f29_x) : Option f29_r := f29_m k (f29_l7 k) x
def f29_lv : Nat → Lp := lps [(7, .keep [2, 3, 4, 5, 6] [])]
def f29_G : Env := findL [(34, ⟨[.str], [.bool], f34, .no⟩), (59, ⟨[(.pair (.int .i64) (.pair (.int .i64) (.sl y66)))], [.bool], f59, .no⟩), (60, ⟨[(.pair (.int .i64) (.pair (.int .i64) (.sl y66))), (.int .i64)], [(.int .i64)], f60, .no⟩), (61, ⟨[y66, .str], [(.int .i64)], f61, .no⟩)]
theorem f29_e7 (k : Nat) (kn : St → Option f29_r) (p : f29_t7) : stepAt types f29_G f29_lv k Try.f29.ntmps (kns []) 7 (Try.f29.body.getD .skip) (topK types Try.f29 [(.pair (.int .i64) (.int .i64))]) (f29_s7 p) kn =
    f29_b7 k (fun p => kn (f29_s7 p)) p := by kernel_rfl
theorem f29_q7 (k : Nat) (n : Nat) (p : f29_t7) : loopAt types f29_G f29_lv k Try.f29.ntmps (kns []) 7 (Try.f29.body.getD .skip) (topK types Try.f29 [(.pair (.int .i64) (.int .i64))]) n (f29_s7 p) = loopP (fun R7 p => f29_b7 k R7 p) n p :=
  loopAt_eq (fun kn p => f29_e7 k kn p) n p
theorem f29_e (k : Nat) (x : f29_x) : fnK types f29_G f29_lv k Try.f29 [(.pair (.int .i64) (.pair (.int .i64) (.sl y66))), y34] [(.pair (.int .i64) (.int .i64))] x =
    f29_m k (fun p => loopAt types f29_G f29_lv k Try.f29.ntmps (kns []) 7 (Try.f29.body.getD .skip) (topK types Try.f29 [(.pair (.int .i64) (.int .i64))]) k (f29_s7 p)) x := by kernel_rfl
theorem f29_eq (k : Nat) (x : f29_x) : fnK types f29_G f29_lv k Try.f29 [(.pair (.int .i64) (.pair (.int .i64) (.sl y66))), y34] [(.pair (.int .i64) (.int .i64))] x = f29 k x :=
  (f29_e k x).trans (congrFun (congrArg (f29_m k) (funext fun p => f29_q7 k k p)) x)
theorem f29_c : Contract Try.prog 29 ⟨[(.pair (.int .i64) (.pair (.int .i64) (.sl y66))), y34], [(.pair (.int .i64) (.int .i64))], f29, .no⟩ :=
  fn_contract types_all (env_cons f34_c (env_cons f59_c (env_cons f60_c (env_cons f61_c env_nil)))) mixes (by kernel_rfl) (by kernel_rfl) (by kernel_rfl) (by kernel_rfl) f29_eq

/-! groat/mti.Version -/
abbrev f64_r := Int × Bool × Unit
abbrev f64_x := List UInt8 × Unit
def f64_m (k : Nat) (x : f64_x) : Option f64_r :=
  ((f62 k (x.1, ())).bind fun r1 => (cond (!r1.1) (some ((0 : Int), (false, ()))) (chk (decide ((0 : Int) < ((((List.length x.1) : Nat) : Int)))) (some ((IntKind.i64.wrap (IntKind.u8.wrap ((((UInt8.toNat (List.getD x.1 (0 : Nat) 0) : Nat) : Int)) - (48 : Int)))), (true, ()))))))
def f64 (k : Nat) (x : f64_x) : Option f64_r := f64_m k x
def f64_lv : Nat → Lp := lps []
def f64_G : Env := findL [(62, ⟨[.str], [.bool], f62, .no⟩)]
theorem f64_e (k : Nat) (x : f64_x) : fnK types f64_G f64_lv k Try.f64 [.str] [(.int .i64), .bool] x =
    f64_m k x := by kernel_rfl
theorem f64_eq (k : Nat) (x : f64_x) : fnK types f64_G f64_lv k Try.f64 [.str] [(.int .i64), .bool] x = f64 k x :=
  f64_e k x
theorem f64_c : Contract Try.prog 64 ⟨[.str], [(.int .i64), .bool], f64, .no⟩ :=
  fn_contract types_all (env_cons f62_c env_nil) mixes (by kernel_rfl) (by kernel_rfl) (by kernel_rfl) (by kernel_rfl) f64_eq

/-! groat/msg.Check -/
abbrev f31_r := (Int × Int) × Unit
abbrev f31_x := (Int × Int × List (Int × Int × Int × Int × Int)) × (List UInt8 × List (Int × List UInt8)) × Unit
abbrev f31_t9 := Int × List (Int × List UInt8) × Int × Int × Int × Int × List (Int × Int × Int × Int × Int) × Int × Int
def f31_s9 (p : f31_t9) : St := [(4, .tv (.f (.c (.ptr 1128 0)))), (8, .tv (.f (.c (.ptr 1256 0)))), (18, .tv (.f (.c (.v (.int .i64) p.1)))), (78, .tv (.f (.c (.v (.sl (.pair (.int .i64) .str)) p.2.1)))), (80, .tv (.f (.c (.v (.int .i64) p.2.2.1)))), (82, .tv (.f (.c (.v (.int .i64) p.2.2.2.1)))), (2257, .box [.v (.int .i64) p.2.2.2.2.1, .v (.int .i64) p.2.2.2.2.2.1, .v (.sl y66) p.2.2.2.2.2.2.1]), (2513, .box [.v (.int .i64) p.2.2.2.2.2.2.2.1, .v (.int .i64) p.2.2.2.2.2.2.2.2])]
def f31_b9 (k : Nat) (R9 : f31_t9 → Option f31_r) (p : f31_t9) : Option f31_r :=
  (cond (decide (p.2.2.2.1 < p.2.2.1)) (chk (decide ((0 : Int) ≤ p.2.2.2.1)) (chk (decide (p.2.2.2.1 < ((((List.length p.2.1) : Nat) : Int)))) (cond (decide ((List.getD p.2.1 (Int.toNat p.2.2.2.1) ((0 : Int), ([] : List UInt8))).1 ≤ p.1)) (some (((11 : Int), (List.getD p.2.1 (Int.toNat p.2.2.2.1) ((0 : Int), ([] : List UInt8))).1), ())) ((f40 k ((p.2.2.2.2.1, (p.2.2.2.2.2.1, p.2.2.2.2.2.2.1)), ((List.getD p.2.1 (Int.toNat p.2.2.2.1) ((0 : Int), ([] : List UInt8))).1, ()))).bind fun r3 => (cond (!r3.2.1) (some (((9 : Int), (List.getD p.2.1 (Int.toNat p.2.2.2.1) ((0 : Int), ([] : List UInt8))).1), ())) ((f65 k (r3.1, ((List.getD p.2.1 (Int.toNat p.2.2.2.1) ((0 : Int), ([] : List UInt8))).2, ()))).bind fun r4 => (cond (r4.1 != (0 : Int)) (some ((r4.1, (List.getD p.2.1 (Int.toNat p.2.2.2.1) ((0 : Int), ([] : List UInt8))).1), ())) (R9 ((List.getD p.2.1 (Int.toNat p.2.2.2.1) ((0 : Int), ([] : List UInt8))).1, (p.2.1, (p.2.2.1, ((IntKind.i64.wrap (p.2.2.2.1 + (1 : Int))), p.2.2.2.2)))))))))))) (some (((0 : Int), (0 : Int)), ())))
def f31_l9 (k : Nat) : f31_t9 → Option f31_r := loopP (fun R9 p => f31_b9 k R9 p) k
def f31_m (k : Nat) (A9 : f31_t9 → Option f31_r) (x : f31_x) : Option f31_r :=
  ((f63 k (x.1, ())).bind fun r1 => (cond (r1.1 != (0 : Int)) (some (((1 : Int), (-1 : Int)), ())) ((f64 k (x.2.1.1, ())).bind fun r2 => (cond (!r2.2.1) (some (((7 : Int), (0 : Int)), ())) (cond (r2.1 != x.1.2.1) (some (((7 : Int), (0 : Int)), ())) (A9 ((0 : Int), (x.2.1.2, (((((List.length x.2.1.2) : Nat) : Int)), ((0 : Int), (x.1.1, (x.1.2.1, (x.1.2.2, ((0 : Int), (0 : Int)))))))))))))))
def f31 (k : Nat) (x : f31_x) : Option f31_r := f31_m k (f31_l9 k) x
def f31_lv : Nat → Lp := lps [(9, .keep [2, 4, 9, 39, 40, 41] [])]
def f31_G : Env := findL [(40, ⟨[(.pair (.int .i64) (.pair (.int .i64) (.sl y66))), (.int .i64)], [y66, .bool], f40, .no⟩), (63, ⟨[(.pair (.int .i64) (.pair (.int .i64) (.sl y66)))], [(.int .i64), (.int .i64)], f63, .no⟩), (64, ⟨[.str], [(.int .i64), .bool], f64, .no⟩), (65, ⟨[y66, .str], [(.int .i64)], f65, .no⟩)]
theorem f31_e9 (k : Nat) (kn : St → Option f31_r) (p : f31_t9) : stepAt types f31_G f31_lv k Try.f31.ntmps (kns []) 9 (Try.f31.body.getD .skip) (topK types Try.f31 [(.pair (.int .i64) (.int .i64))]) (f31_s9 p) kn =
    f31_b9 k (fun p => kn (f31_s9 p)) p := by kernel_rfl
theorem f31_q9 (k : Nat) (n : Nat) (p : f31_t9) : loopAt types f31_G f31_lv k Try.f31.ntmps (kns []) 9 (Try.f31.body.getD .skip) (topK types Try.f31 [(.pair (.int .i64) (.int .i64))]) n (f31_s9 p) = loopP (fun R9 p => f31_b9 k R9 p) n p :=
  loopAt_eq (fun kn p => f31_e9 k kn p) n p
theorem f31_e (k : Nat) (x : f31_x) : fnK types f31_G f31_lv k Try.f31 [(.pair (.int .i64) (.pair (.int .i64) (.sl y66))), y34] [(.pair (.int .i64) (.int .i64))] x =
    f31_m k (fun p => loopAt types f31_G f31_lv k Try.f31.ntmps (kns []) 9 (Try.f31.body.getD .skip) (topK types Try.f31 [(.pair (.int .i64) (.int .i64))]) k (f31_s9 p)) x := by kernel_rfl
theorem f31_eq (k : Nat) (x : f31_x) : fnK types f31_G f31_lv k Try.f31 [(.pair (.int .i64) (.pair (.int .i64) (.sl y66))), y34] [(.pair (.int .i64) (.int .i64))] x = f31 k x :=
  (f31_e k x).trans (congrFun (congrArg (f31_m k) (funext fun p => f31_q9 k k p)) x)
theorem f31_c : Contract Try.prog 31 ⟨[(.pair (.int .i64) (.pair (.int .i64) (.sl y66))), y34], [(.pair (.int .i64) (.int .i64))], f31, .no⟩ :=
  fn_contract types_all (env_cons f40_c (env_cons f63_c (env_cons f64_c (env_cons f65_c env_nil)))) mixes (by kernel_rfl) (by kernel_rfl) (by kernel_rfl) (by kernel_rfl) f31_eq

/-! groat/groatlaw23.RejectValid -/
abbrev f5_r := Bool × Unit
abbrev f5_x := ((Int × Int × List (Int × Int × Int × Int × Int)) × (List (List UInt8 × List UInt8) × List (Int × Int × Int × List UInt8 × List (List UInt8 × List UInt8))) × List Int × List (Int × List UInt8)) × (List UInt8 × List (Int × List UInt8)) × (Int × Int) × Unit
def f5_m (k : Nat) (x : f5_x) : Option f5_r :=
  ((f17 k ()).bind fun r1 => (cond (!r1.1) ((f17 k ()).bind fun r2 => (some (r2.1, ()))) ((f18 k (x.1, ())).bind fun r3 => (cond r3.1 ((f17 k ()).bind fun r4 => (some (r4.1, ()))) ((f19 k (x.2.1, ())).bind fun r5 => (cond r5.1 ((f17 k ()).bind fun r6 => (some (r6.1, ()))) ((f25 k (x.1, ())).bind fun r7 => (cond (!r7.1) ((f17 k ()).bind fun r8 => (some (r8.1, ()))) ((f29 k (x.1.1, (x.2.1, ()))).bind fun r9 => (cond (!((r9.1.1 == (0 : Int)) && ((r9.1.2 == (0 : Int)) && true))) ((f17 k ()).bind fun r10 => (some (r10.1, ()))) ((f20 k (x.1, (x.2.1, (x.2.2.1, ())))).bind fun r11 => (cond (!r11.2.1) ((f30 k (x.2.1.1, ())).bind fun r12 => (cond (!r12.1) ((f24 k (r11.1, ((([] : List UInt8), ([] : List (Int × List UInt8))), ()))).bind fun r13 => (some (r13.1, ()))) (some (false, ())))) ((f31 k (x.1.1, (r11.1, ()))).bind fun r14 => (cond ((r14.1.1 == (0 : Int)) && ((r14.1.2 == (0 : Int)) && true)) ((f30 k (r11.1.1, ())).bind fun r15 => (some ((!r15.1), ()))) (some (false, ()))))))))))))))))
def f5 (k : Nat) (x : f5_x) : Option f5_r := f5_m k x
def f5_lv : Nat → Lp := lps []
def f5_G : Env := findL [(17, ⟨[], [.bool], f17, .no⟩), (18, ⟨[(.pair (.pair (.int .i64) (.pair (.int .i64) (.sl y66))) (.pair (.pair (.sl (.pair .str .str)) (.sl y207)) (.pair (.sl (.int .i64)) (.sl (.pair (.int .i64) .str)))))], [.bool], f18, .no⟩), (19, ⟨[y34], [.bool], f19, .no⟩), (20, ⟨[(.pair (.pair (.int .i64) (.pair (.int .i64) (.sl y66))) (.pair (.pair (.sl (.pair .str .str)) (.sl y207)) (.pair (.sl (.int .i64)) (.sl (.pair (.int .i64) .str))))), y34, (.pair (.int .i64) (.int .i64))], [y34, .bool], f20, .no⟩), (24, ⟨[y34, y34], [.bool], f24, .no⟩), (25, ⟨[(.pair (.pair (.int .i64) (.pair (.int .i64) (.sl y66))) (.pair (.pair (.sl (.pair .str .str)) (.sl y207)) (.pair (.sl (.int .i64)) (.sl (.pair (.int .i64) .str)))))], [.bool], f25, .no⟩), (29, ⟨[(.pair (.int .i64) (.pair (.int .i64) (.sl y66))), y34], [(.pair (.int .i64) (.int .i64))], f29, .no⟩), (30, ⟨[.str], [.bool], f30, .no⟩), (31, ⟨[(.pair (.int .i64) (.pair (.int .i64) (.sl y66))), y34], [(.pair (.int .i64) (.int .i64))], f31, .no⟩)]
theorem f5_e (k : Nat) (x : f5_x) : fnK types f5_G f5_lv k Try.f5 [(.pair (.pair (.int .i64) (.pair (.int .i64) (.sl y66))) (.pair (.pair (.sl (.pair .str .str)) (.sl y207)) (.pair (.sl (.int .i64)) (.sl (.pair (.int .i64) .str))))), y34, (.pair (.int .i64) (.int .i64))] [.bool] x =
    f5_m k x := by kernel_rfl
theorem f5_eq (k : Nat) (x : f5_x) : fnK types f5_G f5_lv k Try.f5 [(.pair (.pair (.int .i64) (.pair (.int .i64) (.sl y66))) (.pair (.pair (.sl (.pair .str .str)) (.sl y207)) (.pair (.sl (.int .i64)) (.sl (.pair (.int .i64) .str))))), y34, (.pair (.int .i64) (.int .i64))] [.bool] x = f5 k x :=
  f5_e k x
theorem f5_c : Contract Try.prog 5 ⟨[(.pair (.pair (.int .i64) (.pair (.int .i64) (.sl y66))) (.pair (.pair (.sl (.pair .str .str)) (.sl y207)) (.pair (.sl (.int .i64)) (.sl (.pair (.int .i64) .str))))), y34, (.pair (.int .i64) (.int .i64))], [.bool], f5, .no⟩ :=
  fn_contract types_all (env_cons f17_c (env_cons f18_c (env_cons f19_c (env_cons f20_c (env_cons f24_c (env_cons f25_c (env_cons f29_c (env_cons f30_c (env_cons f31_c env_nil))))))))) mixes (by kernel_rfl) (by kernel_rfl) (by kernel_rfl) (by kernel_rfl) f5_eq
end Go.Ab
