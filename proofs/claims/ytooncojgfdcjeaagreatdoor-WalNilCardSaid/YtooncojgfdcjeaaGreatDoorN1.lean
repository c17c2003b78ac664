/- Walks: a log that is no log. No condition. -/
import Derived.Test.YtooncojgfdcjeaaGreatDoorM1
import Derived.Test.YtooncojgfdcjeaaGreatDoorProg
namespace Go.Proofs
open Go Go.Sep
set_option maxRecDepth 100000 in
theorem walLoad_nil (C : Ctx) (n : Nat) (hn : Ok (n < 100)) :
    FnT Tryz.prog C 26 #[.pointer none, u6 n] [] (fun rv_ rL_ => rv_ = .tuple #[.slice none 0 0, z6 1] ∧ rL_ = []) := by
  replace hn := hn.h
  refine fE 21 Tryz.func26 rfl ?_
  refine cQ [] (True) [(0, .pointer none), (1, u6 n)] (trivial) ?_
  refine cd_rg ?_
  refine rQ [] [0, 1] [2, 3, 4, 5, 6, 7, 8] (True) [(9, .pointer none), (10, u6 n)] (trivial) ?_
  refine rC 2 [3, 4, 5, 6, 7, 8] [] [] (name_any C [108] n {} {}) ?_
  rintro _ _ ⟨rfl, rfl⟩
  refine rC 3 [4, 5, 6, 7, 8] [] [] (dread_nil C (nameF [108] n)) ?_
  rintro _ _ ⟨rfl, rfl⟩
  refine rQ [] [4, 5, 6, 7, 8] [] (True) [(6, str []), (7, z6 1)] (trivial) ?_
  refine rF ?_
  refine cd_seq ?_
  refine cQ [] (True) [(6, str []), (7, z6 1), (16, .bool true)] (trivial) ?_
  refine cYes ?_
  refine cQ [] (True) [(4, .slice none 0 0), (5, z6 1)] (trivial) ?_
  refine cd_ret (then_ret (bot_ret (rv [.slice none 0 0, z6 1] (.tuple #[.slice none 0 0, z6 1]) ?_)))
  refine ⟨?_, rfl⟩
  all_goals first | with_reducible rfl | (skip; done) | with_reducible assumption | omega | rfl | (simp_all; done) | (simp_all; omega)

set_option maxRecDepth 100000 in
theorem walAdd_nil (C : Ctx)  :
    FnT Tryz.prog C 19 #[.pointer none, .agg #[.int .u64 0, .slice none 0 0]] [] (fun rv_ rL_ => rv_ = z6 1 ∧ rL_ = []) := by
  refine fE 79 Tryz.func19 rfl ?_
  refine cd_rg ?_
  refine rQ [] [] [0, 1] (True) [(0, .pointer none), (1, .agg #[.int .u64 0, .slice none 0 0])] (trivial) ?_
  refine rN 0 [1] (.cells #[.int .u64 0, .slice none 0 0] 32 (0, 0)) p0 (fun b1 => ?_)
  refine rQ [] [1] [] (True) [(0, .pointer none), (3, p0 b1)] (trivial) ?_
  refine rF ?_
  refine cd_seq ?_
  refine cd_block ?_
  refine cQ [] (True) [(0, .pointer none), (3, p0 b1), (8, .bool true)] (trivial) ?_
  refine cYes ?_
  refine cQ [] (True) [(4, z6 1)] (trivial) ?_
  refine cT [] [] ?_
  refine cd_ret (block_ret (then_ret (bot_ret (rv [z6 1] (z6 1) ?_))))
  refine ⟨?_, rfl⟩
  all_goals first | with_reducible rfl | (skip; done) | with_reducible assumption | omega | rfl | (simp_all; done) | (simp_all; omega)

set_option maxRecDepth 100000 in
theorem walLen_nil (C : Ctx)  :
    FnT Tryz.prog C 28 #[.pointer none] [] (fun rv_ rL_ => rv_ = z6 0 ∧ rL_ = []) := by
  refine fE 9 Tryz.func28 rfl ?_
  refine cQ [] (True) [(0, .pointer none)] (trivial) ?_
  refine cd_seq ?_
  refine cQ [] (True) [(0, .pointer none), (4, .bool true)] (trivial) ?_
  refine cYes ?_
  refine cQ [] (True) [(2, z6 0)] (trivial) ?_
  refine cd_ret (then_ret (bot_ret (rv [z6 0] (z6 0) ?_)))
  refine ⟨?_, rfl⟩
  all_goals first | with_reducible rfl | (skip; done) | with_reducible assumption | omega | rfl | (simp_all; done) | (simp_all; omega)

set_option maxRecDepth 100000 in
theorem walBroken_nil (C : Ctx)  :
    FnT Tryz.prog C 20 #[.pointer none] [] (fun rv_ rL_ => rv_ = .bool false ∧ rL_ = []) := by
  refine fE 11 Tryz.func20 rfl ?_
  refine cQ [] (True) [(0, .pointer none)] (trivial) ?_
  refine cQ [] (True) [(2, .bool false)] (trivial) ?_
  refine cd_ret (bot_ret (rv [.bool false] (.bool false) ?_))
  refine ⟨?_, rfl⟩
  all_goals first | with_reducible rfl | (skip; done) | with_reducible assumption | omega | rfl | (simp_all; done) | (simp_all; omega)

set_option maxRecDepth 100000 in
theorem insertion64_nil (C : Ctx)  :
    FnT Tryz.prog C 169 #[.slice none 0 0, z6 0, z6 0] [] (fun rv_ rL_ => rv_ = .tuple #[] ∧ rL_ = []) := by
  refine fE 49 Tryz.func169 rfl ?_
  refine cQ [] ((inKind .i64 ((0 : Int) + (1 : Int)))) [(0, .slice none 0 0), (1, z6 0), (2, z6 0), (6, z6 1)] (inK_i64 (by omega)) ?_
  refine cd_block ?_
  refine lp (fun x : Nat => [(0, .slice none 0 0), (1, z6 0), (2, z6 0), (6, z6 1)]) (fun x : Nat => []) (fun x : Nat => True) (fun x : Nat => x) (0) (show True from trivial) ?_
  rintro u hI
  replace hI : True := hI
  refine cd_seq ?_
  refine cQ [] (True) [(0, .slice none 0 0), (1, z6 0), (2, z6 0), (6, z6 1), (12, .bool false)] (trivial) ?_
  refine cNo ?_
  refine cd_exit (then_exit (then_exit (block_hit (bot_n (rv [] (.tuple #[]) ?_)))))
  refine ⟨?_, rfl⟩
  all_goals first | with_reducible rfl | (skip; done) | with_reducible assumption | omega | rfl | (simp_all; done) | (simp_all; omega)

set_option maxRecDepth 100000 in
theorem pdq64_nil (C : Ctx) (v : Nat) :
    FnT Tryz.prog C 124 #[.slice none 0 0, z6 0, z6 0, n6 v] [] (fun rv_ rL_ => rv_ = .tuple #[] ∧ rL_ = []) := by
  refine fE 134 Tryz.func124 rfl ?_
  refine cQ [] (True) [(0, .slice none 0 0), (1, z6 0), (2, z6 0), (3, n6 v), (8, .bool true)] (trivial) ?_
  refine cQ [] (True) [(0, .slice none 0 0), (1, z6 0), (2, z6 0), (3, n6 v), (8, .bool true), (9, .bool true)] (trivial) ?_
  refine cd_block ?_
  refine lp (fun x : Nat => [(0, .slice none 0 0), (1, z6 0), (2, z6 0), (3, n6 v), (8, .bool true), (9, .bool true)]) (fun x : Nat => []) (fun x : Nat => True) (fun x : Nat => x) (0) (show True from trivial) ?_
  rintro u hI
  replace hI : True := hI
  refine cd_block ?_
  refine cQ [] ((inKind .i64 ((0 : Int) - (0 : Int)))) [(0, .slice none 0 0), (1, z6 0), (2, z6 0), (3, n6 v), (8, .bool true), (9, .bool true), (10, z6 0)] (inK_i64 (by omega)) ?_
  refine cd_seq ?_
  refine cQ [] (True) [(0, .slice none 0 0), (1, z6 0), (2, z6 0), (3, n6 v), (8, .bool true), (9, .bool true), (10, z6 0), (23, .bool true)] (trivial) ?_
  refine cYes ?_
  refine cd_rg ?_
  refine rQ [] [0, 1, 2] [3] (True) [(24, .slice none 0 0), (25, z6 0), (26, z6 0)] (trivial) ?_
  refine rC 3 [] [] [] (insertion64_nil C) ?_
  rintro _ _ ⟨rfl, rfl⟩
  refine rD [] ?_
  refine cd_ret (then_ret (block_ret (then_ret (block_ret (bot_ret (rv [] (.tuple #[]) ?_))))))
  refine ⟨?_, rfl⟩
  all_goals first | with_reducible rfl | (skip; done) | with_reducible assumption | omega | rfl | (simp_all; done) | (simp_all; omega)

set_option maxRecDepth 100000 in
theorem sort64_nil (C : Ctx)  :
    FnT Tryz.prog C 67 #[.slice none 0 0] [] (fun rv_ rL_ => rv_ = .tuple #[] ∧ rL_ = []) := by
  refine fE 11 Tryz.func67 rfl ?_
  refine cQ [] (True) [(0, .slice none 0 0), (2, z6 0)] (trivial) ?_
  refine cd_region ?_
  refine rQ [] [0, 1, 2, 3] [4, 5] ((inKind .u64 (0 : Int))) [(5, .slice none 0 0), (6, z6 0), (8, .int .u64 0)] (inK_u64 (by omega)) ?_
  refine rC 4 [5] [] [] (len_small C 0 {}) ?_
  rintro _ _ ⟨v1, rfl, rfl⟩
  refine rC 5 [] [] [] (pdq64_nil C v1) ?_
  rintro _ _ ⟨rfl, rfl⟩
  refine rg_nil ?_
  refine (bot_n (rv [] (.tuple #[]) ?_))
  refine ⟨?_, rfl⟩
  all_goals first | with_reducible rfl | (skip; done) | with_reducible assumption | omega | rfl | (simp_all; done) | (simp_all; omega)

set_option maxRecDepth 100000 in
theorem numbers_nil (C : Ctx)  :
    FnT Tryz.prog C 29 #[.pointer none] [] (fun rv_ rL_ => rv_ = .slice none 0 0 ∧ rL_ = []) := by
  refine fE 29 Tryz.func29 rfl ?_
  refine cQ [] (True) [(0, .pointer none)] (trivial) ?_
  refine cQ [] (True) [(0, .pointer none), (3, .slice none 0 0)] (trivial) ?_
  refine cd_seq ?_
  refine cd_rg ?_
  refine rQ [] [0] [1, 2, 3] (True) [(3, .slice none 0 0), (8, .pointer none)] (trivial) ?_
  refine rC 1 [2, 3] [] [] (list_nil C) ?_
  rintro _ _ ⟨rfl, rfl⟩
  refine rQ [] [2, 3] [] (True) [(3, .slice none 0 0), (9, .slice none 0 0), (10, z6 0), (11, z6 0)] (trivial) ?_
  refine rF ?_
  refine cd_block ?_
  refine lp (fun x : Nat => [(3, .slice none 0 0), (9, .slice none 0 0), (10, z6 0), (11, z6 0)]) (fun x : Nat => []) (fun x : Nat => True) (fun x : Nat => x) (0) (show True from trivial) ?_
  rintro u hI
  replace hI : True := hI
  refine cQ [] (True) [(3, .slice none 0 0), (9, .slice none 0 0), (10, z6 0), (11, z6 0), (12, .bool false)] (trivial) ?_
  refine cd_seq ?_
  refine cNo ?_
  refine cd_exit (then_exit (then_exit (block_hit (then_n ?_))))
  refine cd_rg ?_
  refine rQ [] [0] [1] (True) [(3, .slice none 0 0), (26, .slice none 0 0)] (trivial) ?_
  refine rC 1 [] [] [] (sort64_nil C) ?_
  rintro _ _ ⟨rfl, rfl⟩
  refine rD [(3, .slice none 0 0)] ?_
  refine cQ [] (True) [(2, .slice none 0 0)] (trivial) ?_
  refine cd_ret (bot_ret (rv [.slice none 0 0] (.slice none 0 0) ?_))
  refine ⟨?_, rfl⟩
  all_goals first | with_reducible rfl | (skip; done) | with_reducible assumption | omega | rfl | (simp_all; done) | (simp_all; omega)

set_option maxRecDepth 100000 in
theorem walNil_any (C : Ctx)  :
    FnT Tryz.prog C 5 #[] [] (fun rv_ rL_ => rv_ = .bool true ∧ rL_ = []) := by
  refine fE 49 Tryz.func5 rfl ?_
  refine cQ [] (True) [] (trivial) ?_
  refine cQ [] (True) [(1, .pointer none)] (trivial) ?_
  refine cd_rg ?_
  refine rQ [] [] [0, 1, 2, 3, 4, 5] (True) [(1, .pointer none)] (trivial) ?_
  refine rC 0 [1, 2, 3, 4, 5] [] [] (walCreate_nil C 1 {}) ?_
  rintro _ _ ⟨rfl, rfl⟩
  refine rQ [] [1, 2, 3, 4, 5] [] (True) [(1, .pointer none), (3, z6 1)] (trivial) ?_
  refine rF ?_
  refine cd_rg ?_
  refine rQ [] [] [0, 1, 2, 3, 4, 5] (True) [(1, .pointer none), (3, z6 1)] (trivial) ?_
  refine rC 0 [1, 2, 3, 4, 5] [] [] (walLoad_nil C 1 {}) ?_
  rintro _ _ ⟨rfl, rfl⟩
  refine rQ [] [1, 2, 3, 4, 5] [] (True) [(1, .pointer none), (3, z6 1), (5, z6 1)] (trivial) ?_
  refine rF ?_
  refine cd_rg ?_
  refine rQ [] [] [0, 1, 2, 3, 4, 5, 6, 7, 8, 9, 10, 11, 12, 13, 14, 15, 16, 17, 18, 19, 20, 21, 22, 23, 24, 25, 26, 27, 28, 29, 30, 31, 32, 33, 34, 35] (True) [(1, .pointer none), (3, z6 1), (5, z6 1)] (trivial) ?_
  refine rC 0 [1, 2, 3, 4, 5, 6, 7, 8, 9, 10, 11, 12, 13, 14, 15, 16, 17, 18, 19, 20, 21, 22, 23, 24, 25, 26, 27, 28, 29, 30, 31, 32, 33, 34, 35] [] [] (awake16_any C) ?_
  rintro _ _ ⟨rfl, rfl⟩
  refine rQ [] [1, 2, 3, 4, 5, 6, 7, 8, 9, 10, 11] [12, 13, 14, 15, 16, 17, 18, 19, 20, 21, 22, 23, 24, 25, 26, 27, 28, 29, 30, 31, 32, 33, 34, 35] (True) [(1, .pointer none), (23, .bool true), (24, .pointer none), (25, .agg #[.int .u64 0, .slice none 0 0])] (trivial) ?_
  refine rC 12 [13, 14, 15, 16, 17, 18, 19, 20, 21, 22, 23, 24, 25, 26, 27, 28, 29, 30, 31, 32, 33, 34, 35] [] [] (walAdd_nil C) ?_
  rintro _ _ ⟨rfl, rfl⟩
  refine rQ [] [13, 14, 15, 16] [17, 18, 19, 20, 21, 22, 23, 24, 25, 26, 27, 28, 29, 30, 31, 32, 33, 34, 35] (True) [(1, .pointer none), (29, .bool true), (30, .pointer none)] (trivial) ?_
  refine rC 17 [18, 19, 20, 21, 22, 23, 24, 25, 26, 27, 28, 29, 30, 31, 32, 33, 34, 35] [] [] (walName_nil C) ?_
  rintro _ _ ⟨rfl, rfl⟩
  refine rQ [] [18, 19, 20, 21] [22, 23, 24, 25, 26, 27, 28, 29, 30, 31, 32, 33, 34, 35] (True) [(1, .pointer none), (34, .bool true), (35, .pointer none)] (trivial) ?_
  refine rC 22 [23, 24, 25, 26, 27, 28, 29, 30, 31, 32, 33, 34, 35] [] [] (walLen_nil C) ?_
  rintro _ _ ⟨rfl, rfl⟩
  refine rQ [] [23, 24, 25, 26] [27, 28, 29, 30, 31, 32, 33, 34, 35] (True) [(39, .bool true), (40, .pointer none)] (trivial) ?_
  refine rC 27 [28, 29, 30, 31, 32, 33, 34, 35] [] [] (walBroken_nil C) ?_
  rintro _ _ ⟨rfl, rfl⟩
  refine rQ [] [28, 29, 30] [31, 32, 33, 34, 35] (True) [(44, .bool true)] (trivial) ?_
  refine rC 31 [32, 33, 34, 35] [] [] (numbers_nil C) ?_
  rintro _ _ ⟨rfl, rfl⟩
  refine rQ [] [32, 33, 34, 35] [] (True) [(0, .bool true)] (trivial) ?_
  refine rF ?_
  refine cd_ret (bot_ret (rv [.bool true] (.bool true) ?_))
  refine ⟨?_, rfl⟩
  all_goals first | with_reducible rfl | (skip; done) | with_reducible assumption | omega | rfl | (simp_all; done) | (simp_all; omega)
end Go.Proofs
