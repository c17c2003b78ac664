/- Walks: maps, the disk. No condition. -/
import Derived.Test.YtooncojgfdcjeaaGreatDoorDk
import Derived.Test.YtooncojgfdcjeaaGreatDoorG1
import Derived.Test.YtooncojgfdcjeaaGreatDoorProg
namespace Go.Proofs
open Go Go.Sep
set_option maxRecDepth 100000 in
theorem named1_ok (C : Ctx) (b : UInt8) (hb : Ok (okB b = true)) :
    FnT Tryz.prog C 154 #[j3 b.toNat] [] (fun rv_ rL_ => rv_ = .bool false ∧ rL_ = []) := by
  replace hb := hb.h
  refine fE 26 Tryz.func154 rfl ?_
  refine cQ [] (True) [(0, j3 b.toNat)] (trivial) ?_
  refine cd_rg ?_
  refine rQ [] [0, 1, 2] [3, 4, 5, 6, 7, 8, 9, 10, 11, 12, 13, 14, 15, 16, 17, 18, 19, 20, 21, 22, 23] (True) [(0, j3 b.toNat), (5, .bool (decide ((b.toNat : Int) ≥ 97)))] (trivial) ?_
  refine rg_join2 [6, 7, 8, 9, 10, 11, 12, 13, 14, 15, 16, 17, 18, 19, 20, 21, 22, 23] [(0, j3 b.toNat), (8, .bool ((decide ((b.toNat : Int) ≥ 97)) && (decide ((b.toNat : Int) ≤ 122))))] [] (fun hj => ?_) ?_
  · refine rI 5 (decide ((b.toNat : Int) ≥ 97)) (fun g1 => ?_) (fun g1 => ?_)
    · have g1p : (b.toNat : Int) ≥ 97 := by simpa using g1
      refine rQ [] [3, 4, 5] [6, 7, 8, 9, 10, 11, 12, 13, 14, 15, 16, 17, 18, 19, 20, 21, 22, 23] (True) [(0, j3 b.toNat), (8, .bool (decide ((b.toNat : Int) ≤ 122)))] (trivial) ?_
      refine rP 8 (.bool (decide ((b.toNat : Int) ≤ 122))) (.bool ((decide ((b.toNat : Int) ≥ 97)) && (decide ((b.toNat : Int) ≤ 122)))) (by first | (rw [show (decide ((b.toNat : Int) ≥ 97)) = true from g1]; done) | (rw [show (decide ((b.toNat : Int) ≥ 97)) = true from g1]; rfl)) ?_
      exact rM hj
    · have g1p : ¬ ((b.toNat : Int) ≥ 97) := by simpa using g1
      refine rQ [] [3, 4, 5] [6, 7, 8, 9, 10, 11, 12, 13, 14, 15, 16, 17, 18, 19, 20, 21, 22, 23] (True) [(0, j3 b.toNat), (8, .bool false)] (trivial) ?_
      refine rP 8 (.bool false) (.bool ((decide ((b.toNat : Int) ≥ 97)) && (decide ((b.toNat : Int) ≤ 122)))) (by first | (rw [show (decide ((b.toNat : Int) ≥ 97)) = false from g1]; done) | (rw [show (decide ((b.toNat : Int) ≥ 97)) = false from g1]; rfl)) ?_
      exact rM hj
  refine rQ [] [6] [7, 8, 9, 10, 11, 12, 13, 14, 15, 16, 17, 18, 19, 20, 21, 22, 23] (True) [(0, j3 b.toNat), (9, .bool ((decide ((b.toNat : Int) ≥ 97)) && (decide ((b.toNat : Int) ≤ 122))))] (trivial) ?_
  refine rg_join2 [14, 15, 16, 17, 18, 19, 20, 21, 22, 23] [(0, j3 b.toNat), (16, .bool (((decide ((b.toNat : Int) ≥ 97)) && (decide ((b.toNat : Int) ≤ 122))) || ((decide ((b.toNat : Int) ≥ 48)) && (decide ((b.toNat : Int) ≤ 57)))))] [] (fun hj => ?_) ?_
  · refine rI 9 ((decide ((b.toNat : Int) ≥ 97)) && (decide ((b.toNat : Int) ≤ 122))) (fun g2 => ?_) (fun g2 => ?_)
    · have g2p : ((b.toNat : Int) ≥ 97) ∧ ((b.toNat : Int) ≤ 122) := by simpa using g2
      refine rQ [] [7, 8, 9, 10, 11, 12, 13] [14, 15, 16, 17, 18, 19, 20, 21, 22, 23] (True) [(0, j3 b.toNat), (16, .bool true)] (trivial) ?_
      refine rP 16 (.bool true) (.bool (((decide ((b.toNat : Int) ≥ 97)) && (decide ((b.toNat : Int) ≤ 122))) || ((decide ((b.toNat : Int) ≥ 48)) && (decide ((b.toNat : Int) ≤ 57))))) (by first | (rw [show ((decide ((b.toNat : Int) ≥ 97)) && (decide ((b.toNat : Int) ≤ 122))) = true from g2]; done) | (rw [show ((decide ((b.toNat : Int) ≥ 97)) && (decide ((b.toNat : Int) ≤ 122))) = true from g2]; rfl)) ?_
      exact rM hj
    · have g2p : ¬ (((b.toNat : Int) ≥ 97) ∧ ((b.toNat : Int) ≤ 122)) := by simpa using g2
      refine rQ [] [7, 8, 9] [10, 11, 12, 13, 14, 15, 16, 17, 18, 19, 20, 21, 22, 23] (True) [(0, j3 b.toNat), (9, .bool false), (12, .bool (decide ((b.toNat : Int) ≥ 48)))] (trivial) ?_
      refine rg_join2 [13, 14, 15, 16, 17, 18, 19, 20, 21, 22, 23] [(0, j3 b.toNat), (9, .bool false), (15, .bool ((decide ((b.toNat : Int) ≥ 48)) && (decide ((b.toNat : Int) ≤ 57))))] [] (fun hj => ?_) ?_
      · refine rI 12 (decide ((b.toNat : Int) ≥ 48)) (fun g3 => ?_) (fun g3 => ?_)
        · have g3p : (b.toNat : Int) ≥ 48 := by simpa using g3
          refine rQ [] [10, 11, 12] [13, 14, 15, 16, 17, 18, 19, 20, 21, 22, 23] (True) [(0, j3 b.toNat), (9, .bool false), (15, .bool (decide ((b.toNat : Int) ≤ 57)))] (trivial) ?_
          refine rP 15 (.bool (decide ((b.toNat : Int) ≤ 57))) (.bool ((decide ((b.toNat : Int) ≥ 48)) && (decide ((b.toNat : Int) ≤ 57)))) (by first | (rw [show (decide ((b.toNat : Int) ≥ 48)) = true from g3]; done) | (rw [show (decide ((b.toNat : Int) ≥ 48)) = true from g3]; rfl)) ?_
          exact rM hj
        · have g3p : ¬ ((b.toNat : Int) ≥ 48) := by simpa using g3
          refine rQ [] [10, 11, 12] [13, 14, 15, 16, 17, 18, 19, 20, 21, 22, 23] (True) [(0, j3 b.toNat), (9, .bool false), (15, .bool false)] (trivial) ?_
          refine rP 15 (.bool false) (.bool ((decide ((b.toNat : Int) ≥ 48)) && (decide ((b.toNat : Int) ≤ 57)))) (by first | (rw [show (decide ((b.toNat : Int) ≥ 48)) = false from g3]; done) | (rw [show (decide ((b.toNat : Int) ≥ 48)) = false from g3]; rfl)) ?_
          exact rM hj
      refine rQ [] [13] [14, 15, 16, 17, 18, 19, 20, 21, 22, 23] (True) [(0, j3 b.toNat), (16, .bool ((decide ((b.toNat : Int) ≥ 48)) && (decide ((b.toNat : Int) ≤ 57))))] (trivial) ?_
      refine rP 16 (.bool ((decide ((b.toNat : Int) ≥ 48)) && (decide ((b.toNat : Int) ≤ 57)))) (.bool (((decide ((b.toNat : Int) ≥ 97)) && (decide ((b.toNat : Int) ≤ 122))) || ((decide ((b.toNat : Int) ≥ 48)) && (decide ((b.toNat : Int) ≤ 57))))) (by first | (rw [show ((decide ((b.toNat : Int) ≥ 97)) && (decide ((b.toNat : Int) ≤ 122))) = false from g2]; done) | (rw [show ((decide ((b.toNat : Int) ≥ 97)) && (decide ((b.toNat : Int) ≤ 122))) = false from g2]; rfl)) ?_
      exact rM hj
  refine rQ [] [14] [15, 16, 17, 18, 19, 20, 21, 22, 23] (True) [(0, j3 b.toNat), (17, .bool (((decide ((b.toNat : Int) ≥ 97)) && (decide ((b.toNat : Int) ≤ 122))) || ((decide ((b.toNat : Int) ≥ 48)) && (decide ((b.toNat : Int) ≤ 57)))))] (trivial) ?_
  refine rg_join2 [18, 19, 20, 21, 22, 23] [(0, j3 b.toNat), (20, .bool ((((decide ((b.toNat : Int) ≥ 97)) && (decide ((b.toNat : Int) ≤ 122))) || ((decide ((b.toNat : Int) ≥ 48)) && (decide ((b.toNat : Int) ≤ 57)))) || ((b.toNat : Int) == 45)))] [] (fun hj => ?_) ?_
  · refine rI 17 (((decide ((b.toNat : Int) ≥ 97)) && (decide ((b.toNat : Int) ≤ 122))) || ((decide ((b.toNat : Int) ≥ 48)) && (decide ((b.toNat : Int) ≤ 57)))) (fun g4 => ?_) (fun g4 => ?_)
    · have g4p : (((b.toNat : Int) ≥ 97) ∧ ((b.toNat : Int) ≤ 122)) ∨ (((b.toNat : Int) ≥ 48) ∧ ((b.toNat : Int) ≤ 57)) := by simpa using g4
      refine rQ [] [15, 16, 17] [18, 19, 20, 21, 22, 23] (True) [(0, j3 b.toNat), (20, .bool true)] (trivial) ?_
      refine rP 20 (.bool true) (.bool ((((decide ((b.toNat : Int) ≥ 97)) && (decide ((b.toNat : Int) ≤ 122))) || ((decide ((b.toNat : Int) ≥ 48)) && (decide ((b.toNat : Int) ≤ 57)))) || ((b.toNat : Int) == 45))) (by first | (rw [show (((decide ((b.toNat : Int) ≥ 97)) && (decide ((b.toNat : Int) ≤ 122))) || ((decide ((b.toNat : Int) ≥ 48)) && (decide ((b.toNat : Int) ≤ 57)))) = true from g4]; done) | (rw [show (((decide ((b.toNat : Int) ≥ 97)) && (decide ((b.toNat : Int) ≤ 122))) || ((decide ((b.toNat : Int) ≥ 48)) && (decide ((b.toNat : Int) ≤ 57)))) = true from g4]; rfl)) ?_
      exact rM hj
    · have g4p : ¬ ((((b.toNat : Int) ≥ 97) ∧ ((b.toNat : Int) ≤ 122)) ∨ (((b.toNat : Int) ≥ 48) ∧ ((b.toNat : Int) ≤ 57))) := by simpa using g4
      refine rQ [] [15, 16, 17] [18, 19, 20, 21, 22, 23] (True) [(0, j3 b.toNat), (20, .bool ((b.toNat : Int) == 45))] (trivial) ?_
      refine rP 20 (.bool ((b.toNat : Int) == 45)) (.bool ((((decide ((b.toNat : Int) ≥ 97)) && (decide ((b.toNat : Int) ≤ 122))) || ((decide ((b.toNat : Int) ≥ 48)) && (decide ((b.toNat : Int) ≤ 57)))) || ((b.toNat : Int) == 45))) (by first | (rw [show (((decide ((b.toNat : Int) ≥ 97)) && (decide ((b.toNat : Int) ≤ 122))) || ((decide ((b.toNat : Int) ≥ 48)) && (decide ((b.toNat : Int) ≤ 57)))) = false from g4]; done) | (rw [show (((decide ((b.toNat : Int) ≥ 97)) && (decide ((b.toNat : Int) ≤ 122))) || ((decide ((b.toNat : Int) ≥ 48)) && (decide ((b.toNat : Int) ≤ 57)))) = false from g4]; rfl)) ?_
      exact rM hj
  refine rQ [] [18] [19, 20, 21, 22, 23] (True) [(0, j3 b.toNat), (21, .bool ((((decide ((b.toNat : Int) ≥ 97)) && (decide ((b.toNat : Int) ≤ 122))) || ((decide ((b.toNat : Int) ≥ 48)) && (decide ((b.toNat : Int) ≤ 57)))) || ((b.toNat : Int) == 45)))] (trivial) ?_
  refine rg_join2 [22, 23] [(24, .bool (((((decide ((b.toNat : Int) ≥ 97)) && (decide ((b.toNat : Int) ≤ 122))) || ((decide ((b.toNat : Int) ≥ 48)) && (decide ((b.toNat : Int) ≤ 57)))) || ((b.toNat : Int) == 45)) || ((b.toNat : Int) == 46)))] [] (fun hj => ?_) ?_
  · refine rI 21 ((((decide ((b.toNat : Int) ≥ 97)) && (decide ((b.toNat : Int) ≤ 122))) || ((decide ((b.toNat : Int) ≥ 48)) && (decide ((b.toNat : Int) ≤ 57)))) || ((b.toNat : Int) == 45)) (fun g5 => ?_) (fun g5 => ?_)
    · have g5p : ((((b.toNat : Int) ≥ 97) ∧ ((b.toNat : Int) ≤ 122)) ∨ (((b.toNat : Int) ≥ 48) ∧ ((b.toNat : Int) ≤ 57))) ∨ ((b.toNat : Int) = 45) := by simpa using g5
      refine rQ [] [19, 20, 21] [22, 23] (True) [(24, .bool true)] (trivial) ?_
      refine rP 24 (.bool true) (.bool (((((decide ((b.toNat : Int) ≥ 97)) && (decide ((b.toNat : Int) ≤ 122))) || ((decide ((b.toNat : Int) ≥ 48)) && (decide ((b.toNat : Int) ≤ 57)))) || ((b.toNat : Int) == 45)) || ((b.toNat : Int) == 46))) (by first | (rw [show ((((decide ((b.toNat : Int) ≥ 97)) && (decide ((b.toNat : Int) ≤ 122))) || ((decide ((b.toNat : Int) ≥ 48)) && (decide ((b.toNat : Int) ≤ 57)))) || ((b.toNat : Int) == 45)) = true from g5]; done) | (rw [show ((((decide ((b.toNat : Int) ≥ 97)) && (decide ((b.toNat : Int) ≤ 122))) || ((decide ((b.toNat : Int) ≥ 48)) && (decide ((b.toNat : Int) ≤ 57)))) || ((b.toNat : Int) == 45)) = true from g5]; rfl)) ?_
      exact rM hj
    · have g5p : ¬ (((((b.toNat : Int) ≥ 97) ∧ ((b.toNat : Int) ≤ 122)) ∨ (((b.toNat : Int) ≥ 48) ∧ ((b.toNat : Int) ≤ 57))) ∨ ((b.toNat : Int) = 45)) := by simpa using g5
      refine rQ [] [19, 20, 21] [22, 23] (True) [(24, .bool ((b.toNat : Int) == 46))] (trivial) ?_
      refine rP 24 (.bool ((b.toNat : Int) == 46)) (.bool (((((decide ((b.toNat : Int) ≥ 97)) && (decide ((b.toNat : Int) ≤ 122))) || ((decide ((b.toNat : Int) ≥ 48)) && (decide ((b.toNat : Int) ≤ 57)))) || ((b.toNat : Int) == 45)) || ((b.toNat : Int) == 46))) (by first | (rw [show ((((decide ((b.toNat : Int) ≥ 97)) && (decide ((b.toNat : Int) ≤ 122))) || ((decide ((b.toNat : Int) ≥ 48)) && (decide ((b.toNat : Int) ≤ 57)))) || ((b.toNat : Int) == 45)) = false from g5]; done) | (rw [show ((((decide ((b.toNat : Int) ≥ 97)) && (decide ((b.toNat : Int) ≤ 122))) || ((decide ((b.toNat : Int) ≥ 48)) && (decide ((b.toNat : Int) ≤ 57)))) || ((b.toNat : Int) == 45)) = false from g5]; rfl)) ?_
      exact rM hj
  refine rQ [] [22, 23] [] (True) [(2, .bool (!(((((decide ((b.toNat : Int) ≥ 97)) && (decide ((b.toNat : Int) ≤ 122))) || ((decide ((b.toNat : Int) ≥ 48)) && (decide ((b.toNat : Int) ≤ 57)))) || ((b.toNat : Int) == 45)) || ((b.toNat : Int) == 46))))] (trivial) ?_
  refine rF ?_
  refine cd_ret (bot_ret (rv [.bool (!(((((decide ((b.toNat : Int) ≥ 97)) && (decide ((b.toNat : Int) ≤ 122))) || ((decide ((b.toNat : Int) ≥ 48)) && (decide ((b.toNat : Int) ≤ 57)))) || ((b.toNat : Int) == 45)) || ((b.toNat : Int) == 46)))] (.bool (!(((((decide ((b.toNat : Int) ≥ 97)) && (decide ((b.toNat : Int) ≤ 122))) || ((decide ((b.toNat : Int) ≥ 48)) && (decide ((b.toNat : Int) ≤ 57)))) || ((b.toNat : Int) == 45)) || ((b.toNat : Int) == 46)))) ?_))
  refine ⟨?_, rfl⟩
  all_goals first | with_reducible rfl | ((unfold okB at hb; simp only [Bool.or_eq_true, Bool.and_eq_true, decide_eq_true_eq, beq_iff_eq] at hb; congr 1; simp only [Bool.not_eq_false', Bool.or_eq_true, Bool.and_eq_true, decide_eq_true_eq, beq_iff_eq]; omega); done) | with_reducible assumption | omega | rfl | (simp_all; done) | (simp_all; omega)

set_option maxRecDepth 100000 in
theorem indexFunc_ok (C : Ctx) (s : List UInt8) (hs : Ok (∀ b ∈ s, okB b = true)) (hl : Ok (s.length ≤ 1099511627776)) :
    FnT Tryz.prog C 249 #[str s, .func (.func 154) #[] #[], .bool true] [] (fun rv_ rL_ => rv_ = z6 (-1) ∧ rL_ = []) := by
  replace hs := hs.h
  replace hl := hl.h
  refine fE 21 Tryz.func249 rfl ?_
  refine cQ [] (True) [(0, str s), (1, .func (.func 154) #[] #[]), (2, .bool true)] (trivial) ?_
  refine cd_seq ?_
  refine cd_rg ?_
  refine rQ [] [0] [1] (True) [(1, .func (.func 154) #[] #[]), (2, .bool true), (9, str s)] (trivial) ?_
  refine rX 1 [] (do pure (.value (← Instr.range 9 (str s)))) [] [] [] (gv_srange s (by kernel_rfl)) ?_
  rintro _ _ ⟨it1, L1, rfl, rfl, h1⟩
  refine rD [(1, .func (.func 154) #[] #[]), (2, .bool true), (10, p0 it1)] ?_
  refine cd_block ?_
  refine lp (fun x : Nat × Blks => [(1, .func (.func 154) #[] #[]), (2, .bool true), (10, p0 it1)]) (fun x : Nat × Blks => [x.2]) (fun x : Nat × Blks => StrIt it1 s x.1 x.2) (fun x : Nat × Blks => s.length - x.1) ((0, L1)) (show StrIt it1 s 0 L1 from h1) ?_
  rintro ⟨i, Lr⟩ hI
  replace hI : StrIt it1 s i Lr := hI
  refine cd_rg ?_
  refine rQ [] [] [0, 1] (True) [(1, .func (.func 154) #[] #[]), (2, .bool true), (10, p0 it1)] (trivial) ?_
  refine rX 0 [1] (do pure (.value (← Instr.next (p0 it1) true 0))) [0] [Lr] [] (gv_snext 0 (fun b hb => okB_ascii (hs b hb)) hI) ?_
  rintro _ _ (⟨L2, e1, hx1, rfl, rfl, h2⟩ | ⟨hx1, rfl, rfl⟩)
  ·
    refine rQ [] [1] [] (True) [(1, .func (.func 154) #[] #[]), (2, .bool true), (10, p0 it1), (11, .tuple #[.bool true, n6 i, j3 e1.toNat]), (12, .bool true)] (trivial) ?_
    refine rF ?_
    refine cd_seq ?_
    refine cYes ?_
    refine cd_skip (then_n ?_)
    refine cd_block ?_
    refine cQ [] (True) [(1, .func (.func 154) #[] #[]), (2, .bool true), (7, n6 i), (8, j3 e1.toNat), (10, p0 it1)] (trivial) ?_
    refine cd_rg ?_
    refine rQ [] [0, 1] [2, 3, 4] (True) [(1, .func (.func 154) #[] #[]), (2, .bool true), (7, n6 i), (10, p0 it1), (15, .func (.func 154) #[] #[]), (16, j3 e1.toNat)] (trivial) ?_
    refine rC 2 [3, 4] [] [L2] (named1_ok C e1 ⟨by first | (exact hs _ (List.mem_of_getElem? (by assumption)); done) | (have := (List.getElem?_eq_some_iff.1 (by assumption : s[i]? = some _)).1; omega; done) | exact Ok.h {}⟩) ?_
    rintro _ _ ⟨rfl, rfl⟩
    refine rQ [] [3, 4] [] (True) [(1, .func (.func 154) #[] #[]), (2, .bool true), (7, n6 i), (10, p0 it1), (19, .bool false)] (trivial) ?_
    refine rF ?_
    refine cNo ?_
    refine cd_skip (block_n (lM ((i + 1, L2)) (show StrIt it1 s (i + 1) L2 from h2) (show (s.length - (i + 1)) < (s.length - i) by have := (List.getElem?_eq_some_iff.1 (by assumption : s[i]? = some _)).1; omega)))
  ·
    refine rQ [] [1] [] (True) [(1, .func (.func 154) #[] #[]), (2, .bool true), (10, p0 it1), (11, .tuple #[.bool false]), (12, .bool false)] (trivial) ?_
    refine rF ?_
    refine cd_seq ?_
    refine cNo ?_
    refine cd_exit (then_exit (then_exit (block_hit (then_n ?_))))
    refine cQ [] (True) [(6, z6 (-1))] (trivial) ?_
    refine cT [] [] ?_
    refine cd_ret (bot_ret (rv [z6 (-1)] (z6 (-1)) ?_))
    refine ⟨?_, rfl⟩
    all_goals first | with_reducible rfl | (skip; done) | with_reducible assumption | omega | rfl | (simp_all; done) | (simp_all; omega)

set_option maxRecDepth 100000 in
theorem indexFunc2_ok (C : Ctx) (s : List UInt8) (hs : Ok (∀ b ∈ s, okB b = true)) (hl : Ok (s.length ≤ 1099511627776)) :
    FnT Tryz.prog C 208 #[str s, .func (.func 154) #[] #[]] [] (fun rv_ rL_ => rv_ = z6 (-1) ∧ rL_ = []) := by
  replace hs := hs.h
  replace hl := hl.h
  refine fE 8 Tryz.func208 rfl ?_
  refine cQ [] (True) [(0, str s), (1, .func (.func 154) #[] #[])] (trivial) ?_
  refine cd_rg ?_
  refine rQ [] [0, 1] [2, 3] (True) [(5, str s), (6, .func (.func 154) #[] #[])] (trivial) ?_
  refine rC 2 [3] [] [] (indexFunc_ok C s {} {}) ?_
  rintro _ _ ⟨rfl, rfl⟩
  refine rQ [] [3] [] (True) [(4, z6 (-1))] (trivial) ?_
  refine rF ?_
  refine cd_ret (bot_ret (rv [z6 (-1)] (z6 (-1)) ?_))
  refine ⟨?_, rfl⟩
  all_goals first | with_reducible rfl | (skip; done) | with_reducible assumption | omega | rfl | (simp_all; done) | (simp_all; omega)

set_option maxRecDepth 100000 in
theorem containsFunc_ok (C : Ctx) (s : List UInt8) (hs : Ok (∀ b ∈ s, okB b = true)) (hl : Ok (s.length ≤ 1099511627776)) :
    FnT Tryz.prog C 153 #[str s, .func (.func 154) #[] #[]] [] (fun rv_ rL_ => rv_ = .bool false ∧ rL_ = []) := by
  replace hs := hs.h
  replace hl := hl.h
  refine fE 9 Tryz.func153 rfl ?_
  refine cQ [] (True) [(0, str s), (1, .func (.func 154) #[] #[])] (trivial) ?_
  refine cd_rg ?_
  refine rQ [] [0, 1] [2, 3, 4] (True) [(5, str s), (6, .func (.func 154) #[] #[])] (trivial) ?_
  refine rC 2 [3, 4] [] [] (indexFunc2_ok C s {} {}) ?_
  rintro _ _ ⟨rfl, rfl⟩
  refine rQ [] [3, 4] [] (True) [(4, .bool false)] (trivial) ?_
  refine rF ?_
  refine cd_ret (bot_ret (rv [.bool false] (.bool false) ?_))
  refine ⟨?_, rfl⟩
  all_goals first | with_reducible rfl | (skip; done) | with_reducible assumption | omega | rfl | (simp_all; done) | (simp_all; omega)

set_option maxRecDepth 100000 in
theorem named_ok (C : Ctx) (s : List UInt8) (hs : Ok (nameOk s)) :
    FnT Tryz.prog C 103 #[str s] [] (fun rv_ rL_ => rv_ = .bool true ∧ rL_ = []) := by
  replace hs := hs.h
  refine fE 15 Tryz.func103 rfl ?_
  refine cQ [] (True) [(0, str s)] (trivial) ?_
  refine cd_rg ?_
  refine rQ [] [0, 1, 2] [3, 4, 5, 6, 7, 8, 9, 10, 11, 12] (True) [(0, str s), (5, .bool (!(s == [])))] (trivial) ?_
  refine rg_join2 [7, 8, 9, 10, 11, 12] [(0, str s), (9, .bool ((!(s == [])) && (decide ((s.length : Int) ≤ 32))))] [] (fun hj => ?_) ?_
  · refine rI 5 (!(s == [])) (fun g1 => ?_) (fun g1 => ?_)
    · have g1p : ¬ (s = []) := by simpa using g1
      refine rQ [] [3, 4, 5, 6] [7, 8, 9, 10, 11, 12] (True) [(0, str s), (9, .bool (decide ((s.length : Int) ≤ 32)))] (trivial) ?_
      refine rP 9 (.bool (decide ((s.length : Int) ≤ 32))) (.bool ((!(s == [])) && (decide ((s.length : Int) ≤ 32)))) (by first | (rw [show (!(s == [])) = true from g1]; done) | (rw [show (!(s == [])) = true from g1]; rfl)) ?_
      exact rM hj
    · have g1p : ¬ (¬ (s = [])) := by simpa using g1
      refine rQ [] [3, 4, 5, 6] [7, 8, 9, 10, 11, 12] (True) [(0, str s), (9, .bool false)] (trivial) ?_
      refine rP 9 (.bool false) (.bool ((!(s == [])) && (decide ((s.length : Int) ≤ 32)))) (by first | (rw [show (!(s == [])) = false from g1]; done) | (rw [show (!(s == [])) = false from g1]; rfl)) ?_
      exact rM hj
  refine rQ [] [7] [8, 9, 10, 11, 12] (True) [(0, str s), (10, .bool ((!(s == [])) && (decide ((s.length : Int) ≤ 32))))] (trivial) ?_
  refine rg_join2 [12] [(14, .bool ((!(s == [])) && (decide ((s.length : Int) ≤ 32))))] [] (fun hj => ?_) ?_
  · refine rI 10 ((!(s == [])) && (decide ((s.length : Int) ≤ 32))) (fun g2 => ?_) (fun g2 => ?_)
    · have g2p : (¬ (s = [])) ∧ ((s.length : Int) ≤ 32) := by simpa using g2
      refine rQ [] [8] [9, 10, 11, 12] (True) [(10, .bool true), (11, str s)] (trivial) ?_
      refine rC 9 [10, 11, 12] [] [] (containsFunc_ok C s ⟨by first | (exact hs.2.2; done) | (have := hs.2.1; omega; done) | exact Ok.h {}⟩ ⟨by first | (exact hs.2.2; done) | (have := hs.2.1; omega; done) | exact Ok.h {}⟩) ?_
      rintro _ _ ⟨rfl, rfl⟩
      refine rQ [] [10, 11] [12] (True) [(14, .bool true)] (trivial) ?_
      refine rP 14 (.bool true) (.bool ((!(s == [])) && (decide ((s.length : Int) ≤ 32)))) (by first | (rw [show ((!(s == [])) && (decide ((s.length : Int) ≤ 32))) = true from g2]; done) | (rw [show ((!(s == [])) && (decide ((s.length : Int) ≤ 32))) = true from g2]; rfl)) ?_
      exact rM hj
    · have g2p : ¬ ((¬ (s = [])) ∧ ((s.length : Int) ≤ 32)) := by simpa using g2
      refine rQ [] [8, 9, 10, 11] [12] (True) [(14, .bool false)] (trivial) ?_
      refine rP 14 (.bool false) (.bool ((!(s == [])) && (decide ((s.length : Int) ≤ 32)))) (by first | (rw [show ((!(s == [])) && (decide ((s.length : Int) ≤ 32))) = false from g2]; done) | (rw [show ((!(s == [])) && (decide ((s.length : Int) ≤ 32))) = false from g2]; rfl)) ?_
      exact rM hj
  refine rQ [] [12] [] (True) [(2, .bool ((!(s == [])) && (decide ((s.length : Int) ≤ 32))))] (trivial) ?_
  refine rF ?_
  refine cd_ret (bot_ret (rv [.bool ((!(s == [])) && (decide ((s.length : Int) ≤ 32)))] (.bool ((!(s == [])) && (decide ((s.length : Int) ≤ 32)))) ?_))
  refine ⟨?_, rfl⟩
  all_goals first | with_reducible rfl | ((have h1 := hs.1; have h2 := hs.2.1; congr 1; simp; (try rw [empty_len]); omega); done) | with_reducible assumption | omega | rfl | (simp_all; done) | (simp_all; omega)

set_option maxRecDepth 100000 in
theorem isNaN_str (C : Ctx) (x : List UInt8) :
    FnT Tryz.prog C 277 #[str x] [] (fun rv_ rL_ => rv_ = .bool false ∧ rL_ = []) := by
  refine fE 6 Tryz.func277 rfl ?_
  refine cQ [] (True) [(0, str x)] (trivial) ?_
  refine cQ [] (True) [(2, .bool (!(x == x)))] (trivial) ?_
  refine cd_ret (bot_ret (rv [.bool (!(x == x))] (.bool (!(x == x))) ?_))
  refine ⟨?_, rfl⟩
  all_goals first | with_reducible rfl | (simp; done) | with_reducible assumption | omega | rfl | (simp_all; done) | (simp_all; omega)

set_option maxRecDepth 100000 in
theorem less_any (C : Ctx) (x : List UInt8) (y : List UInt8) :
    FnT Tryz.prog C 257 #[str x, str y] [] (fun rv_ rL_ => rv_ = .bool (Op.bytesLess x y) ∧ rL_ = []) := by
  refine fE 17 Tryz.func257 rfl ?_
  refine cQ [] (True) [(0, str x), (1, str y)] (trivial) ?_
  refine cd_rg ?_
  refine rQ [] [0] [1, 2, 3, 4, 5, 6, 7, 8, 9, 10, 11, 12] (True) [(0, str x), (1, str y), (5, str x)] (trivial) ?_
  refine rC 1 [2, 3, 4, 5, 6, 7, 8, 9, 10, 11, 12] [] [] (isNaN_str C x) ?_
  rintro _ _ ⟨rfl, rfl⟩
  refine rQ [] [2, 3, 4, 5, 6, 7, 8, 9, 10, 11, 12] [] (True) [(4, .bool (Op.bytesLess x y))] (trivial) ?_
  refine rF ?_
  refine cd_ret (bot_ret (rv [.bool (Op.bytesLess x y)] (.bool (Op.bytesLess x y)) ?_))
  refine ⟨?_, rfl⟩
  all_goals first | with_reducible rfl | (simp; done) | with_reducible assumption | omega | rfl | (simp_all; done) | (simp_all; omega)

set_option maxRecDepth 100000 in
theorem insertionSort_any (C : Ctx) (b : Nat) (l : Strs) (spare : List Value) (cap : Nat) (fz : Nat × Nat) (hl : Ok (l.length ≤ 1099511627776)) (hz : Ok (fz.2 = 0)) :
    FnT Tryz.prog C 251 #[sl b l.length cap, z6 0, n6 l.length] [[(b, .cells (strCells l spare) 9 fz)]] (fun rv_ rL_ => ∃ l1 : Strs, (l1.Perm l ∧ Sorted l1) ∧ rv_ = .tuple #[] ∧ rL_ = [[(b, .cells (strCells l1 spare) 9 fz)]]) := by
  replace hl := hl.h
  replace hz := hz.h
  refine fE 49 Tryz.func251 rfl ?_
  refine cQ [] ((inKind .i64 ((0 : Int) + (1 : Int)))) [(0, sl b l.length cap), (1, z6 0), (2, n6 l.length), (6, z6 1)] (inK_i64 (by omega)) ?_
  refine cd_block ?_
  refine lp (fun x : Strs × Nat => [(0, sl b l.length cap), (1, z6 0), (2, n6 l.length), (6, n6 x.2)]) (fun x : Strs × Nat => [[(b, .cells (strCells x.1 spare) 9 fz)]]) (fun x : Strs × Nat => OutInv l x.1 x.2 ∧ 1 ≤ x.2) (fun x : Strs × Nat => l.length - x.2) ((l, 1)) (show OutInv l l 1 ∧ 1 ≤ 1 from ⟨OutInv.start l, by omega⟩) ?_
  rintro ⟨l1, i⟩ hI
  replace hI : OutInv l l1 i ∧ 1 ≤ i := hI
  obtain ⟨hI, h1i⟩ := hI
  have hlen := hI.len
  refine cd_seq ?_
  refine cQ [] (True) [(0, sl b l.length cap), (1, z6 0), (2, n6 l.length), (6, n6 i), (12, .bool (decide ((i : Int) < (l.length : Int))))] (trivial) ?_
  refine cI (decide ((i : Int) < (l.length : Int))) (fun h1 => ?_) (fun h1 => ?_)
  · have h1p : (i : Int) < (l.length : Int) := by simpa using h1
    refine cd_skip (then_n ?_)
    refine cd_seq ?_
    refine cd_block ?_
    refine cQ [] (True) [(0, sl b l.length cap), (1, z6 0), (2, n6 l.length), (6, n6 i), (7, n6 i)] (trivial) ?_
    refine cd_block ?_
    refine lp (fun x : Strs × Nat => [(0, sl b l.length cap), (1, z6 0), (2, n6 l.length), (6, n6 i), (7, n6 x.2)]) (fun x : Strs × Nat => [[(b, .cells (strCells x.1 spare) 9 fz)]]) (fun x : Strs × Nat => InsInv l x.1 i x.2) (fun x : Strs × Nat => x.2) ((l1, i)) (show InsInv l l1 i i from hI.enter (by omega)) ?_
    rintro ⟨l2, j⟩ hI
    replace hI : InsInv l l2 i j := hI
    have hlen2 := hI.len
    have hjle := hI.jle
    have hilt := hI.ilt
    refine cd_seq ?_
    refine dr [[(b, .cells (strCells l2 spare) 9 fz)]] [] [] 15 ?_
    refine aS [] [0, 1, 2, 3] (True) [(0, sl b l.length cap), (1, z6 0), (2, n6 l.length), (6, n6 i), (7, n6 j), (19, .bool (decide ((j : Int) > 0)))] (bm 15 15) 11 (trivial) ?_
    refine aB 19 (decide ((j : Int) > 0)) (fun g1 => ?_) (fun g1 => ?_)
    · have g1p : (j : Int) > 0 := by simpa using g1
      refine aS [(10, .nat), (7, .cell 0 (str (atS l2 j))), (12, .cell 0 (str (atS l2 (j - 1))))] [4, 5, 8, 9, 6, 10, 7, 11, 12] ((0 ≤ (j : Int) ∧ (j : Int) < (l.length : Int)) ∧ (0 ≤ (1 : Int) ∧ (1 : Int) ≤ (j : Int) ∧ (j : Int) ≤ IntKind.max .i64) ∧ (b = b ∧ (strCells l2 spare)[0 + j * 1]? = some (str (atS l2 j))) ∧ (0 ≤ ((j - 1 : Nat) : Int) ∧ ((j - 1 : Nat) : Int) < (l.length : Int)) ∧ (b = b ∧ (strCells l2 spare)[0 + (j - 1) * 1]? = some (str (atS l2 (j - 1))))) [(0, sl b l.length cap), (1, z6 0), (2, n6 l.length), (6, n6 i), (7, n6 j), (19, .bool true), (23, str (atS l2 j)), (28, str (atS l2 (j - 1)))] (bm 15 8191) 2 (⟨⟨by omega, by omega⟩, ⟨by omega, by omega, by have := (show IntKind.max .i64 = 9223372036854775807 from rfl); omega⟩, ⟨rfl, strCells_get (by omega)⟩, ⟨by omega, by omega⟩, ⟨rfl, strCells_get (by omega)⟩⟩) ?_
      refine aI (i := 13) ?_
      refine xC [] [] [0, 1, 2, 6, 7, 19, 29] (bm 15 16383) (less_any C (atS l2 j) (atS l2 (j - 1))) ?_
      rintro _ _ ⟨rfl, rfl⟩
      refine aS [] [14] (True) [(0, sl b l.length cap), (1, z6 0), (2, n6 l.length), (6, n6 i), (7, n6 j), (30, .bool (Op.bytesLess (atS l2 j) (atS l2 (j - 1))))] (bm 15 32767) 0 (trivial) ?_
      refine aE [(0, sl b l.length cap), (1, z6 0), (2, n6 l.length), (6, n6 i), (7, n6 j), (30, .bool (Op.bytesLess (atS l2 j) (atS l2 (j - 1))))] [[(b, .cells (strCells l2 spare) 9 fz)]] ?_
      refine cI (Op.bytesLess (atS l2 j) (atS l2 (j - 1))) (fun h2 => ?_) (fun h2 => ?_)
      · have h2p : (Op.bytesLess (atS l2 j) (atS l2 (j - 1))) = true := by first | (simpa using h2; done) | (intro hx; rw [hx] at h2; simp at h2) | (intro hx; rw [Bool.not_eq_true] at hx; rw [hx] at h2; simp at h2)
        refine cd_skip (then_n ?_)
        refine cd_seq ?_
        refine cd_block ?_
        refine dr0 [] [[(b, .cells (strCells l2 spare) 9 fz)]] [0] 18 ?_
        refine aS [(4, .nat), (7, .nat)] [0, 1, 2, 3, 5, 6, 10, 11, 4, 7, 12, 8] ((0 ≤ (1 : Int) ∧ (1 : Int) ≤ (j : Int) ∧ (j : Int) ≤ IntKind.max .i64) ∧ (0 ≤ (1 : Int) ∧ (1 : Int) ≤ (j : Int) ∧ (j : Int) ≤ IntKind.max .i64) ∧ (0 ≤ (j : Int) ∧ (j : Int) < (l.length : Int)) ∧ (0 ≤ ((j - 1 : Nat) : Int) ∧ ((j - 1 : Nat) : Int) < (l.length : Int))) [(0, sl b l.length cap), (1, z6 0), (2, n6 l.length), (6, n6 i), (7, n6 j), (33, sl b l.length cap), (34, n6 j), (35, sl b l.length cap), (37, n6 (j - 1)), (41, pq b (0 + (j - 1) * 1)), (45, pq b (0 + j * 1))] (bm 18 7679) 6 (⟨⟨by omega, by omega, by have := (show IntKind.max .i64 = 9223372036854775807 from rfl); omega⟩, ⟨by omega, by omega, by have := (show IntKind.max .i64 = 9223372036854775807 from rfl); omega⟩, ⟨by omega, by omega⟩, ⟨by omega, by omega⟩⟩) ?_
        refine aH 0 (bm 18 262143) [(0, sl b l.length cap), (1, z6 0), (2, n6 l.length), (6, n6 i), (7, n6 j)] [[(b, .cells (setCells (setCells (strCells l2 spare) (0 + j * 1) [str (atS l2 (j - 1))]) (0 + (j - 1) * 1) [str (atS l2 j)]) 9 fz)]] ?_ (fun hs1 => ?_)
        ·
          refine aK [0] [(0, sl b l.length cap), (1, z6 0), (2, n6 l.length), (6, n6 i), (7, n6 j)] [[(b, .cells (setCells (setCells (strCells l2 spare) (0 + j * 1) [str (atS l2 (j - 1))]) (0 + (j - 1) * 1) [str (atS l2 j)]) 9 fz)]] ?_
          refine (block_n (then_n ?_))
          refine cd_same (show ([[(b, .cells (setCells (setCells (strCells l2 spare) (0 + j * 1) [str (atS l2 (j - 1))]) (0 + (j - 1) * 1) [str (atS l2 j)]) 9 fz)]] : List Blks) = [[(b, .cells (strCells (swapS l2 j (j - 1)) spare) 9 fz)]] from (by rw [strCells_set _ (by omega), strCells_set _ (by rw [List.length_set]; omega)]; rfl)) ?_
          refine cQ0 [(0, .nat), (1, .nat)] ((0 ≤ (1 : Int) ∧ (1 : Int) ≤ (j : Int) ∧ (j : Int) ≤ IntKind.max .i64)) [(0, sl b l.length cap), (1, z6 0), (2, n6 l.length), (6, n6 i), (7, n6 (j - 1))] (⟨by omega, by omega, by have := (show IntKind.max .i64 = 9223372036854775807 from rfl); omega⟩) ?_
          refine (lM (((swapS l2 j (j - 1)), j - 1)) (show InsInv l (swapS l2 j (j - 1)) i (j - 1) from hI.swap (by omega) (by first | assumption | (simp_all; done))) (show (j - 1) < j by omega))
        refine aH 1 (bm 18 131071) [(0, sl b l.length cap), (1, z6 0), (2, n6 l.length), (6, n6 i), (7, n6 j), (46, str (atS l2 j)), (48, pq b (0 + (j - 1) * 1))] [[(b, .cells (setCells (strCells l2 spare) (0 + j * 1) [str (atS l2 (j - 1))]) 9 fz)]] ?_ (fun hs2 => ?_)
        ·
          refine aI (i := 17) ?_
          refine xS [(17, .cell 0 undef)] (b = b ∧ (0 + (j - 1) * 1) + 1 ≤ (setCells (strCells l2 spare) (0 + j * 1) [str (atS l2 (j - 1))]).size ∧ fz.2 ≤ (0 + (j - 1) * 1)) [(0, sl b l.length cap), (1, z6 0), (2, n6 l.length), (6, n6 i), (7, n6 j)] [[(b, .cells (setCells (setCells (strCells l2 spare) (0 + j * 1) [str (atS l2 (j - 1))]) (0 + (j - 1) * 1) [str (atS l2 j)]) 9 fz)]] (bm 18 262143) (⟨rfl, by (try rw [setCells_size]); rw [strCells_size]; omega, by omega⟩) ?_
          exact hs1
        refine aH 3 (bm 18 32767) [(0, sl b l.length cap), (1, z6 0), (2, n6 l.length), (6, n6 i), (7, n6 j), (35, sl b l.length cap), (37, n6 (j - 1)), (42, str (atS l2 (j - 1))), (46, str (atS l2 j)), (47, pq b (0 + j * 1))] [[(b, .cells (strCells l2 spare) 9 fz)]] ?_ (fun hs3 => ?_)
        ·
          refine aI (i := 15) ?_
          refine xS [(15, .cell 0 undef)] (b = b ∧ (0 + j * 1) + 1 ≤ (strCells l2 spare).size ∧ fz.2 ≤ (0 + j * 1)) [(0, sl b l.length cap), (1, z6 0), (2, n6 l.length), (6, n6 i), (7, n6 j), (35, sl b l.length cap), (37, n6 (j - 1)), (46, str (atS l2 j))] [[(b, .cells (setCells (strCells l2 spare) (0 + j * 1) [str (atS l2 (j - 1))]) 9 fz)]] (bm 18 65535) (⟨rfl, by (try rw [setCells_size]); rw [strCells_size]; omega, by omega⟩) ?_
          refine aS [] [16] ((0 ≤ ((j - 1 : Nat) : Int) ∧ ((j - 1 : Nat) : Int) < (l.length : Int))) [(0, sl b l.length cap), (1, z6 0), (2, n6 l.length), (6, n6 i), (7, n6 j), (46, str (atS l2 j)), (48, pq b (0 + (j - 1) * 1))] (bm 18 131071) 1 (⟨by omega, by omega⟩) ?_
          exact hs2
        refine aH 5 (bm 18 8191) [(0, sl b l.length cap), (1, z6 0), (2, n6 l.length), (6, n6 i), (7, n6 j), (33, sl b l.length cap), (34, n6 j), (35, sl b l.length cap), (37, n6 (j - 1)), (42, str (atS l2 (j - 1))), (45, pq b (0 + j * 1))] [[(b, .cells (strCells l2 spare) 9 fz)]] ?_ (fun hs4 => ?_)
        ·
          refine aI (i := 13) ?_
          refine xQ [(13, .cell 0 (str (atS l2 j)))] (b = b ∧ (strCells l2 spare)[0 + j * 1]? = some (str (atS l2 j))) [(0, sl b l.length cap), (1, z6 0), (2, n6 l.length), (6, n6 i), (7, n6 j), (33, sl b l.length cap), (34, n6 j), (35, sl b l.length cap), (37, n6 (j - 1)), (42, str (atS l2 (j - 1))), (46, str (atS l2 j))] (bm 18 16383) (⟨rfl, strCells_get (by omega)⟩) ?_
          refine aS [] [14] ((0 ≤ (j : Int) ∧ (j : Int) < (l.length : Int))) [(0, sl b l.length cap), (1, z6 0), (2, n6 l.length), (6, n6 i), (7, n6 j), (35, sl b l.length cap), (37, n6 (j - 1)), (42, str (atS l2 (j - 1))), (46, str (atS l2 j)), (47, pq b (0 + j * 1))] (bm 18 32767) 3 (⟨by omega, by omega⟩) ?_
          exact hs3
        refine aH 5 (bm 18 15871) [(0, sl b l.length cap), (1, z6 0), (2, n6 l.length), (6, n6 i), (7, n6 j), (33, sl b l.length cap), (34, n6 j), (35, sl b l.length cap), (37, n6 (j - 1)), (41, pq b (0 + (j - 1) * 1)), (46, str (atS l2 j))] [[(b, .cells (strCells l2 spare) 9 fz)]] ?_ (fun hs5 => ?_)
        ·
          refine aI (i := 9) ?_
          refine xQ [(9, .cell 0 (str (atS l2 (j - 1))))] (b = b ∧ (strCells l2 spare)[0 + (j - 1) * 1]? = some (str (atS l2 (j - 1)))) [(0, sl b l.length cap), (1, z6 0), (2, n6 l.length), (6, n6 i), (7, n6 j), (33, sl b l.length cap), (34, n6 j), (35, sl b l.length cap), (37, n6 (j - 1)), (42, str (atS l2 (j - 1))), (46, str (atS l2 j))] (bm 18 16383) (⟨rfl, strCells_get (by omega)⟩) ?_
          refine aS [] [14] ((0 ≤ (j : Int) ∧ (j : Int) < (l.length : Int))) [(0, sl b l.length cap), (1, z6 0), (2, n6 l.length), (6, n6 i), (7, n6 j), (35, sl b l.length cap), (37, n6 (j - 1)), (42, str (atS l2 (j - 1))), (46, str (atS l2 j)), (47, pq b (0 + j * 1))] (bm 18 32767) 3 (⟨by omega, by omega⟩) ?_
          exact hs3
        refine aII (i := 9) (j := 13) ?_ ?_
        ·
          refine xQ [(9, .cell 0 (str (atS l2 (j - 1))))] (b = b ∧ (strCells l2 spare)[0 + (j - 1) * 1]? = some (str (atS l2 (j - 1)))) [(0, sl b l.length cap), (1, z6 0), (2, n6 l.length), (6, n6 i), (7, n6 j), (33, sl b l.length cap), (34, n6 j), (35, sl b l.length cap), (37, n6 (j - 1)), (42, str (atS l2 (j - 1))), (45, pq b (0 + j * 1))] (bm 18 8191) (⟨rfl, strCells_get (by omega)⟩) ?_
          exact hs4
        ·
          refine xQ [(13, .cell 0 (str (atS l2 j)))] (b = b ∧ (strCells l2 spare)[0 + j * 1]? = some (str (atS l2 j))) [(0, sl b l.length cap), (1, z6 0), (2, n6 l.length), (6, n6 i), (7, n6 j), (33, sl b l.length cap), (34, n6 j), (35, sl b l.length cap), (37, n6 (j - 1)), (41, pq b (0 + (j - 1) * 1)), (46, str (atS l2 j))] (bm 18 15871) (⟨rfl, strCells_get (by omega)⟩) ?_
          exact hs5
      · have h2p : ¬ ((Op.bytesLess (atS l2 j) (atS l2 (j - 1))) = true) := by first | (simpa using h2; done) | (intro hx; rw [hx] at h2; simp at h2) | (intro hx; rw [Bool.not_eq_true] at hx; rw [hx] at h2; simp at h2)
        refine cd_exit (then_exit (then_exit (block_hit (block_n (then_n ?_)))))
        refine cQ0 [] ((inKind .i64 ((i : Int) + 1))) [(0, sl b l.length cap), (1, z6 0), (2, n6 l.length), (6, n6 (i + 1))] (inK_i64 (by omega)) ?_
        refine (lM ((l2, i + 1)) (show OutInv l l2 (i + 1) ∧ 1 ≤ (i + 1) from ⟨hI.leave (by first | omega | (simp_all; done) | (simp_all; omega)), by omega⟩) (show (l.length - (i + 1)) < (l.length - i) by omega))
    · have g1p : ¬ ((j : Int) > 0) := by simpa using g1
      refine aS [] [4, 5, 8, 9, 6, 10, 7, 11, 12, 13, 14] (True) [(0, sl b l.length cap), (1, z6 0), (2, n6 l.length), (6, n6 i), (7, n6 j), (30, .bool false)] (bm 15 32767) 0 (trivial) ?_
      refine aE [(0, sl b l.length cap), (1, z6 0), (2, n6 l.length), (6, n6 i), (7, n6 j), (30, .bool false)] [[(b, .cells (strCells l2 spare) 9 fz)]] ?_
      refine cNo ?_
      refine cd_exit (then_exit (then_exit (block_hit (block_n (then_n ?_)))))
      refine cQ0 [] ((inKind .i64 ((i : Int) + 1))) [(0, sl b l.length cap), (1, z6 0), (2, n6 l.length), (6, n6 (i + 1))] (inK_i64 (by omega)) ?_
      refine (lM ((l2, i + 1)) (show OutInv l l2 (i + 1) ∧ 1 ≤ (i + 1) from ⟨hI.leave (by first | omega | (simp_all; done) | (simp_all; omega)), by omega⟩) (show (l.length - (i + 1)) < (l.length - i) by omega))
  · have h1p : ¬ ((i : Int) < (l.length : Int)) := by simpa using h1
    refine cd_exit (then_exit (then_exit (block_hit (bot_n (rv [] (.tuple #[]) ?_)))))
    refine ⟨l1, ?_, ?_, rfl⟩
    all_goals first | with_reducible rfl | (exact hI.done (by omega); done) | with_reducible assumption | omega | rfl | (simp_all; done) | (simp_all; omega)

set_option maxRecDepth 100000 in
theorem len64_small (C : Ctx) (x : Nat) (hx : Ok (x ≤ 12)) :
    FnT Tryz.prog C 179 #[u6 x] [] (fun rv_ rL_ => ∃ v : Nat, rv_ = n6 v ∧ rL_ = []) := by
  replace hx := hx.h
  refine fE 25 Tryz.func179 rfl ?_
  refine cQ [] (True) [(0, u6 x), (2, z6 0)] (trivial) ?_
  refine cd_seq ?_
  refine cQ [] (True) [(0, u6 x), (2, z6 0), (4, .bool (decide ((x : Int) ≥ 4294967296)))] (trivial) ?_
  refine cI (decide ((x : Int) ≥ 4294967296)) (fun h1 => ?_) (fun h1 => ?_)
  · have h1p : (x : Int) ≥ 4294967296 := by simpa using h1
    exfalso; omega
  · have h1p : ¬ ((x : Int) ≥ 4294967296) := by simpa using h1
    refine cd_skip (then_n ?_)
    refine cd_seq ?_
    refine cQ [] (True) [(0, u6 x), (2, z6 0), (8, .bool (decide ((x : Int) ≥ 65536)))] (trivial) ?_
    refine cI (decide ((x : Int) ≥ 65536)) (fun h2 => ?_) (fun h2 => ?_)
    · have h2p : (x : Int) ≥ 65536 := by simpa using h2
      exfalso; omega
    · have h2p : ¬ ((x : Int) ≥ 65536) := by simpa using h2
      refine cd_skip (then_n ?_)
      refine cd_seq ?_
      refine cQ [] (True) [(0, u6 x), (2, z6 0), (14, .bool (decide ((x : Int) ≥ 256)))] (trivial) ?_
      refine cI (decide ((x : Int) ≥ 256)) (fun h3 => ?_) (fun h3 => ?_)
      · have h3p : (x : Int) ≥ 256 := by simpa using h3
        exfalso; omega
      · have h3p : ¬ ((x : Int) ≥ 256) := by simpa using h3
        refine cd_skip (then_n ?_)
        refine cQ [] ((inKind .u8 (x : Int)) ∧ (0 ≤ (x : Int) ∧ (x : Int) < ([0, 1, 2, 2, 3, 3, 3, 3, 4, 4, 4, 4, 4, 4, 4, 4, 5, 5, 5, 5, 5, 5, 5, 5, 5, 5, 5, 5, 5, 5, 5, 5, 6, 6, 6, 6, 6, 6, 6, 6, 6, 6, 6, 6, 6, 6, 6, 6, 6, 6, 6, 6, 6, 6, 6, 6, 6, 6, 6, 6, 6, 6, 6, 6, 7, 7, 7, 7, 7, 7, 7, 7, 7, 7, 7, 7, 7, 7, 7, 7, 7, 7, 7, 7, 7, 7, 7, 7, 7, 7, 7, 7, 7, 7, 7, 7, 7, 7, 7, 7, 7, 7, 7, 7, 7, 7, 7, 7, 7, 7, 7, 7, 7, 7, 7, 7, 7, 7, 7, 7, 7, 7, 7, 7, 7, 7, 7, 7, 8, 8, 8, 8, 8, 8, 8, 8, 8, 8, 8, 8, 8, 8, 8, 8, 8, 8, 8, 8, 8, 8, 8, 8, 8, 8, 8, 8, 8, 8, 8, 8, 8, 8, 8, 8, 8, 8, 8, 8, 8, 8, 8, 8, 8, 8, 8, 8, 8, 8, 8, 8, 8, 8, 8, 8, 8, 8, 8, 8, 8, 8, 8, 8, 8, 8, 8, 8, 8, 8, 8, 8, 8, 8, 8, 8, 8, 8, 8, 8, 8, 8, 8, 8, 8, 8, 8, 8, 8, 8, 8, 8, 8, 8, 8, 8, 8, 8, 8, 8, 8, 8, 8, 8, 8, 8, 8, 8, 8, 8, 8, 8, 8, 8, 8, 8, 8, 8, 8, 8, 8, 8, 8, 8, 8, 8, 8, 8].length : Int)) ∧ (inKind .i64 (((([0, 1, 2, 2, 3, 3, 3, 3, 4, 4, 4, 4, 4, 4, 4, 4, 5, 5, 5, 5, 5, 5, 5, 5, 5, 5, 5, 5, 5, 5, 5, 5, 6, 6, 6, 6, 6, 6, 6, 6, 6, 6, 6, 6, 6, 6, 6, 6, 6, 6, 6, 6, 6, 6, 6, 6, 6, 6, 6, 6, 6, 6, 6, 6, 7, 7, 7, 7, 7, 7, 7, 7, 7, 7, 7, 7, 7, 7, 7, 7, 7, 7, 7, 7, 7, 7, 7, 7, 7, 7, 7, 7, 7, 7, 7, 7, 7, 7, 7, 7, 7, 7, 7, 7, 7, 7, 7, 7, 7, 7, 7, 7, 7, 7, 7, 7, 7, 7, 7, 7, 7, 7, 7, 7, 7, 7, 7, 7, 8, 8, 8, 8, 8, 8, 8, 8, 8, 8, 8, 8, 8, 8, 8, 8, 8, 8, 8, 8, 8, 8, 8, 8, 8, 8, 8, 8, 8, 8, 8, 8, 8, 8, 8, 8, 8, 8, 8, 8, 8, 8, 8, 8, 8, 8, 8, 8, 8, 8, 8, 8, 8, 8, 8, 8, 8, 8, 8, 8, 8, 8, 8, 8, 8, 8, 8, 8, 8, 8, 8, 8, 8, 8, 8, 8, 8, 8, 8, 8, 8, 8, 8, 8, 8, 8, 8, 8, 8, 8, 8, 8, 8, 8, 8, 8, 8, 8, 8, 8, 8, 8, 8, 8, 8, 8, 8, 8, 8, 8, 8, 8, 8, 8, 8, 8, 8, 8, 8, 8, 8, 8, 8, 8, 8, 8, 8, 8] : List UInt8).getD x 0).toNat : Nat) : Int)) ∧ (inKind .i64 (0 + (((([0, 1, 2, 2, 3, 3, 3, 3, 4, 4, 4, 4, 4, 4, 4, 4, 5, 5, 5, 5, 5, 5, 5, 5, 5, 5, 5, 5, 5, 5, 5, 5, 6, 6, 6, 6, 6, 6, 6, 6, 6, 6, 6, 6, 6, 6, 6, 6, 6, 6, 6, 6, 6, 6, 6, 6, 6, 6, 6, 6, 6, 6, 6, 6, 7, 7, 7, 7, 7, 7, 7, 7, 7, 7, 7, 7, 7, 7, 7, 7, 7, 7, 7, 7, 7, 7, 7, 7, 7, 7, 7, 7, 7, 7, 7, 7, 7, 7, 7, 7, 7, 7, 7, 7, 7, 7, 7, 7, 7, 7, 7, 7, 7, 7, 7, 7, 7, 7, 7, 7, 7, 7, 7, 7, 7, 7, 7, 7, 8, 8, 8, 8, 8, 8, 8, 8, 8, 8, 8, 8, 8, 8, 8, 8, 8, 8, 8, 8, 8, 8, 8, 8, 8, 8, 8, 8, 8, 8, 8, 8, 8, 8, 8, 8, 8, 8, 8, 8, 8, 8, 8, 8, 8, 8, 8, 8, 8, 8, 8, 8, 8, 8, 8, 8, 8, 8, 8, 8, 8, 8, 8, 8, 8, 8, 8, 8, 8, 8, 8, 8, 8, 8, 8, 8, 8, 8, 8, 8, 8, 8, 8, 8, 8, 8, 8, 8, 8, 8, 8, 8, 8, 8, 8, 8, 8, 8, 8, 8, 8, 8, 8, 8, 8, 8, 8, 8, 8, 8, 8, 8, 8, 8, 8, 8, 8, 8, 8, 8, 8, 8, 8, 8, 8, 8, 8, 8] : List UInt8).getD x 0).toNat : Nat) : Int)))) [(2, n6 (0 + ((([0, 1, 2, 2, 3, 3, 3, 3, 4, 4, 4, 4, 4, 4, 4, 4, 5, 5, 5, 5, 5, 5, 5, 5, 5, 5, 5, 5, 5, 5, 5, 5, 6, 6, 6, 6, 6, 6, 6, 6, 6, 6, 6, 6, 6, 6, 6, 6, 6, 6, 6, 6, 6, 6, 6, 6, 6, 6, 6, 6, 6, 6, 6, 6, 7, 7, 7, 7, 7, 7, 7, 7, 7, 7, 7, 7, 7, 7, 7, 7, 7, 7, 7, 7, 7, 7, 7, 7, 7, 7, 7, 7, 7, 7, 7, 7, 7, 7, 7, 7, 7, 7, 7, 7, 7, 7, 7, 7, 7, 7, 7, 7, 7, 7, 7, 7, 7, 7, 7, 7, 7, 7, 7, 7, 7, 7, 7, 7, 8, 8, 8, 8, 8, 8, 8, 8, 8, 8, 8, 8, 8, 8, 8, 8, 8, 8, 8, 8, 8, 8, 8, 8, 8, 8, 8, 8, 8, 8, 8, 8, 8, 8, 8, 8, 8, 8, 8, 8, 8, 8, 8, 8, 8, 8, 8, 8, 8, 8, 8, 8, 8, 8, 8, 8, 8, 8, 8, 8, 8, 8, 8, 8, 8, 8, 8, 8, 8, 8, 8, 8, 8, 8, 8, 8, 8, 8, 8, 8, 8, 8, 8, 8, 8, 8, 8, 8, 8, 8, 8, 8, 8, 8, 8, 8, 8, 8, 8, 8, 8, 8, 8, 8, 8, 8, 8, 8, 8, 8, 8, 8, 8, 8, 8, 8, 8, 8, 8, 8, 8, 8, 8, 8, 8, 8, 8, 8] : List UInt8).getD x 0).toNat)))] (⟨inK_u8 (by omega), ⟨by omega, Int.lt_of_lt_of_le (show (x : Int) < 256 by omega) (Int.le_of_eq (by kernel_rfl))⟩, inK_i64 (by have hu1 := UInt8.toNat_lt (([0, 1, 2, 2, 3, 3, 3, 3, 4, 4, 4, 4, 4, 4, 4, 4, 5, 5, 5, 5, 5, 5, 5, 5, 5, 5, 5, 5, 5, 5, 5, 5, 6, 6, 6, 6, 6, 6, 6, 6, 6, 6, 6, 6, 6, 6, 6, 6, 6, 6, 6, 6, 6, 6, 6, 6, 6, 6, 6, 6, 6, 6, 6, 6, 7, 7, 7, 7, 7, 7, 7, 7, 7, 7, 7, 7, 7, 7, 7, 7, 7, 7, 7, 7, 7, 7, 7, 7, 7, 7, 7, 7, 7, 7, 7, 7, 7, 7, 7, 7, 7, 7, 7, 7, 7, 7, 7, 7, 7, 7, 7, 7, 7, 7, 7, 7, 7, 7, 7, 7, 7, 7, 7, 7, 7, 7, 7, 7, 8, 8, 8, 8, 8, 8, 8, 8, 8, 8, 8, 8, 8, 8, 8, 8, 8, 8, 8, 8, 8, 8, 8, 8, 8, 8, 8, 8, 8, 8, 8, 8, 8, 8, 8, 8, 8, 8, 8, 8, 8, 8, 8, 8, 8, 8, 8, 8, 8, 8, 8, 8, 8, 8, 8, 8, 8, 8, 8, 8, 8, 8, 8, 8, 8, 8, 8, 8, 8, 8, 8, 8, 8, 8, 8, 8, 8, 8, 8, 8, 8, 8, 8, 8, 8, 8, 8, 8, 8, 8, 8, 8, 8, 8, 8, 8, 8, 8, 8, 8, 8, 8, 8, 8, 8, 8, 8, 8, 8, 8, 8, 8, 8, 8, 8, 8, 8, 8, 8, 8, 8, 8, 8, 8, 8, 8, 8, 8] : List UInt8).getD x 0); omega), inK_i64 (by have hu1 := UInt8.toNat_lt (([0, 1, 2, 2, 3, 3, 3, 3, 4, 4, 4, 4, 4, 4, 4, 4, 5, 5, 5, 5, 5, 5, 5, 5, 5, 5, 5, 5, 5, 5, 5, 5, 6, 6, 6, 6, 6, 6, 6, 6, 6, 6, 6, 6, 6, 6, 6, 6, 6, 6, 6, 6, 6, 6, 6, 6, 6, 6, 6, 6, 6, 6, 6, 6, 7, 7, 7, 7, 7, 7, 7, 7, 7, 7, 7, 7, 7, 7, 7, 7, 7, 7, 7, 7, 7, 7, 7, 7, 7, 7, 7, 7, 7, 7, 7, 7, 7, 7, 7, 7, 7, 7, 7, 7, 7, 7, 7, 7, 7, 7, 7, 7, 7, 7, 7, 7, 7, 7, 7, 7, 7, 7, 7, 7, 7, 7, 7, 7, 8, 8, 8, 8, 8, 8, 8, 8, 8, 8, 8, 8, 8, 8, 8, 8, 8, 8, 8, 8, 8, 8, 8, 8, 8, 8, 8, 8, 8, 8, 8, 8, 8, 8, 8, 8, 8, 8, 8, 8, 8, 8, 8, 8, 8, 8, 8, 8, 8, 8, 8, 8, 8, 8, 8, 8, 8, 8, 8, 8, 8, 8, 8, 8, 8, 8, 8, 8, 8, 8, 8, 8, 8, 8, 8, 8, 8, 8, 8, 8, 8, 8, 8, 8, 8, 8, 8, 8, 8, 8, 8, 8, 8, 8, 8, 8, 8, 8, 8, 8, 8, 8, 8, 8, 8, 8, 8, 8, 8, 8, 8, 8, 8, 8, 8, 8, 8, 8, 8, 8, 8, 8, 8, 8, 8, 8, 8, 8] : List UInt8).getD x 0); omega)⟩) ?_
        refine cd_ret (bot_ret (rv [n6 (0 + ((([0, 1, 2, 2, 3, 3, 3, 3, 4, 4, 4, 4, 4, 4, 4, 4, 5, 5, 5, 5, 5, 5, 5, 5, 5, 5, 5, 5, 5, 5, 5, 5, 6, 6, 6, 6, 6, 6, 6, 6, 6, 6, 6, 6, 6, 6, 6, 6, 6, 6, 6, 6, 6, 6, 6, 6, 6, 6, 6, 6, 6, 6, 6, 6, 7, 7, 7, 7, 7, 7, 7, 7, 7, 7, 7, 7, 7, 7, 7, 7, 7, 7, 7, 7, 7, 7, 7, 7, 7, 7, 7, 7, 7, 7, 7, 7, 7, 7, 7, 7, 7, 7, 7, 7, 7, 7, 7, 7, 7, 7, 7, 7, 7, 7, 7, 7, 7, 7, 7, 7, 7, 7, 7, 7, 7, 7, 7, 7, 8, 8, 8, 8, 8, 8, 8, 8, 8, 8, 8, 8, 8, 8, 8, 8, 8, 8, 8, 8, 8, 8, 8, 8, 8, 8, 8, 8, 8, 8, 8, 8, 8, 8, 8, 8, 8, 8, 8, 8, 8, 8, 8, 8, 8, 8, 8, 8, 8, 8, 8, 8, 8, 8, 8, 8, 8, 8, 8, 8, 8, 8, 8, 8, 8, 8, 8, 8, 8, 8, 8, 8, 8, 8, 8, 8, 8, 8, 8, 8, 8, 8, 8, 8, 8, 8, 8, 8, 8, 8, 8, 8, 8, 8, 8, 8, 8, 8, 8, 8, 8, 8, 8, 8, 8, 8, 8, 8, 8, 8, 8, 8, 8, 8, 8, 8, 8, 8, 8, 8, 8, 8, 8, 8, 8, 8, 8, 8] : List UInt8).getD x 0).toNat))] (n6 (0 + ((([0, 1, 2, 2, 3, 3, 3, 3, 4, 4, 4, 4, 4, 4, 4, 4, 5, 5, 5, 5, 5, 5, 5, 5, 5, 5, 5, 5, 5, 5, 5, 5, 6, 6, 6, 6, 6, 6, 6, 6, 6, 6, 6, 6, 6, 6, 6, 6, 6, 6, 6, 6, 6, 6, 6, 6, 6, 6, 6, 6, 6, 6, 6, 6, 7, 7, 7, 7, 7, 7, 7, 7, 7, 7, 7, 7, 7, 7, 7, 7, 7, 7, 7, 7, 7, 7, 7, 7, 7, 7, 7, 7, 7, 7, 7, 7, 7, 7, 7, 7, 7, 7, 7, 7, 7, 7, 7, 7, 7, 7, 7, 7, 7, 7, 7, 7, 7, 7, 7, 7, 7, 7, 7, 7, 7, 7, 7, 7, 8, 8, 8, 8, 8, 8, 8, 8, 8, 8, 8, 8, 8, 8, 8, 8, 8, 8, 8, 8, 8, 8, 8, 8, 8, 8, 8, 8, 8, 8, 8, 8, 8, 8, 8, 8, 8, 8, 8, 8, 8, 8, 8, 8, 8, 8, 8, 8, 8, 8, 8, 8, 8, 8, 8, 8, 8, 8, 8, 8, 8, 8, 8, 8, 8, 8, 8, 8, 8, 8, 8, 8, 8, 8, 8, 8, 8, 8, 8, 8, 8, 8, 8, 8, 8, 8, 8, 8, 8, 8, 8, 8, 8, 8, 8, 8, 8, 8, 8, 8, 8, 8, 8, 8, 8, 8, 8, 8, 8, 8, 8, 8, 8, 8, 8, 8, 8, 8, 8, 8, 8, 8, 8, 8, 8, 8, 8, 8] : List UInt8).getD x 0).toNat))) ?_))
        refine ⟨0 + ((([0, 1, 2, 2, 3, 3, 3, 3, 4, 4, 4, 4, 4, 4, 4, 4, 5, 5, 5, 5, 5, 5, 5, 5, 5, 5, 5, 5, 5, 5, 5, 5, 6, 6, 6, 6, 6, 6, 6, 6, 6, 6, 6, 6, 6, 6, 6, 6, 6, 6, 6, 6, 6, 6, 6, 6, 6, 6, 6, 6, 6, 6, 6, 6, 7, 7, 7, 7, 7, 7, 7, 7, 7, 7, 7, 7, 7, 7, 7, 7, 7, 7, 7, 7, 7, 7, 7, 7, 7, 7, 7, 7, 7, 7, 7, 7, 7, 7, 7, 7, 7, 7, 7, 7, 7, 7, 7, 7, 7, 7, 7, 7, 7, 7, 7, 7, 7, 7, 7, 7, 7, 7, 7, 7, 7, 7, 7, 7, 8, 8, 8, 8, 8, 8, 8, 8, 8, 8, 8, 8, 8, 8, 8, 8, 8, 8, 8, 8, 8, 8, 8, 8, 8, 8, 8, 8, 8, 8, 8, 8, 8, 8, 8, 8, 8, 8, 8, 8, 8, 8, 8, 8, 8, 8, 8, 8, 8, 8, 8, 8, 8, 8, 8, 8, 8, 8, 8, 8, 8, 8, 8, 8, 8, 8, 8, 8, 8, 8, 8, 8, 8, 8, 8, 8, 8, 8, 8, 8, 8, 8, 8, 8, 8, 8, 8, 8, 8, 8, 8, 8, 8, 8, 8, 8, 8, 8, 8, 8, 8, 8, 8, 8, 8, 8, 8, 8, 8, 8, 8, 8, 8, 8, 8, 8, 8, 8, 8, 8, 8, 8, 8, 8, 8, 8, 8, 8] : List UInt8).getD x 0).toNat), ?_, rfl⟩
        all_goals first | with_reducible rfl | (skip; done) | with_reducible assumption | omega | rfl | (simp_all; done) | (simp_all; omega)

set_option maxRecDepth 100000 in
theorem len_small (C : Ctx) (x : Nat) (hx : Ok (x ≤ 12)) :
    FnT Tryz.prog C 125 #[u6 x] [] (fun rv_ rL_ => ∃ v : Nat, rv_ = n6 v ∧ rL_ = []) := by
  replace hx := hx.h
  refine fE 8 Tryz.func125 rfl ?_
  refine cQ [] (True) [(0, u6 x)] (trivial) ?_
  refine cd_seq ?_
  refine cNo ?_
  refine cd_skip (then_n ?_)
  refine cd_rg ?_
  refine rQ [] [0] [1, 2] (True) [(6, u6 x)] (trivial) ?_
  refine rC 1 [2] [] [] (len64_small C x {}) ?_
  rintro _ _ ⟨v1, rfl, rfl⟩
  refine rQ [] [2] [] (True) [(2, n6 v1)] (trivial) ?_
  refine rF ?_
  refine cd_ret (bot_ret (rv [n6 v1] (n6 v1) ?_))
  refine ⟨v1, ?_, rfl⟩
  all_goals first | with_reducible rfl | (skip; done) | with_reducible assumption | omega | rfl | (simp_all; done) | (simp_all; omega)

set_option maxRecDepth 100000 in
theorem pdq_any (C : Ctx) (b : Nat) (l : Strs) (spare : List Value) (cap : Nat) (fz : Nat × Nat) (v : Nat) (hl : Ok (l.length ≤ 12)) (hz : Ok (fz.2 = 0)) :
    FnT Tryz.prog C 215 #[sl b l.length cap, z6 0, n6 l.length, n6 v] [[(b, .cells (strCells l spare) 9 fz)]] (fun rv_ rL_ => ∃ l1 : Strs, (l1.Perm l ∧ Sorted l1) ∧ rv_ = .tuple #[] ∧ rL_ = [[(b, .cells (strCells l1 spare) 9 fz)]]) := by
  replace hl := hl.h
  replace hz := hz.h
  refine fE 134 Tryz.func215 rfl ?_
  refine cQ [] (True) [(0, sl b l.length cap), (1, z6 0), (2, n6 l.length), (3, n6 v), (8, .bool true)] (trivial) ?_
  refine cQ [] (True) [(0, sl b l.length cap), (1, z6 0), (2, n6 l.length), (3, n6 v), (8, .bool true), (9, .bool true)] (trivial) ?_
  refine cd_block ?_
  refine lp (fun x : Nat => [(0, sl b l.length cap), (1, z6 0), (2, n6 l.length), (3, n6 v), (8, .bool true), (9, .bool true)]) (fun x : Nat => [[(b, .cells (strCells l spare) 9 fz)]]) (fun x : Nat => True) (fun x : Nat => x) (0) (show True from trivial) ?_
  rintro u hI
  replace hI : True := hI
  refine cd_block ?_
  refine cQ [] ((inKind .i64 ((l.length : Int) - 0))) [(0, sl b l.length cap), (1, z6 0), (2, n6 l.length), (3, n6 v), (8, .bool true), (9, .bool true), (10, z6 ((l.length : Int) - 0))] (inK_i64 (by omega)) ?_
  refine cd_seq ?_
  refine cQ [] (True) [(0, sl b l.length cap), (1, z6 0), (2, n6 l.length), (3, n6 v), (8, .bool true), (9, .bool true), (10, z6 ((l.length : Int) - 0)), (23, .bool (decide (((l.length : Int) - 0) ≤ 12)))] (trivial) ?_
  refine cI (decide (((l.length : Int) - 0) ≤ 12)) (fun h1 => ?_) (fun h1 => ?_)
  · have h1p : ((l.length : Int) - 0) ≤ 12 := by simpa using h1
    refine cd_rg ?_
    refine rQ [] [0, 1, 2] [3] (True) [(24, sl b l.length cap), (25, z6 0), (26, n6 l.length)] (trivial) ?_
    refine rC 3 [] [0] [] (insertionSort_any C b l spare cap fz {} {}) ?_
    rintro _ _ ⟨l1_1, hf1, rfl, rfl⟩
    refine rD [] ?_
    refine cd_ret (then_ret (block_ret (then_ret (block_ret (bot_ret (rv [] (.tuple #[]) ?_))))))
    refine ⟨l1_1, ?_, ?_, rfl⟩
    all_goals first | with_reducible rfl | (assumption; done) | with_reducible assumption | omega | rfl | (simp_all; done) | (simp_all; omega)
  · have h1p : ¬ (((l.length : Int) - 0) ≤ 12) := by simpa using h1
    exfalso; omega

set_option maxRecDepth 100000 in
theorem sort_own (C : Ctx) (b : Nat) (l : Strs) (spare : List Value) (cap : Nat) (fz : Nat × Nat) (hl : Ok (l.length ≤ 12)) (hz : Ok (fz.2 = 0)) :
    FnT Tryz.prog C 163 #[sl b l.length cap] [[(b, .cells (strCells l spare) 9 fz)]] (fun rv_ rL_ => ∃ l1 : Strs, (l1.Perm l ∧ Sorted l1) ∧ rv_ = .tuple #[] ∧ rL_ = [[(b, .cells (strCells l1 spare) 9 fz)]]) := by
  replace hl := hl.h
  replace hz := hz.h
  refine fE 11 Tryz.func163 rfl ?_
  refine cQ [] (True) [(0, sl b l.length cap), (2, n6 l.length)] (trivial) ?_
  refine cd_region ?_
  refine rQ [] [0, 1, 2, 3] [4, 5] ((inKind .u64 (l.length : Int))) [(5, sl b l.length cap), (6, n6 l.length), (8, u6 l.length)] (inK_u64 (by omega)) ?_
  refine rC 4 [5] [] [[(b, .cells (strCells l spare) 9 fz)]] (len_small C l.length {}) ?_
  rintro _ _ ⟨v1, rfl, rfl⟩
  refine rC 5 [] [0] [] (pdq_any C b l spare cap fz v1 {} {}) ?_
  rintro _ _ ⟨l1_1, hf1, rfl, rfl⟩
  refine rg_nil ?_
  refine (bot_n (rv [] (.tuple #[]) ?_))
  refine ⟨l1_1, ?_, ?_, rfl⟩
  all_goals first | with_reducible rfl | (assumption; done) | with_reducible assumption | omega | rfl | (simp_all; done) | (simp_all; omega)

set_option maxRecDepth 100000 in
theorem insertionSort_nil (C : Ctx)  :
    FnT Tryz.prog C 251 #[.slice none 0 0, z6 0, z6 0] [] (fun rv_ rL_ => rv_ = .tuple #[] ∧ rL_ = []) := by
  refine fE 49 Tryz.func251 rfl ?_
  refine cQ [] ((inKind .i64 ((0 : Int) + (1 : Int)))) [(0, .slice none 0 0), (1, z6 0), (2, z6 0), (6, z6 1)] (inK_i64 (by omega)) ?_
  refine cd_block ?_
  refine lp (fun x : Nat => [(0, .slice none 0 0), (1, z6 0), (2, z6 0), (6, z6 1)]) (fun x : Nat => []) (fun x : Nat => True) (fun x : Nat => x) (0) (show True from trivial) ?_
  rintro u hI
  replace hI : True := hI
  refine cd_seq ?_
  refine cQ [] (True) [(0, .slice none 0 0), (1, z6 0), (2, z6 0), (6, z6 1), (12, .bool false)] (trivial) ?_
  refine cNo ?_
  refine cd_exit (then_exit (then_exit (block_hit (bot_n (rv [] (.tuple #[]) ?_)))))
  refine ⟨?_, rfl⟩
  all_goals first | with_reducible rfl | (skip; done) | with_reducible assumption | omega | rfl | (simp_all; done) | (simp_all; omega)

set_option maxRecDepth 100000 in
theorem pdq_nil (C : Ctx) (v : Nat) :
    FnT Tryz.prog C 215 #[.slice none 0 0, z6 0, z6 0, n6 v] [] (fun rv_ rL_ => rv_ = .tuple #[] ∧ rL_ = []) := by
  refine fE 134 Tryz.func215 rfl ?_
  refine cQ [] (True) [(0, .slice none 0 0), (1, z6 0), (2, z6 0), (3, n6 v), (8, .bool true)] (trivial) ?_
  refine cQ [] (True) [(0, .slice none 0 0), (1, z6 0), (2, z6 0), (3, n6 v), (8, .bool true), (9, .bool true)] (trivial) ?_
  refine cd_block ?_
  refine lp (fun x : Nat => [(0, .slice none 0 0), (1, z6 0), (2, z6 0), (3, n6 v), (8, .bool true), (9, .bool true)]) (fun x : Nat => []) (fun x : Nat => True) (fun x : Nat => x) (0) (show True from trivial) ?_
  rintro u hI
  replace hI : True := hI
  refine cd_block ?_
  refine cQ [] ((inKind .i64 ((0 : Int) - (0 : Int)))) [(0, .slice none 0 0), (1, z6 0), (2, z6 0), (3, n6 v), (8, .bool true), (9, .bool true), (10, z6 0)] (inK_i64 (by omega)) ?_
  refine cd_seq ?_
  refine cQ [] (True) [(0, .slice none 0 0), (1, z6 0), (2, z6 0), (3, n6 v), (8, .bool true), (9, .bool true), (10, z6 0), (23, .bool true)] (trivial) ?_
  refine cYes ?_
  refine cd_rg ?_
  refine rQ [] [0, 1, 2] [3] (True) [(24, .slice none 0 0), (25, z6 0), (26, z6 0)] (trivial) ?_
  refine rC 3 [] [] [] (insertionSort_nil C) ?_
  rintro _ _ ⟨rfl, rfl⟩
  refine rD [] ?_
  refine cd_ret (then_ret (block_ret (then_ret (block_ret (bot_ret (rv [] (.tuple #[]) ?_))))))
  refine ⟨?_, rfl⟩
  all_goals first | with_reducible rfl | (skip; done) | with_reducible assumption | omega | rfl | (simp_all; done) | (simp_all; omega)

set_option maxRecDepth 100000 in
theorem sort_nil (C : Ctx)  :
    FnT Tryz.prog C 163 #[.slice none 0 0] [] (fun rv_ rL_ => rv_ = .tuple #[] ∧ rL_ = []) := by
  refine fE 11 Tryz.func163 rfl ?_
  refine cQ [] (True) [(0, .slice none 0 0), (2, z6 0)] (trivial) ?_
  refine cd_region ?_
  refine rQ [] [0, 1, 2, 3] [4, 5] ((inKind .u64 (0 : Int))) [(5, .slice none 0 0), (6, z6 0), (8, .int .u64 0)] (inK_u64 (by omega)) ?_
  refine rC 4 [5] [] [] (len_small C 0 {}) ?_
  rintro _ _ ⟨v1, rfl, rfl⟩
  refine rC 5 [] [] [] (pdq_nil C v1) ?_
  rintro _ _ ⟨rfl, rfl⟩
  refine rg_nil ?_
  refine (bot_n (rv [] (.tuple #[]) ?_))
  refine ⟨?_, rfl⟩
  all_goals first | with_reducible rfl | (skip; done) | with_reducible assumption | omega | rfl | (simp_all; done) | (simp_all; omega)

theorem sort_any (C : Ctx) (a : Option Addr) (cap : Nat) (l : Strs) (L : Blks) (hL : RowZ 9 1 a l.length cap (l.flatMap strv) L) (hl : l.length ≤ 12) :
    FnT Tryz.prog C 163 #[.slice a l.length cap] [L] (fun v L' => ∃ (l1 : Strs) (L1 : Blks), RowZ 9 1 a l1.length cap (l1.flatMap strv) L1 ∧ (l1.Perm l ∧ Sorted l1) ∧ v = .tuple #[] ∧ L' = [L1]) := by
  intro w F hw
  rcases hL with ⟨rfl, hn, rfl, hx, rfl⟩ | ⟨b, spare, fz, rfl, hc, h1, h2, h3, rfl⟩
  · have hl0 : l = [] := List.length_eq_zero_iff.1 hn
    subst hl0
    refine (sort_nil C w F (by simpa using hw)).mono ?_
    rintro e w' ⟨v, L', rfl, ho, rfl, rfl⟩
    exact ⟨_, [[]], rfl, by simpa using ho, [], [], RowZ.nil 9 1, ⟨List.Perm.refl _, List.Pairwise.nil⟩, rfl, rfl⟩
  · have hz : fz.2 = 0 := by omega
    rw [Nat.mul_one] at h2
    refine (sort_own C b l spare cap fz ⟨hl⟩ ⟨hz⟩ w F (by simpa [strCells] using hw)).mono ?_
    rintro e w' ⟨v, L', rfl, ho, l1, hp, rfl, rfl⟩
    have hlen := hp.1.length_eq
    rw [strv_flat, List.length_append, List.length_map] at h2
    refine ⟨_, [[(b, .cells (strCells l1 spare) 9 fz)]], rfl, ho, l1, _, .inr ⟨b, spare, fz, rfl, hc, by rw [strv_flat]; simp, by rw [strv_flat, List.length_append, List.length_map]; omega, by omega, rfl⟩, hp, rfl, rfl⟩

set_option maxRecDepth 100000 in
theorem keys_fn (C : Ctx) (m : Nat) :
    FnT Tryz.prog C 117 #[.map (some m)] [] (fun rv_ rL_ => ∃ b : Nat, rv_ = .func (.func 164) #[] #[p0 b] ∧ rL_ = [bk b 121 #[.map (some m)]]) := by
  refine fE 4 Tryz.func117 rfl ?_
  refine cd_rg ?_
  refine rQ [] [] [0, 1] (True) [(0, .map (some m))] (trivial) ?_
  refine rN 0 [1] (.cells #[.map (some m)] 121 (0, 0)) p0 (fun b1 => ?_)
  refine rQ [] [1] [] (True) [(1, p0 b1)] (trivial) ?_
  refine rF ?_
  refine cQ [] (True) [(2, .func (.func 164) #[] #[p0 b1])] (trivial) ?_
  refine cd_ret (bot_ret (rv [.func (.func 164) #[] #[p0 b1]] (.func (.func 164) #[] #[p0 b1]) ?_))
  refine ⟨b1, ?_, rfl⟩
  all_goals first | with_reducible rfl | (skip; done) | with_reducible assumption | omega | rfl | (simp_all; done) | (simp_all; omega)

set_option maxRecDepth 100000 in
theorem keys_raw (C : Ctx) (fs : Files) (m : Nat) (b : Nat) (g : Fn) (c1 : Array Value) (c2 : Array Value) (I : List (List UInt8) → Blks → Prop) (S : Blks → Prop) (Y : Blks) (Lm : Blks) (hY : I [] Y) (hm : MapL fileV m fs Lm) (hy : Ok (∀ pre x ar X Y, KeysN fs pre x → StrEnc x ar X → I pre Y → ValT Tryz.prog C (.func g c1 c2) ar [Y, X] (fun v L => ∃ Y', L = [Y'] ∧ ((v = .bool true ∧ I (pre ++ [x]) Y') ∨ (v = .bool false ∧ S Y'))))) :
    FnT Tryz.prog C 164 #[.func g c1 c2, p0 b] [Y, bk b 121 #[.map (some m)], Lm] (fun rv_ rL_ => ∃ Y1 : Blks, ((∃ pre, pre.Perm (fs.map Prod.fst) ∧ I pre Y1) ∨ S Y1) ∧ rv_ = .tuple #[] ∧ rL_ = [Y1, bk b 121 #[.map (some m)], Lm]) := by
  replace hy := hy.h
  refine fE 14 Tryz.func164 rfl ?_
  refine cd_rg ?_
  refine rQ [(0, .at 1)] [0] [1] ((b = b)) [(0, .func g c1 c2), (4, .map (some m))] (rfl) ?_
  refine rX 1 [] (do pure (.value (← Instr.range 121 (.map (some m))))) [2] [Lm] [Y, bk b 121 #[.map (some m)]] (gv_range (enc := fileV) (by kernel_rfl) hm) ?_
  rintro _ _ ⟨it1, L1, rfl, rfl, h1⟩
  refine rD [(0, .func g c1 c2), (5, p0 it1)] ?_
  refine cd_block ?_
  refine lp (fun x : (List (List UInt8)) × Blks × Blks => [(0, .func g c1 c2), (5, p0 it1)]) (fun x : (List (List UInt8)) × Blks × Blks => [x.2.2, x.2.1, bk b 121 #[.map (some m)]]) (fun x : (List (List UInt8)) × Blks × Blks => I x.1 x.2.1 ∧ KeysI fs x.1 ∧ MapIt fileV it1 m fs x.1 Lm x.2.2) (fun x : (List (List UInt8)) × Blks × Blks => fs.length - x.1.length) (([], Y, L1)) (show I [] Y ∧ KeysI fs [] ∧ MapIt fileV it1 m fs [] Lm L1 from ⟨hY, KeysI.start fs, h1⟩) ?_
  rintro ⟨pre, Y2, Lr⟩ hI
  replace hI : I pre Y2 ∧ KeysI fs pre ∧ MapIt fileV it1 m fs pre Lm Lr := hI
  obtain ⟨hY2, hI, hT⟩ := hI
  refine cd_rg ?_
  refine rQ [] [] [0, 1] (True) [(0, .func g c1 c2), (5, p0 it1)] (trivial) ?_
  refine rX 0 [1] (do pure (.value (← Instr.next (p0 it1) false 0))) [0] [Lr] [Y2, bk b 121 #[.map (some m)]] (gv_next 0 hT) ?_
  rintro _ _ (⟨rfl, rfl, hx1⟩ | ⟨k1, e1, L2, hm1, hp1, rfl, rfl, h2⟩)
  ·
    refine rQ [] [1] [] (True) [(0, .func g c1 c2), (5, p0 it1), (7, .bool false)] (trivial) ?_
    refine rF ?_
    refine cd_seq ?_
    refine cNo ?_
    obtain ⟨ob1, rfl⟩ := hT.split
    refine cd_part 0 [(it1, ob1)] Lm [Y2, bk b 121 #[.map (some m)]] (by kernel_rfl) ?_
    refine cT [1, 1, 0] [Y2, bk b 121 #[.map (some m)], Lm] ?_
    refine cd_exit (then_exit (then_exit (block_hit (bot_n (rv [] (.tuple #[]) ?_)))))
    refine ⟨Y2, ?_, ?_, rfl⟩
    all_goals first | with_reducible rfl | (exact .inl ⟨_, hI.done hm.nodup (by assumption), hY2⟩; done) | (exact .inr (by assumption); done) | with_reducible assumption | omega | rfl | (simp_all; done) | (simp_all; omega)
  ·
    refine rQ [] [1] [] (True) [(0, .func g c1 c2), (5, p0 it1), (7, .bool true)] (trivial) ?_
    refine rF ?_
    refine cd_seq ?_
    refine cYes ?_
    refine cd_skip (then_n ?_)
    refine cd_block ?_
    refine cd_rg ?_
    refine rQ [] [] [0, 1, 2] (True) [(0, .func g c1 c2), (5, p0 it1)] (trivial) ?_
    refine rX 0 [1, 2] (do pure (.value (← Instr.entry (p0 it1)))) [0] [L2] [Y2, bk b 121 #[.map (some m)]] (gv_entry hm1 h2) ?_
    rintro _ _ ⟨rfl, rfl⟩
    refine rQ [] [1, 2] [] (True) [(0, .func g c1 c2), (3, str k1), (5, p0 it1)] (trivial) ?_
    refine rF ?_
    refine cd_rg ?_
    refine rQ [] [0, 1] [2, 3] (True) [(0, .func g c1 c2), (5, p0 it1), (10, .func g c1 c2), (11, str k1)] (trivial) ?_
    refine rg_more ?_
    refine rV 2 [3] [1, 2] [L2, bk b 121 #[.map (some m)]] (hy pre k1 _ _ Y2 (hI.tell hm1 hp1) ⟨rfl, rfl⟩ hY2) ?_
    rintro _ _ ⟨Y1, rfl, ⟨rfl, hY1⟩ | ⟨rfl, hY1⟩⟩
    ·
      refine rQ [] [3] [] (True) [(0, .func g c1 c2), (5, p0 it1), (13, .bool false)] (trivial) ?_
      refine rF ?_
      refine cNo ?_
      refine cT [1, 0, 0] [L2, Y1, bk b 121 #[.map (some m)]] ?_
      refine cd_skip (block_n (lM ((pre ++ [k1], Y1, L2)) (show I (pre ++ [k1]) Y1 ∧ KeysI fs (pre ++ [k1]) ∧ MapIt fileV it1 m fs (pre ++ [k1]) Lm L2 from ⟨hY1, hI.next hm1 hp1, h2⟩) (show (fs.length - (pre ++ [k1]).length) < (fs.length - pre.length) by have h9 := (hI.next (by assumption) (by assumption)).len; simp only [List.length_append, List.length_cons, List.length_nil] at h9 ⊢; omega)))
    ·
      refine rQ [] [3] [] (True) [(0, .func g c1 c2), (5, p0 it1), (13, .bool true)] (trivial) ?_
      refine rF ?_
      refine cYes ?_
      obtain ⟨ob2, rfl⟩ := h2.split
      refine cd_part 1 [(it1, ob2)] Lm [Y1, bk b 121 #[.map (some m)]] (by kernel_rfl) ?_
      refine cT [1, 1, 0] [Y1, bk b 121 #[.map (some m)], Lm] ?_
      refine cd_ret (block_ret (then_ret (block_ret (bot_ret (rv [] (.tuple #[]) ?_)))))
      refine ⟨Y1, ?_, ?_, rfl⟩
      all_goals first | with_reducible rfl | (exact .inl ⟨_, hI.done hm.nodup (by assumption), hY2⟩; done) | (exact .inr (by assumption); done) | with_reducible assumption | omega | rfl | (simp_all; done) | (simp_all; omega)

theorem keys_iter (C : Ctx) (fs : Files) (m b : Nat) (Lm : Blks) (hm : MapL fileV m fs Lm) :
    IterT Tryz.prog C 164 #[] #[.pointer (some ⟨b, 0, none⟩)] [[(b, .cells #[.map (some m)] 121 (0, 0))], Lm] StrEnc (KeysN fs) (fun pre => pre.Perm (fs.map Prod.fst)) := by
  intro g c1 c2 I S hy Y hY
  refine FnT.mono (keys_raw C fs m b g c1 c2 I S Y Lm hY hm ⟨hy⟩) ?_
  rintro v L ⟨Y1, h1, rfl, rfl⟩
  exact ⟨rfl, Y1, rfl, h1⟩

set_option maxRecDepth 100000 in
theorem appendSeqS_any (C : Ctx) (f : Nat) (first : Array Value) (capt : Array Value) (N : Strs → List UInt8 → Prop) (Z : Strs → Prop) (La : Blks) (Lb : Blks) (hgo : Ok (goes Tryz.prog f = true)) (hit : Ok (IterT Tryz.prog C f first capt [La, Lb] StrEnc N Z)) (hcount : Ok (∀ pre x, N pre x → pre.length ≤ 1073741824)) :
    FnT Tryz.prog C 214 #[.slice none 0 0, .func (.func f) first capt] [La, Lb] (fun rv_ rL_ => ∃ l : Strs, ∃ a : Option Addr, ∃ cap : Nat, ∃ L1 : Blks, (RowZ 9 1 a l.length cap (l.flatMap strv) L1) ∧ (Z l) ∧ rv_ = .slice a l.length cap ∧ rL_ = [L1, La, Lb]) := by
  replace hgo := hgo.h
  replace hit := hit.h
  replace hcount := hcount.h
  refine fE 13 Tryz.func214 rfl ?_
  refine cd_rg ?_
  refine rQ [] [] [0, 1] (True) [(0, .slice none 0 0), (1, .func (.func f) first capt)] (trivial) ?_
  refine rN 0 [1] (.cells #[.slice none 0 0] 133 (0, 0)) p0 (fun b1 => ?_)
  refine rQ [] [1] [] (True) [(1, .func (.func f) first capt), (2, p0 b1)] (trivial) ?_
  refine rF ?_
  refine cd_seq ?_
  refine cQ [] (True) [(2, p0 b1), (6, .func (.func f) first capt)] (trivial) ?_
  refine cd_block ?_
  refine cd_more ?_
  refine cd_rangeFunc (α := List UInt8) (fun (pre_ : List (List UInt8)) L => ∃ l : Strs, ∃ a : Option Addr, ∃ cap : Nat, ∃ Lr : Blks, L = [bk b1 133 #[.slice a l.length cap], Lr] ∧ (l = pre_ ∧ RowZ 9 1 a l.length cap (l.flatMap strv) Lr)) (fun (e : Exit) (L : List Blks) => False) [2, 2] [0, 0] [bk b1 133 #[.slice none 0 0], []] [] [La, Lb] (hit) (by kernel_rfl) (hgo) (by kernel_rfl) (by kernel_rfl) (by kernel_rfl) (⟨[], none, 0, [], rfl, show ([] : Strs) = [] ∧ RowZ 9 1 none ([] : Strs).length 0 (([] : Strs).flatMap strv) [] from ⟨rfl, RowZ.nil 9 1⟩⟩) ?_ ?_ ?_
  · rintro l_ pre x ar X L hN ⟨rfl, rfl⟩ ⟨l, a, cap, Lr, rfl, hI⟩
    refine ⟨rfl, ?_⟩
    refine cE [(2, p0 b1), (7, str x)] [[], bk b1 133 #[.slice a l.length cap], Lr] ?_
    have hpl := hcount _ _ hN
    obtain ⟨hm, hR⟩ := hI
    have hlen : l.length = pre.length := by rw [hm]
    refine cQ0 [] (True) [(2, p0 b1), (5, str x)] (trivial) ?_
    refine (body_n ?_)
    refine cd_block ?_
    refine cd_region ?_
    refine rQ [(0, .at 1)] [0, 1] [2, 3, 4] ((b1 = b1)) [(2, p0 b1), (8, .slice a l.length cap), (9, str x)] (rfl) ?_
    refine rN 2 [3, 4] (.cells #[str x] 9 (0, 0)) (fun b2 => sl b2 1 1) (fun b2 => ?_)
    refine rX 3 [4] (do pure (.value (← Builtin.append_ #[133, 133] 133 #[.slice a l.length cap, sl b2 1 1]))) [2, 2] [Lr, bk b2 9 #[str x]] [[], bk b1 133 #[.slice a l.length cap]] (gv_pushZ (bytes := 16) (l := l) (enc := strv) x 133 (by kernel_rfl) hR rfl rfl (by kernel_rfl) (by omega) (by omega)) ?_
    rintro _ _ ⟨a1, cap1, L1, rfl, rfl, h1⟩
    refine rS [(4, .at 2)] [4] [] ((b1 = b1)) [] [L1, [], bk b1 133 #[.slice a1 ((l ++ [x]).length) cap1]] (rfl) ?_
    refine rT [2, 0] [bk b1 133 #[.slice a1 ((l ++ [x]).length) cap1], L1] ?_
    refine rg_nil ?_
    refine (block_n (round_n ⟨l ++ [x], a1, cap1, L1, rfl, show (l ++ [x]) = (pre ++ [x]) ∧ RowZ 9 1 a1 (l ++ [x]).length cap1 ((l ++ [x]).flatMap strv) L1 from ⟨by rw [hm], h1⟩⟩))
  · rintro r1 pre _ hZ ⟨l, a, cap, Lr, rfl, hI⟩
    obtain ⟨hm, hR⟩ := hI
    show ∀ a, Agr _ _ _ a → _
    refine (block_n (then_n ?_))
    refine cQ [(0, .at 0)] ((b1 = b1)) [(4, .slice a l.length cap)] (rfl) ?_
    refine cd_ret (bot_ret (ret_mark 4 r1 (by kernel_rfl) (rvD [.slice a l.length cap] (.slice a l.length cap) [1, 1, 1] [Lr, La, Lb] ?_)))
    refine ⟨l, a, cap, Lr, hR, ?_, ?_, rfl⟩
    all_goals first | with_reducible rfl | (exact hm ▸ hZ; done) | with_reducible assumption | omega | rfl | (simp_all; done) | (simp_all; omega)
  · rintro r e L h; exact h.elim

set_option maxRecDepth 100000 in
theorem collectS_any (C : Ctx) (f : Nat) (first : Array Value) (capt : Array Value) (N : Strs → List UInt8 → Prop) (Z : Strs → Prop) (La : Blks) (Lb : Blks) (hgo : Ok (goes Tryz.prog f = true)) (hit : Ok (IterT Tryz.prog C f first capt [La, Lb] StrEnc N Z)) (hcount : Ok (∀ pre x, N pre x → pre.length ≤ 1073741824)) :
    FnT Tryz.prog C 162 #[.func (.func f) first capt] [La, Lb] (fun rv_ rL_ => ∃ l : Strs, ∃ a : Option Addr, ∃ cap : Nat, ∃ L1 : Blks, (RowZ 9 1 a l.length cap (l.flatMap strv) L1) ∧ (Z l) ∧ rv_ = .slice a l.length cap ∧ rL_ = [L1, La, Lb]) := by
  replace hgo := hgo.h
  replace hit := hit.h
  replace hcount := hcount.h
  refine fE 5 Tryz.func162 rfl ?_
  refine cQ [] (True) [(0, .func (.func f) first capt)] (trivial) ?_
  refine cd_rg ?_
  refine rQ [] [0] [1, 2] (True) [(3, .func (.func f) first capt)] (trivial) ?_
  refine rC 1 [2] [0, 0] [] (appendSeqS_any C f first capt N Z La Lb ⟨by exact hgo⟩ ⟨by exact hit⟩ ⟨by exact hcount⟩) ?_
  rintro _ _ ⟨l1, a1, cap1, L1_1, h1, (hf1 : Z l1), rfl, rfl⟩
  refine rQ [] [2] [] (True) [(2, .slice a1 l1.length cap1)] (trivial) ?_
  refine rF ?_
  refine cd_ret (bot_ret (rv [.slice a1 l1.length cap1] (.slice a1 l1.length cap1) ?_))
  refine ⟨l1, a1, cap1, L1_1, h1, ?_, ?_, rfl⟩
  all_goals first | with_reducible rfl | (skip; done) | with_reducible assumption | omega | rfl | (simp_all; done) | (simp_all; omega)

set_option maxRecDepth 100000 in
theorem sorted_any (C : Ctx) (f : Nat) (first : Array Value) (capt : Array Value) (N : Strs → List UInt8 → Prop) (Z : Strs → Prop) (La : Blks) (Lb : Blks) (hgo : Ok (goes Tryz.prog f = true)) (hit : Ok (IterT Tryz.prog C f first capt [La, Lb] StrEnc N Z)) (hcount : Ok (∀ pre x, N pre x → pre.length ≤ 1073741824)) (h12 : Ok (∀ l, Z l → l.length ≤ 12)) :
    FnT Tryz.prog C 116 #[.func (.func f) first capt] [La, Lb] (fun rv_ rL_ => ∃ l : Strs, ∃ a : Option Addr, ∃ cap : Nat, ∃ L1 : Blks, (RowZ 9 1 a l.length cap (l.flatMap strv) L1) ∧ (∃ l0, Z l0 ∧ l.Perm l0 ∧ Sorted l) ∧ rv_ = .slice a l.length cap ∧ rL_ = [L1, La, Lb]) := by
  replace hgo := hgo.h
  replace hit := hit.h
  replace hcount := hcount.h
  replace h12 := h12.h
  refine fE 9 Tryz.func116 rfl ?_
  refine cQ [] (True) [(0, .func (.func f) first capt)] (trivial) ?_
  refine cd_rg ?_
  refine rQ [] [0] [1, 2] (True) [(4, .func (.func f) first capt)] (trivial) ?_
  refine rC 1 [2] [0, 0] [] (collectS_any C f first capt N Z La Lb ⟨by exact hgo⟩ ⟨by exact hit⟩ ⟨by exact hcount⟩) ?_
  rintro _ _ ⟨l1, a1, cap1, L1_1, h1, (hf1 : Z l1), rfl, rfl⟩
  refine rQ [] [2] [] (True) [(3, .slice a1 l1.length cap1)] (trivial) ?_
  refine rF ?_
  refine cd_rg ?_
  refine rQ [] [0] [1] (True) [(3, .slice a1 l1.length cap1), (6, .slice a1 l1.length cap1)] (trivial) ?_
  refine rC 1 [] [0] [La, Lb] (sort_any C a1 cap1 l1 L1_1 h1 (by first | (exact h12 _ (by assumption); done) | exact Ok.h {})) ?_
  rintro _ _ ⟨l1_1, L1_2, h2, hf2, rfl, rfl⟩
  refine rD [(3, .slice a1 l1.length cap1)] ?_
  have hlen2 : l1.length = l1_1.length := hf2.1.length_eq.symm
  rw [hlen2]
  refine cQ [] (True) [(2, .slice a1 l1_1.length cap1)] (trivial) ?_
  refine cd_ret (bot_ret (rv [.slice a1 l1_1.length cap1] (.slice a1 l1_1.length cap1) ?_))
  refine ⟨l1_1, a1, cap1, L1_2, h2, ?_, ?_, rfl⟩
  all_goals first | with_reducible rfl | (exact ⟨_, by assumption, by assumption⟩; done) | with_reducible assumption | omega | rfl | (simp_all; done) | (simp_all; omega)
end Go.Proofs
