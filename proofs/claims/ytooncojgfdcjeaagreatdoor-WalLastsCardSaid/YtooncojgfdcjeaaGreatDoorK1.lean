/- Walks: records that are laid. No condition. -/
import Derived.Test.YtooncojgfdcjeaaGreatDoorJ1
import Derived.Test.YtooncojgfdcjeaaGreatDoorProg
namespace Go.Proofs
open Go Go.Sep
set_option maxRecDepth 100000 in
theorem sum_any2 (C : Ctx) (k : Nat) (s : List UInt8) (hs : Ok (s.length ≤ 1099511627776)) (hk : Ok (k ≤ 4)) :
    FnT Tryz.prog C 161 #[u1 k, str s] [] (fun rv_ rL_ => rv_ = u3 (crcMask (crcOf ([UInt8.ofNat k] ++ s))) ∧ rL_ = []) := by
  replace hs := hs.h
  replace hk := hk.h
  have ho := crcOf_lt ([UInt8.ofNat k] ++ s)
  refine fE 12 Tryz.func161 rfl ?_
  refine cQ [] (True) [(0, u1 k), (1, str s)] (trivial) ?_
  refine cd_rg ?_
  refine rQ [] [0] [1, 2, 3, 4, 5, 6, 7] (True) [(1, str s), (5, u1 k)] (trivial) ?_
  refine rN 1 [2, 3, 4, 5, 6, 7] (.cells #[u1 k] 5 (0, 0)) (fun b1 => sl b1 1 1) (fun b1 => ?_)
  refine rX 2 [3, 4, 5, 6, 7] (do pure (.value (← convert 189 9 (sl b1 1 1)))) [0] [bk b1 5 #[u1 k]] [] (gv_conv (by kernel_rfl) (gv_bytes [(k : Int)] rfl rfl)) ?_
  rintro _ _ ⟨rfl, rfl⟩
  refine rQ [] [3, 4] [5, 6, 7] (([UInt8.ofNat k].length + s.length ≤ 9223372036854775807)) [(9, str ([UInt8.ofNat k] ++ s))] (by first | omega | (simp only [List.length_append, List.length_cons, List.length_nil]; omega) | (simp; omega)) ?_
  refine rC 5 [6, 7] [] [bk b1 5 #[u1 k]] (of_any C ([UInt8.ofNat k] ++ s) {}) ?_
  rintro _ _ ⟨rfl, rfl⟩
  refine rC 6 [7] [] [bk b1 5 #[u1 k]] (mask_any C (crcOf ([UInt8.ofNat k] ++ s)) {}) ?_
  rintro _ _ ⟨rfl, rfl⟩
  refine rQ [] [7] [] (True) [(4, u3 (crcMask (crcOf ([UInt8.ofNat k] ++ s))))] (trivial) ?_
  refine rF ?_
  refine cT [] [] ?_
  refine cd_ret (bot_ret (rv [u3 (crcMask (crcOf ([UInt8.ofNat k] ++ s)))] (u3 (crcMask (crcOf ([UInt8.ofNat k] ++ s)))) ?_))
  refine ⟨?_, rfl⟩
  all_goals first | with_reducible rfl | (skip; done) | with_reducible assumption | omega | rfl | (simp_all; done) | (simp_all; omega)

set_option maxRecDepth 100000 in
theorem piece_any (C : Ctx) (k : Nat) (s : List UInt8) (hs : Ok (s.length ≤ 1099511627776)) (hk : Ok (k ≤ 4)) :
    FnT Tryz.prog C 113 #[u1 k, str s] [] (fun rv_ rL_ => rv_ = str (pieceB k s) ∧ rL_ = []) := by
  replace hs := hs.h
  replace hk := hk.h
  have hm := crcMask_lt (crcOf ([UInt8.ofNat k] ++ s))
  refine fE 22 Tryz.func113 rfl ?_
  refine cQ [] (True) [(0, u1 k), (1, str s)] (trivial) ?_
  refine dr [] [] [] 18 ?_
  refine aS [(6, .nat), (9, .nat), (10, .nat)] [0, 1, 4, 7, 11, 15, 5, 8, 6, 9, 10] ((0 ≤ (s.length : Int) ∧ IntKind.signed .u8 = false) ∧ (0 ≤ (s.length : Int) ∧ 0 ≤ (8 : Int) ∧ (8 : Int) ≤ (IntKind.bits .i64 : Int)) ∧ (0 ≤ ((s.length / 2 ^ 8 : Nat) : Int) ∧ IntKind.signed .u8 = false)) [(5, u1 k), (6, str s), (11, u1 (s.length % 2 ^ 8)), (15, u1 ((s.length / 2 ^ 8) % 2 ^ 8)), (16, u1 k), (20, str s)] (bm 18 36851) 7 (⟨⟨Int.natCast_nonneg _, rfl⟩, ⟨by omega, by omega, by simp only [IntKind.bits]; omega⟩, ⟨Int.natCast_nonneg _, rfl⟩⟩) ?_
  refine aII (i := 2) (j := 12) ?_ ?_
  ·
    refine xC [] [] [7, 11, 15, 16, 20] (bm 18 36855) (sum_any2 C k s ⟨by first | ((simp only [little_len, List.length_append, List.length_cons, List.length_nil]; omega); done) | exact Ok.h {}⟩ ⟨by first | ((simp only [little_len, List.length_append, List.length_cons, List.length_nil]; omega); done) | exact Ok.h {}⟩) ?_
    rintro _ _ ⟨rfl, rfl⟩
    refine aII (i := 3) (j := 12) ?_ ?_
    ·
      refine xC [] [] [8, 11, 15, 16, 20] (bm 18 36863) (fixed_any2 C (crcMask (crcOf ([UInt8.ofNat k] ++ s))) ⟨by first | ((simp only [little_len, List.length_append, List.length_cons, List.length_nil]; omega); done) | exact Ok.h {}⟩) ?_
      rintro _ _ ⟨rfl, rfl⟩
      refine aI (i := 12) ?_
      refine xN (.cells #[u1 (s.length % 2 ^ 8), u1 ((s.length / 2 ^ 8) % 2 ^ 8), u1 k] 5 (0, 0)) (fun b1 => sl b1 3 3) [8, 17, 20] (bm 18 40959) (fun b1 => ?_)
      refine aI (i := 13) ?_
      refine xX (do pure (.value (← convert 189 9 (sl b1 3 3)))) [0] [bk b1 5 #[u1 (s.length % 2 ^ 8), u1 ((s.length / 2 ^ 8) % 2 ^ 8), u1 k]] [] [8, 18, 20] (bm 18 49151) (gv_conv (by kernel_rfl) (gv_bytes [((s.length % 2 ^ 8 : Nat) : Int), (((s.length / 2 ^ 8) % 2 ^ 8 : Nat) : Int), (k : Int)] rfl rfl)) ?_
      rintro _ _ ⟨rfl, rfl⟩
      refine aS [] [14, 16, 17] (((little 4 (crcMask (crcOf ([UInt8.ofNat k] ++ s)))).length + [UInt8.ofNat (s.length % 2 ^ 8), UInt8.ofNat ((s.length / 2 ^ 8) % 2 ^ 8), UInt8.ofNat k].length ≤ 9223372036854775807) ∧ (((little 4 (crcMask (crcOf ([UInt8.ofNat k] ++ s)))) ++ [UInt8.ofNat (s.length % 2 ^ 8), UInt8.ofNat ((s.length / 2 ^ 8) % 2 ^ 8), UInt8.ofNat k]).length + s.length ≤ 9223372036854775807)) [(4, str (((little 4 (crcMask (crcOf ([UInt8.ofNat k] ++ s)))) ++ [UInt8.ofNat (s.length % 2 ^ 8), UInt8.ofNat ((s.length / 2 ^ 8) % 2 ^ 8), UInt8.ofNat k]) ++ s))] (bm 18 262143) 0 (⟨by simp [little_len], by simp [little_len]; omega⟩) ?_
      refine aE [(4, str (((little 4 (crcMask (crcOf ([UInt8.ofNat k] ++ s)))) ++ [UInt8.ofNat (s.length % 2 ^ 8), UInt8.ofNat ((s.length / 2 ^ 8) % 2 ^ 8), UInt8.ofNat k]) ++ s))] [bk b1 5 #[u1 (s.length % 2 ^ 8), u1 ((s.length / 2 ^ 8) % 2 ^ 8), u1 k]] ?_
      refine cT [] [] ?_
      refine cd_ret (bot_ret (rv [str (((little 4 (crcMask (crcOf ([UInt8.ofNat k] ++ s)))) ++ [UInt8.ofNat (s.length % 2 ^ 8), UInt8.ofNat ((s.length / 2 ^ 8) % 2 ^ 8), UInt8.ofNat k]) ++ s)] (str (((little 4 (crcMask (crcOf ([UInt8.ofNat k] ++ s)))) ++ [UInt8.ofNat (s.length % 2 ^ 8), UInt8.ofNat ((s.length / 2 ^ 8) % 2 ^ 8), UInt8.ofNat k]) ++ s)) ?_))
      refine ⟨?_, rfl⟩
      all_goals first | with_reducible rfl | (rfl; done) | with_reducible assumption | omega | rfl | (simp_all; done) | (simp_all; omega)
    ·
      refine xN (.cells #[u1 (s.length % 2 ^ 8), u1 ((s.length / 2 ^ 8) % 2 ^ 8), u1 k] 5 (0, 0)) (fun b2 => sl b2 3 3) [7, 17, 20] (bm 18 40951) (fun b2 => ?_)
      refine aII (i := 3) (j := 13) ?_ ?_
      ·
        refine xC [] [bk b2 5 #[u1 (s.length % 2 ^ 8), u1 ((s.length / 2 ^ 8) % 2 ^ 8), u1 k]] [8, 17, 20] (bm 18 40959) (fixed_any2 C (crcMask (crcOf ([UInt8.ofNat k] ++ s))) ⟨by first | ((simp only [little_len, List.length_append, List.length_cons, List.length_nil]; omega); done) | exact Ok.h {}⟩) ?_
        rintro _ _ ⟨rfl, rfl⟩
        refine aI (i := 13) ?_
        refine xX (do pure (.value (← convert 189 9 (sl b2 3 3)))) [0] [bk b2 5 #[u1 (s.length % 2 ^ 8), u1 ((s.length / 2 ^ 8) % 2 ^ 8), u1 k]] [] [8, 18, 20] (bm 18 49151) (gv_conv (by kernel_rfl) (gv_bytes [((s.length % 2 ^ 8 : Nat) : Int), (((s.length / 2 ^ 8) % 2 ^ 8 : Nat) : Int), (k : Int)] rfl rfl)) ?_
        rintro _ _ ⟨rfl, rfl⟩
        refine aS [] [14, 16, 17] (((little 4 (crcMask (crcOf ([UInt8.ofNat k] ++ s)))).length + [UInt8.ofNat (s.length % 2 ^ 8), UInt8.ofNat ((s.length / 2 ^ 8) % 2 ^ 8), UInt8.ofNat k].length ≤ 9223372036854775807) ∧ (((little 4 (crcMask (crcOf ([UInt8.ofNat k] ++ s)))) ++ [UInt8.ofNat (s.length % 2 ^ 8), UInt8.ofNat ((s.length / 2 ^ 8) % 2 ^ 8), UInt8.ofNat k]).length + s.length ≤ 9223372036854775807)) [(4, str (((little 4 (crcMask (crcOf ([UInt8.ofNat k] ++ s)))) ++ [UInt8.ofNat (s.length % 2 ^ 8), UInt8.ofNat ((s.length / 2 ^ 8) % 2 ^ 8), UInt8.ofNat k]) ++ s))] (bm 18 262143) 0 (⟨by simp [little_len], by simp [little_len]; omega⟩) ?_
        refine aE [(4, str (((little 4 (crcMask (crcOf ([UInt8.ofNat k] ++ s)))) ++ [UInt8.ofNat (s.length % 2 ^ 8), UInt8.ofNat ((s.length / 2 ^ 8) % 2 ^ 8), UInt8.ofNat k]) ++ s))] [bk b2 5 #[u1 (s.length % 2 ^ 8), u1 ((s.length / 2 ^ 8) % 2 ^ 8), u1 k]] ?_
        refine cT [] [] ?_
        refine cd_ret (bot_ret (rv [str (((little 4 (crcMask (crcOf ([UInt8.ofNat k] ++ s)))) ++ [UInt8.ofNat (s.length % 2 ^ 8), UInt8.ofNat ((s.length / 2 ^ 8) % 2 ^ 8), UInt8.ofNat k]) ++ s)] (str (((little 4 (crcMask (crcOf ([UInt8.ofNat k] ++ s)))) ++ [UInt8.ofNat (s.length % 2 ^ 8), UInt8.ofNat ((s.length / 2 ^ 8) % 2 ^ 8), UInt8.ofNat k]) ++ s)) ?_))
        refine ⟨?_, rfl⟩
        all_goals first | with_reducible rfl | (rfl; done) | with_reducible assumption | omega | rfl | (simp_all; done) | (simp_all; omega)
      ·
        refine xX (do pure (.value (← convert 189 9 (sl b2 3 3)))) [0] [bk b2 5 #[u1 (s.length % 2 ^ 8), u1 ((s.length / 2 ^ 8) % 2 ^ 8), u1 k]] [] [7, 18, 20] (bm 18 49143) (gv_conv (by kernel_rfl) (gv_bytes [((s.length % 2 ^ 8 : Nat) : Int), (((s.length / 2 ^ 8) % 2 ^ 8 : Nat) : Int), (k : Int)] rfl rfl)) ?_
        rintro _ _ ⟨rfl, rfl⟩
        refine aI (i := 3) ?_
        refine xC [] [bk b2 5 #[u1 (s.length % 2 ^ 8), u1 ((s.length / 2 ^ 8) % 2 ^ 8), u1 k]] [8, 18, 20] (bm 18 49151) (fixed_any2 C (crcMask (crcOf ([UInt8.ofNat k] ++ s))) ⟨by first | ((simp only [little_len, List.length_append, List.length_cons, List.length_nil]; omega); done) | exact Ok.h {}⟩) ?_
        rintro _ _ ⟨rfl, rfl⟩
        refine aS [] [14, 16, 17] (((little 4 (crcMask (crcOf ([UInt8.ofNat k] ++ s)))).length + [UInt8.ofNat (s.length % 2 ^ 8), UInt8.ofNat ((s.length / 2 ^ 8) % 2 ^ 8), UInt8.ofNat k].length ≤ 9223372036854775807) ∧ (((little 4 (crcMask (crcOf ([UInt8.ofNat k] ++ s)))) ++ [UInt8.ofNat (s.length % 2 ^ 8), UInt8.ofNat ((s.length / 2 ^ 8) % 2 ^ 8), UInt8.ofNat k]).length + s.length ≤ 9223372036854775807)) [(4, str (((little 4 (crcMask (crcOf ([UInt8.ofNat k] ++ s)))) ++ [UInt8.ofNat (s.length % 2 ^ 8), UInt8.ofNat ((s.length / 2 ^ 8) % 2 ^ 8), UInt8.ofNat k]) ++ s))] (bm 18 262143) 0 (⟨by simp [little_len], by simp [little_len]; omega⟩) ?_
        refine aE [(4, str (((little 4 (crcMask (crcOf ([UInt8.ofNat k] ++ s)))) ++ [UInt8.ofNat (s.length % 2 ^ 8), UInt8.ofNat ((s.length / 2 ^ 8) % 2 ^ 8), UInt8.ofNat k]) ++ s))] [bk b2 5 #[u1 (s.length % 2 ^ 8), u1 ((s.length / 2 ^ 8) % 2 ^ 8), u1 k]] ?_
        refine cT [] [] ?_
        refine cd_ret (bot_ret (rv [str (((little 4 (crcMask (crcOf ([UInt8.ofNat k] ++ s)))) ++ [UInt8.ofNat (s.length % 2 ^ 8), UInt8.ofNat ((s.length / 2 ^ 8) % 2 ^ 8), UInt8.ofNat k]) ++ s)] (str (((little 4 (crcMask (crcOf ([UInt8.ofNat k] ++ s)))) ++ [UInt8.ofNat (s.length % 2 ^ 8), UInt8.ofNat ((s.length / 2 ^ 8) % 2 ^ 8), UInt8.ofNat k]) ++ s)) ?_))
        refine ⟨?_, rfl⟩
        all_goals first | with_reducible rfl | (rfl; done) | with_reducible assumption | omega | rfl | (simp_all; done) | (simp_all; omega)
  ·
    refine xN (.cells #[u1 (s.length % 2 ^ 8), u1 ((s.length / 2 ^ 8) % 2 ^ 8), u1 k] 5 (0, 0)) (fun b3 => sl b3 3 3) [5, 6, 17, 20] (bm 18 40947) (fun b3 => ?_)
    refine aII (i := 2) (j := 13) ?_ ?_
    ·
      refine xC [] [bk b3 5 #[u1 (s.length % 2 ^ 8), u1 ((s.length / 2 ^ 8) % 2 ^ 8), u1 k]] [7, 17, 20] (bm 18 40951) (sum_any2 C k s ⟨by first | ((simp only [little_len, List.length_append, List.length_cons, List.length_nil]; omega); done) | exact Ok.h {}⟩ ⟨by first | ((simp only [little_len, List.length_append, List.length_cons, List.length_nil]; omega); done) | exact Ok.h {}⟩) ?_
      rintro _ _ ⟨rfl, rfl⟩
      refine aII (i := 3) (j := 13) ?_ ?_
      ·
        refine xC [] [bk b3 5 #[u1 (s.length % 2 ^ 8), u1 ((s.length / 2 ^ 8) % 2 ^ 8), u1 k]] [8, 17, 20] (bm 18 40959) (fixed_any2 C (crcMask (crcOf ([UInt8.ofNat k] ++ s))) ⟨by first | ((simp only [little_len, List.length_append, List.length_cons, List.length_nil]; omega); done) | exact Ok.h {}⟩) ?_
        rintro _ _ ⟨rfl, rfl⟩
        refine aI (i := 13) ?_
        refine xX (do pure (.value (← convert 189 9 (sl b3 3 3)))) [0] [bk b3 5 #[u1 (s.length % 2 ^ 8), u1 ((s.length / 2 ^ 8) % 2 ^ 8), u1 k]] [] [8, 18, 20] (bm 18 49151) (gv_conv (by kernel_rfl) (gv_bytes [((s.length % 2 ^ 8 : Nat) : Int), (((s.length / 2 ^ 8) % 2 ^ 8 : Nat) : Int), (k : Int)] rfl rfl)) ?_
        rintro _ _ ⟨rfl, rfl⟩
        refine aS [] [14, 16, 17] (((little 4 (crcMask (crcOf ([UInt8.ofNat k] ++ s)))).length + [UInt8.ofNat (s.length % 2 ^ 8), UInt8.ofNat ((s.length / 2 ^ 8) % 2 ^ 8), UInt8.ofNat k].length ≤ 9223372036854775807) ∧ (((little 4 (crcMask (crcOf ([UInt8.ofNat k] ++ s)))) ++ [UInt8.ofNat (s.length % 2 ^ 8), UInt8.ofNat ((s.length / 2 ^ 8) % 2 ^ 8), UInt8.ofNat k]).length + s.length ≤ 9223372036854775807)) [(4, str (((little 4 (crcMask (crcOf ([UInt8.ofNat k] ++ s)))) ++ [UInt8.ofNat (s.length % 2 ^ 8), UInt8.ofNat ((s.length / 2 ^ 8) % 2 ^ 8), UInt8.ofNat k]) ++ s))] (bm 18 262143) 0 (⟨by simp [little_len], by simp [little_len]; omega⟩) ?_
        refine aE [(4, str (((little 4 (crcMask (crcOf ([UInt8.ofNat k] ++ s)))) ++ [UInt8.ofNat (s.length % 2 ^ 8), UInt8.ofNat ((s.length / 2 ^ 8) % 2 ^ 8), UInt8.ofNat k]) ++ s))] [bk b3 5 #[u1 (s.length % 2 ^ 8), u1 ((s.length / 2 ^ 8) % 2 ^ 8), u1 k]] ?_
        refine cT [] [] ?_
        refine cd_ret (bot_ret (rv [str (((little 4 (crcMask (crcOf ([UInt8.ofNat k] ++ s)))) ++ [UInt8.ofNat (s.length % 2 ^ 8), UInt8.ofNat ((s.length / 2 ^ 8) % 2 ^ 8), UInt8.ofNat k]) ++ s)] (str (((little 4 (crcMask (crcOf ([UInt8.ofNat k] ++ s)))) ++ [UInt8.ofNat (s.length % 2 ^ 8), UInt8.ofNat ((s.length / 2 ^ 8) % 2 ^ 8), UInt8.ofNat k]) ++ s)) ?_))
        refine ⟨?_, rfl⟩
        all_goals first | with_reducible rfl | (rfl; done) | with_reducible assumption | omega | rfl | (simp_all; done) | (simp_all; omega)
      ·
        refine xX (do pure (.value (← convert 189 9 (sl b3 3 3)))) [0] [bk b3 5 #[u1 (s.length % 2 ^ 8), u1 ((s.length / 2 ^ 8) % 2 ^ 8), u1 k]] [] [7, 18, 20] (bm 18 49143) (gv_conv (by kernel_rfl) (gv_bytes [((s.length % 2 ^ 8 : Nat) : Int), (((s.length / 2 ^ 8) % 2 ^ 8 : Nat) : Int), (k : Int)] rfl rfl)) ?_
        rintro _ _ ⟨rfl, rfl⟩
        refine aI (i := 3) ?_
        refine xC [] [bk b3 5 #[u1 (s.length % 2 ^ 8), u1 ((s.length / 2 ^ 8) % 2 ^ 8), u1 k]] [8, 18, 20] (bm 18 49151) (fixed_any2 C (crcMask (crcOf ([UInt8.ofNat k] ++ s))) ⟨by first | ((simp only [little_len, List.length_append, List.length_cons, List.length_nil]; omega); done) | exact Ok.h {}⟩) ?_
        rintro _ _ ⟨rfl, rfl⟩
        refine aS [] [14, 16, 17] (((little 4 (crcMask (crcOf ([UInt8.ofNat k] ++ s)))).length + [UInt8.ofNat (s.length % 2 ^ 8), UInt8.ofNat ((s.length / 2 ^ 8) % 2 ^ 8), UInt8.ofNat k].length ≤ 9223372036854775807) ∧ (((little 4 (crcMask (crcOf ([UInt8.ofNat k] ++ s)))) ++ [UInt8.ofNat (s.length % 2 ^ 8), UInt8.ofNat ((s.length / 2 ^ 8) % 2 ^ 8), UInt8.ofNat k]).length + s.length ≤ 9223372036854775807)) [(4, str (((little 4 (crcMask (crcOf ([UInt8.ofNat k] ++ s)))) ++ [UInt8.ofNat (s.length % 2 ^ 8), UInt8.ofNat ((s.length / 2 ^ 8) % 2 ^ 8), UInt8.ofNat k]) ++ s))] (bm 18 262143) 0 (⟨by simp [little_len], by simp [little_len]; omega⟩) ?_
        refine aE [(4, str (((little 4 (crcMask (crcOf ([UInt8.ofNat k] ++ s)))) ++ [UInt8.ofNat (s.length % 2 ^ 8), UInt8.ofNat ((s.length / 2 ^ 8) % 2 ^ 8), UInt8.ofNat k]) ++ s))] [bk b3 5 #[u1 (s.length % 2 ^ 8), u1 ((s.length / 2 ^ 8) % 2 ^ 8), u1 k]] ?_
        refine cT [] [] ?_
        refine cd_ret (bot_ret (rv [str (((little 4 (crcMask (crcOf ([UInt8.ofNat k] ++ s)))) ++ [UInt8.ofNat (s.length % 2 ^ 8), UInt8.ofNat ((s.length / 2 ^ 8) % 2 ^ 8), UInt8.ofNat k]) ++ s)] (str (((little 4 (crcMask (crcOf ([UInt8.ofNat k] ++ s)))) ++ [UInt8.ofNat (s.length % 2 ^ 8), UInt8.ofNat ((s.length / 2 ^ 8) % 2 ^ 8), UInt8.ofNat k]) ++ s)) ?_))
        refine ⟨?_, rfl⟩
        all_goals first | with_reducible rfl | (rfl; done) | with_reducible assumption | omega | rfl | (simp_all; done) | (simp_all; omega)
    ·
      refine xX (do pure (.value (← convert 189 9 (sl b3 3 3)))) [0] [bk b3 5 #[u1 (s.length % 2 ^ 8), u1 ((s.length / 2 ^ 8) % 2 ^ 8), u1 k]] [] [5, 6, 18, 20] (bm 18 49139) (gv_conv (by kernel_rfl) (gv_bytes [((s.length % 2 ^ 8 : Nat) : Int), (((s.length / 2 ^ 8) % 2 ^ 8 : Nat) : Int), (k : Int)] rfl rfl)) ?_
      rintro _ _ ⟨rfl, rfl⟩
      refine aI (i := 2) ?_
      refine xC [] [bk b3 5 #[u1 (s.length % 2 ^ 8), u1 ((s.length / 2 ^ 8) % 2 ^ 8), u1 k]] [7, 18, 20] (bm 18 49143) (sum_any2 C k s ⟨by first | ((simp only [little_len, List.length_append, List.length_cons, List.length_nil]; omega); done) | exact Ok.h {}⟩ ⟨by first | ((simp only [little_len, List.length_append, List.length_cons, List.length_nil]; omega); done) | exact Ok.h {}⟩) ?_
      rintro _ _ ⟨rfl, rfl⟩
      refine aI (i := 3) ?_
      refine xC [] [bk b3 5 #[u1 (s.length % 2 ^ 8), u1 ((s.length / 2 ^ 8) % 2 ^ 8), u1 k]] [8, 18, 20] (bm 18 49151) (fixed_any2 C (crcMask (crcOf ([UInt8.ofNat k] ++ s))) ⟨by first | ((simp only [little_len, List.length_append, List.length_cons, List.length_nil]; omega); done) | exact Ok.h {}⟩) ?_
      rintro _ _ ⟨rfl, rfl⟩
      refine aS [] [14, 16, 17] (((little 4 (crcMask (crcOf ([UInt8.ofNat k] ++ s)))).length + [UInt8.ofNat (s.length % 2 ^ 8), UInt8.ofNat ((s.length / 2 ^ 8) % 2 ^ 8), UInt8.ofNat k].length ≤ 9223372036854775807) ∧ (((little 4 (crcMask (crcOf ([UInt8.ofNat k] ++ s)))) ++ [UInt8.ofNat (s.length % 2 ^ 8), UInt8.ofNat ((s.length / 2 ^ 8) % 2 ^ 8), UInt8.ofNat k]).length + s.length ≤ 9223372036854775807)) [(4, str (((little 4 (crcMask (crcOf ([UInt8.ofNat k] ++ s)))) ++ [UInt8.ofNat (s.length % 2 ^ 8), UInt8.ofNat ((s.length / 2 ^ 8) % 2 ^ 8), UInt8.ofNat k]) ++ s))] (bm 18 262143) 0 (⟨by simp [little_len], by simp [little_len]; omega⟩) ?_
      refine aE [(4, str (((little 4 (crcMask (crcOf ([UInt8.ofNat k] ++ s)))) ++ [UInt8.ofNat (s.length % 2 ^ 8), UInt8.ofNat ((s.length / 2 ^ 8) % 2 ^ 8), UInt8.ofNat k]) ++ s))] [bk b3 5 #[u1 (s.length % 2 ^ 8), u1 ((s.length / 2 ^ 8) % 2 ^ 8), u1 k]] ?_
      refine cT [] [] ?_
      refine cd_ret (bot_ret (rv [str (((little 4 (crcMask (crcOf ([UInt8.ofNat k] ++ s)))) ++ [UInt8.ofNat (s.length % 2 ^ 8), UInt8.ofNat ((s.length / 2 ^ 8) % 2 ^ 8), UInt8.ofNat k]) ++ s)] (str (((little 4 (crcMask (crcOf ([UInt8.ofNat k] ++ s)))) ++ [UInt8.ofNat (s.length % 2 ^ 8), UInt8.ofNat ((s.length / 2 ^ 8) % 2 ^ 8), UInt8.ofNat k]) ++ s)) ?_))
      refine ⟨?_, rfl⟩
      all_goals first | with_reducible rfl | (rfl; done) | with_reducible assumption | omega | rfl | (simp_all; done) | (simp_all; omega)

set_option maxRecDepth 100000 in
theorem lay_any (C : Ctx) (at0 : Nat) (r0 : List UInt8) (ha : Ok (at0 ≤ 549755813888)) (hr : Ok (r0.length ≤ 1073741824)) :
    FnT Tryz.prog C 55 #[n6 at0, str r0] [] (fun rv_ rL_ => rv_ = str (layB at0 r0) ∧ rL_ = []) := by
  replace ha := ha.h
  replace hr := hr.h
  have hI : LayInv at0 r0 at0 true r0 [] := LayInv.start at0 r0
  have hb := hI.bound
  have hlen := hI.len
  refine fE 45 Tryz.func55 rfl ?_
  refine cQ [] (True) [(0, n6 at0), (1, str r0)] (trivial) ?_
  refine cd_scope 0 (fun x : Nat × Bool × Nat × (List UInt8) × (List UInt8) × Blks => [(0, n6 x.2.2.1), (1, str x.2.2.2.1), (5, p0 x.1), (6, .bool x.2.1)]) (fun x : Nat × Bool × Nat × (List UInt8) × (List UInt8) × Blks => [x.2.2.2.2.2]) (fun x : Nat × Bool × Nat × (List UInt8) × (List UInt8) × Blks => LayInv at0 r0 x.2.2.1 x.2.1 x.2.2.2.1 x.2.2.2.2.1 ∧ BldL x.1 x.2.2.2.2.1 x.2.2.2.2.2) (fun x : Nat × Bool × Nat × (List UInt8) × (List UInt8) × Blks => layMu x.2.2.1 x.2.2.2.1) rfl ?_ ?_
  · -- ahead of the label
    refine cd_rg ?_
    refine rQ [] [] [0] (True) [(0, n6 at0), (1, str r0)] (trivial) ?_
    refine rN 0 [] (.cells #[.pointer none, .slice none 0 0] 191 (0, 0)) p0 (fun b1 => ?_)
    refine rD [(0, n6 at0), (1, str r0), (5, p0 b1)] ?_
    refine cd_rg ?_
    refine rQ [] [0, 1] [2] (True) [(1, str r0), (5, p0 b1), (9, z6 (if 0 > (at0 : Int) then 0 else (at0 : Int)))] (trivial) ?_
    refine rP 9 (z6 (if 0 > (at0 : Int) then 0 else (at0 : Int))) (n6 at0) (by rw [if_neg (by omega)]) ?_
    refine rQ [] [2] [] (True) [(0, n6 at0), (1, str r0), (5, p0 b1)] (trivial) ?_
    refine rF ?_
    refine cQ [] (True) [(0, n6 at0), (1, str r0), (5, p0 b1), (6, .bool true)] (trivial) ?_
    refine cd_seq ?_
    refine cd_label (then_n ?_)
    have hpad := padN_le at0
    have hleft := pad_left at0
    have hroom := roomAt_le at0 r0.length
    have hk4 : ∀ x y, (if x && y then 1 else if x then 2 else if y then 4 else 3) ≤ 4 := by intro x y; cases x <;> cases y <;> decide
    refine cd_rg ?_
    refine rQ [] [0] [1, 2] (True) [(0, n6 at0), (1, str r0), (5, p0 b1), (6, .bool true), (10, n6 at0)] (trivial) ?_
    refine rC 1 [2] [] [bk b1 191 #[.pointer none, .slice none 0 0]] (pad_any C at0 ⟨by first | (exact hk4 _ _; done) | ((simp only [List.length_append, List.length_replicate, pieceB_len, List.length_take, List.length_drop, List.length_nil]; omega); done) | exact Ok.h {}⟩) ?_
    rintro _ _ ⟨rfl, rfl⟩
    refine rQ [] [2] [] (True) [(0, n6 at0), (1, str r0), (5, p0 b1), (6, .bool true), (7, n6 (padN at0))] (trivial) ?_
    refine rF ?_
    refine cd_rg ?_
    refine rQ [] [0] [1, 2] (True) [(0, n6 at0), (1, str r0), (5, p0 b1), (6, .bool true), (7, n6 (padN at0)), (12, n6 (padN at0))] (trivial) ?_
    refine rC 1 [2] [] [bk b1 191 #[.pointer none, .slice none 0 0]] (repeat_zero C (padN at0) ⟨by first | (exact hk4 _ _; done) | ((simp only [List.length_append, List.length_replicate, pieceB_len, List.length_take, List.length_drop, List.length_nil]; omega); done) | exact Ok.h {}⟩) ?_
    rintro _ _ ⟨rfl, rfl⟩
    refine rC 2 [] [0] [] (writeString_any C b1 [] (List.replicate (padN at0) (0 : UInt8)) (bk b1 191 #[.pointer none, .slice none 0 0]) (BldL.fresh b1) (by first | (exact hk4 _ _; done) | ((simp only [List.length_append, List.length_replicate, pieceB_len, List.length_take, List.length_drop, List.length_nil]; omega); done) | exact Ok.h {})) ?_
    rintro _ _ ⟨L1_1, h1, rfl, rfl⟩
    refine rD [(0, n6 at0), (1, str r0), (5, p0 b1), (6, .bool true), (7, n6 (padN at0))] ?_
    refine cQ [] ((inKind .i64 ((at0 : Int) + ((padN at0 : Nat) : Int)))) [(0, n6 (at0 + (padN at0))), (1, str r0), (5, p0 b1), (6, .bool true)] (inK_i64 (by omega)) ?_
    refine cd_rg ?_
    refine rQ [] [0] [1, 2, 3, 4, 5, 6] (True) [(0, n6 (at0 + (padN at0))), (1, str r0), (5, p0 b1), (6, .bool true), (18, n6 (at0 + (padN at0)))] (trivial) ?_
    refine rC 1 [2, 3, 4, 5, 6] [] [L1_1] (left_any C (at0 + (padN at0)) ⟨by first | (exact hk4 _ _; done) | ((simp only [List.length_append, List.length_replicate, pieceB_len, List.length_take, List.length_drop, List.length_nil]; omega); done) | exact Ok.h {}⟩) ?_
    rintro _ _ ⟨rfl, rfl⟩
    refine rQ [(2, .nat)] [2, 3, 4, 5] [6] ((0 ≤ (7 : Int) ∧ (7 : Int) ≤ ((512 - (at0 + (padN at0)) % 512 : Nat) : Int) ∧ ((512 - (at0 + (padN at0)) % 512 : Nat) : Int) ≤ IntKind.max .i64)) [(0, n6 (at0 + (padN at0))), (1, str r0), (5, p0 b1), (6, .bool true), (23, z6 (if (r0.length : Int) < (((512 - (at0 + (padN at0)) % 512) - 7 : Nat) : Int) then (r0.length : Int) else (((512 - (at0 + (padN at0)) % 512) - 7 : Nat) : Int)))] (⟨by omega, by omega, by have := (show IntKind.max .i64 = 9223372036854775807 from rfl); omega⟩) ?_
    refine rP 23 (z6 (if (r0.length : Int) < (((512 - (at0 + (padN at0)) % 512) - 7 : Nat) : Int) then (r0.length : Int) else (((512 - (at0 + (padN at0)) % 512) - 7 : Nat) : Int))) (n6 (roomAt at0 r0.length)) (by unfold roomAt; split <;> split <;> first | rfl | (exfalso; omega)) ?_
    refine rQ [] [6] [] (True) [(0, n6 (at0 + (padN at0))), (1, str r0), (5, p0 b1), (6, .bool true), (7, n6 (roomAt at0 r0.length))] (trivial) ?_
    refine rF ?_
    refine dr [] [L1_1] [0] 11 ?_
    refine aS [] [0, 1, 2, 6, 7, 3, 8, 4] ((0 ≤ (0 : Int) ∧ (0 : Int) ≤ ((roomAt at0 r0.length : Nat) : Int) ∧ ((roomAt at0 r0.length : Nat) : Int) ≤ (r0.length : Int))) [(0, n6 (at0 + (padN at0))), (1, str r0), (5, p0 b1), (7, n6 (roomAt at0 r0.length)), (24, .bool true), (28, .bool (((roomAt at0 r0.length : Nat) : Int) == (r0.length : Int))), (32, str ((r0.take (roomAt at0 r0.length)).drop 0))] (bm 11 479) 3 (⟨by omega, by omega, by omega⟩) ?_
    refine aP 28 (.bool (((roomAt at0 r0.length : Nat) : Int) == (r0.length : Int))) (.bool (roomAt at0 r0.length == r0.length)) (by congr 1; rw [Bool.eq_iff_iff]; simp; omega) ?_
    refine aI (i := 5) ?_
    refine xC [] [L1_1] [0, 1, 5, 7, 29, 32] (bm 11 511) (kind_any C true (roomAt at0 r0.length == r0.length)) ?_
    rintro _ _ ⟨rfl, rfl⟩
    refine aI (i := 9) ?_
    refine xC [] [L1_1] [0, 1, 5, 7, 33] (bm 11 1023) (piece_any C (if true && (roomAt at0 r0.length == r0.length) then 1 else if true then 2 else if (roomAt at0 r0.length == r0.length) then 4 else 3) ((r0.take (roomAt at0 r0.length)).drop 0) ⟨by first | (exact hk4 _ _; done) | ((simp only [List.length_append, List.length_replicate, pieceB_len, List.length_take, List.length_drop, List.length_nil]; omega); done) | exact Ok.h {}⟩ ⟨by first | (exact hk4 _ _; done) | ((simp only [List.length_append, List.length_replicate, pieceB_len, List.length_take, List.length_drop, List.length_nil]; omega); done) | exact Ok.h {}⟩) ?_
    rintro _ _ ⟨rfl, rfl⟩
    refine aI (i := 10) ?_
    refine xC [0] [] [0, 1, 5, 7] (bm 11 2047) (writeString_any C b1 ([] ++ (List.replicate (padN at0) (0 : UInt8))) (pieceB (if true && (roomAt at0 r0.length == r0.length) then 1 else if true then 2 else if (roomAt at0 r0.length == r0.length) then 4 else 3) ((r0.take (roomAt at0 r0.length)).drop 0)) L1_1 h1 (by first | (exact hk4 _ _; done) | ((simp only [List.length_append, List.length_replicate, pieceB_len, List.length_take, List.length_drop, List.length_nil]; omega); done) | exact Ok.h {})) ?_
    rintro _ _ ⟨L1_2, h2, rfl, rfl⟩
    refine aE [(0, n6 (at0 + (padN at0))), (1, str r0), (5, p0 b1), (7, n6 (roomAt at0 r0.length))] [L1_2] ?_
    refine cQ [] ((inKind .i64 (7 + ((roomAt at0 r0.length : Nat) : Int))) ∧ (inKind .i64 (((at0 : Int) + ((padN at0 : Nat) : Int)) + (7 + ((roomAt at0 r0.length : Nat) : Int))))) [(0, n6 ((at0 + (padN at0)) + (7 + (roomAt at0 r0.length)))), (1, str r0), (5, p0 b1), (7, n6 (roomAt at0 r0.length))] (⟨inK_i64 (by omega), inK_i64 (by omega)⟩) ?_
    refine cd_seq ?_
    refine cd_rg ?_
    refine rQ [] [0, 1, 2] [3] ((0 ≤ ((roomAt at0 r0.length : Nat) : Int) ∧ ((roomAt at0 r0.length : Nat) : Int) ≤ (r0.length : Int) ∧ (r0.length : Int) ≤ (r0.length : Int))) [(0, n6 ((at0 + (padN at0)) + (7 + (roomAt at0 r0.length)))), (5, p0 b1), (41, str ((r0.take r0.length).drop (roomAt at0 r0.length)))] (⟨by omega, by omega, by omega⟩) ?_
    refine rP 41 (str ((r0.take r0.length).drop (roomAt at0 r0.length))) (str (r0.drop (roomAt at0 r0.length))) (by rw [List.take_length]) ?_
    refine rQ [] [3] [] (True) [(0, n6 ((at0 + (padN at0)) + (7 + (roomAt at0 r0.length)))), (1, str (r0.drop (roomAt at0 r0.length))), (5, p0 b1)] (trivial) ?_
    refine rF ?_
    refine cQ [] (True) [(0, n6 ((at0 + (padN at0)) + (7 + (roomAt at0 r0.length)))), (1, str (r0.drop (roomAt at0 r0.length))), (5, p0 b1), (43, .bool (!((r0.drop (roomAt at0 r0.length)) == [])))] (trivial) ?_
    refine cI (!((r0.drop (roomAt at0 r0.length)) == [])) (fun h3 => ?_) (fun h3 => ?_)
    · have h3p : ¬ ((r0.drop (roomAt at0 r0.length)) = []) := by simpa using h3
      refine cQ [] (True) [(0, n6 ((at0 + (padN at0)) + (7 + (roomAt at0 r0.length)))), (1, str (r0.drop (roomAt at0 r0.length))), (5, p0 b1), (6, .bool false)] (trivial) ?_
      refine cd_goto (then_goto (jump_hit (sF ((b1, false, (at0 + (padN at0)) + (7 + (roomAt at0 r0.length)), r0.drop (roomAt at0 r0.length), ([] ++ (List.replicate (padN at0) (0 : UInt8))) ++ (pieceB (if true && (roomAt at0 r0.length == r0.length) then 1 else if true then 2 else if (roomAt at0 r0.length == r0.length) then 4 else 3) ((r0.take (roomAt at0 r0.length)).drop 0)), L1_2)) (show LayInv at0 r0 ((at0 + (padN at0)) + (7 + (roomAt at0 r0.length))) false (r0.drop (roomAt at0 r0.length)) (([] ++ (List.replicate (padN at0) (0 : UInt8))) ++ (pieceB (if true && (roomAt at0 r0.length == r0.length) then 1 else if true then 2 else if (roomAt at0 r0.length == r0.length) then 4 else 3) ((r0.take (roomAt at0 r0.length)).drop 0))) ∧ BldL b1 (([] ++ (List.replicate (padN at0) (0 : UInt8))) ++ (pieceB (if true && (roomAt at0 r0.length == r0.length) then 1 else if true then 2 else if (roomAt at0 r0.length == r0.length) then 4 else 3) ((r0.take (roomAt at0 r0.length)).drop 0))) L1_2 from ⟨hI.next (by assumption), h2⟩))))
    · have h3p : ¬ (¬ ((r0.drop (roomAt at0 r0.length)) = [])) := by simpa using h3
      refine cd_skip (then_n ?_)
      refine cd_rg ?_
      refine rQ [] [] [0, 1] (True) [(5, p0 b1)] (trivial) ?_
      refine rC 0 [1] [0] [] (string_any C b1 (([] ++ (List.replicate (padN at0) (0 : UInt8))) ++ (pieceB (if true && (roomAt at0 r0.length == r0.length) then 1 else if true then 2 else if (roomAt at0 r0.length == r0.length) then 4 else 3) ((r0.take (roomAt at0 r0.length)).drop 0))) L1_2 h2 (by first | (exact hk4 _ _; done) | ((simp only [List.length_append, List.length_replicate, pieceB_len, List.length_take, List.length_drop, List.length_nil]; omega); done) | exact Ok.h {})) ?_
      rintro _ _ ⟨L1_3, h4, rfl, rfl⟩
      refine rQ [] [1] [] (True) [(4, str (([] ++ (List.replicate (padN at0) (0 : UInt8))) ++ (pieceB (if true && (roomAt at0 r0.length == r0.length) then 1 else if true then 2 else if (roomAt at0 r0.length == r0.length) then 4 else 3) ((r0.take (roomAt at0 r0.length)).drop 0))))] (trivial) ?_
      refine rF ?_
      refine cT [] [] ?_
      refine cd_ret (jump_ret (bot_ret (rv [str (([] ++ (List.replicate (padN at0) (0 : UInt8))) ++ (pieceB (if true && (roomAt at0 r0.length == r0.length) then 1 else if true then 2 else if (roomAt at0 r0.length == r0.length) then 4 else 3) ((r0.take (roomAt at0 r0.length)).drop 0)))] (str (([] ++ (List.replicate (padN at0) (0 : UInt8))) ++ (pieceB (if true && (roomAt at0 r0.length == r0.length) then 1 else if true then 2 else if (roomAt at0 r0.length == r0.length) then 4 else 3) ((r0.take (roomAt at0 r0.length)).drop 0)))) ?_)))
      refine ⟨?_, rfl⟩
      all_goals first | with_reducible rfl | (exact congrArg str (hI.done (Decidable.of_not_not (by assumption))); done) | with_reducible assumption | omega | rfl | (simp_all; done) | (simp_all; omega)
  · rintro ⟨b, bg, a, r1, o, Lr⟩ hI
    replace hI : LayInv at0 r0 a bg r1 o ∧ BldL b o Lr := hI
    obtain ⟨hI, hB⟩ := hI
    have hb := hI.bound
    have hlen := hI.len
    refine cd_seq ?_
    refine cd_skip (then_n ?_)
    have hpad := padN_le a
    have hleft := pad_left a
    have hroom := roomAt_le a r1.length
    have hk4 : ∀ x y, (if x && y then 1 else if x then 2 else if y then 4 else 3) ≤ 4 := by intro x y; cases x <;> cases y <;> decide
    refine cd_rg ?_
    refine rQ [] [0] [1, 2] (True) [(0, n6 a), (1, str r1), (5, p0 b), (6, .bool bg), (10, n6 a)] (trivial) ?_
    refine rC 1 [2] [] [Lr] (pad_any C a ⟨by first | (exact hk4 _ _; done) | ((simp only [List.length_append, List.length_replicate, pieceB_len, List.length_take, List.length_drop, List.length_nil]; omega); done) | exact Ok.h {}⟩) ?_
    rintro _ _ ⟨rfl, rfl⟩
    refine rQ [] [2] [] (True) [(0, n6 a), (1, str r1), (5, p0 b), (6, .bool bg), (7, n6 (padN a))] (trivial) ?_
    refine rF ?_
    refine cd_rg ?_
    refine rQ [] [0] [1, 2] (True) [(0, n6 a), (1, str r1), (5, p0 b), (6, .bool bg), (7, n6 (padN a)), (12, n6 (padN a))] (trivial) ?_
    refine rC 1 [2] [] [Lr] (repeat_zero C (padN a) ⟨by first | (exact hk4 _ _; done) | ((simp only [List.length_append, List.length_replicate, pieceB_len, List.length_take, List.length_drop, List.length_nil]; omega); done) | exact Ok.h {}⟩) ?_
    rintro _ _ ⟨rfl, rfl⟩
    refine rC 2 [] [0] [] (writeString_any C b o (List.replicate (padN a) (0 : UInt8)) Lr hB (by first | (exact hk4 _ _; done) | ((simp only [List.length_append, List.length_replicate, pieceB_len, List.length_take, List.length_drop, List.length_nil]; omega); done) | exact Ok.h {})) ?_
    rintro _ _ ⟨L1_4, h5, rfl, rfl⟩
    refine rD [(0, n6 a), (1, str r1), (5, p0 b), (6, .bool bg), (7, n6 (padN a))] ?_
    refine cQ [] ((inKind .i64 ((a : Int) + ((padN a : Nat) : Int)))) [(0, n6 (a + (padN a))), (1, str r1), (5, p0 b), (6, .bool bg)] (inK_i64 (by omega)) ?_
    refine cd_rg ?_
    refine rQ [] [0] [1, 2, 3, 4, 5, 6] (True) [(0, n6 (a + (padN a))), (1, str r1), (5, p0 b), (6, .bool bg), (18, n6 (a + (padN a)))] (trivial) ?_
    refine rC 1 [2, 3, 4, 5, 6] [] [L1_4] (left_any C (a + (padN a)) ⟨by first | (exact hk4 _ _; done) | ((simp only [List.length_append, List.length_replicate, pieceB_len, List.length_take, List.length_drop, List.length_nil]; omega); done) | exact Ok.h {}⟩) ?_
    rintro _ _ ⟨rfl, rfl⟩
    refine rQ [(2, .nat)] [2, 3, 4, 5] [6] ((0 ≤ (7 : Int) ∧ (7 : Int) ≤ ((512 - (a + (padN a)) % 512 : Nat) : Int) ∧ ((512 - (a + (padN a)) % 512 : Nat) : Int) ≤ IntKind.max .i64)) [(0, n6 (a + (padN a))), (1, str r1), (5, p0 b), (6, .bool bg), (23, z6 (if (r1.length : Int) < (((512 - (a + (padN a)) % 512) - 7 : Nat) : Int) then (r1.length : Int) else (((512 - (a + (padN a)) % 512) - 7 : Nat) : Int)))] (⟨by omega, by omega, by have := (show IntKind.max .i64 = 9223372036854775807 from rfl); omega⟩) ?_
    refine rP 23 (z6 (if (r1.length : Int) < (((512 - (a + (padN a)) % 512) - 7 : Nat) : Int) then (r1.length : Int) else (((512 - (a + (padN a)) % 512) - 7 : Nat) : Int))) (n6 (roomAt a r1.length)) (by unfold roomAt; split <;> split <;> first | rfl | (exfalso; omega)) ?_
    refine rQ [] [6] [] (True) [(0, n6 (a + (padN a))), (1, str r1), (5, p0 b), (6, .bool bg), (7, n6 (roomAt a r1.length))] (trivial) ?_
    refine rF ?_
    refine dr [] [L1_4] [0] 11 ?_
    refine aS [] [0, 1, 2, 6, 7, 3, 8, 4] ((0 ≤ (0 : Int) ∧ (0 : Int) ≤ ((roomAt a r1.length : Nat) : Int) ∧ ((roomAt a r1.length : Nat) : Int) ≤ (r1.length : Int))) [(0, n6 (a + (padN a))), (1, str r1), (5, p0 b), (7, n6 (roomAt a r1.length)), (24, .bool bg), (28, .bool (((roomAt a r1.length : Nat) : Int) == (r1.length : Int))), (32, str ((r1.take (roomAt a r1.length)).drop 0))] (bm 11 479) 3 (⟨by omega, by omega, by omega⟩) ?_
    refine aP 28 (.bool (((roomAt a r1.length : Nat) : Int) == (r1.length : Int))) (.bool (roomAt a r1.length == r1.length)) (by congr 1; rw [Bool.eq_iff_iff]; simp; omega) ?_
    refine aI (i := 5) ?_
    refine xC [] [L1_4] [0, 1, 5, 7, 29, 32] (bm 11 511) (kind_any C bg (roomAt a r1.length == r1.length)) ?_
    rintro _ _ ⟨rfl, rfl⟩
    refine aI (i := 9) ?_
    refine xC [] [L1_4] [0, 1, 5, 7, 33] (bm 11 1023) (piece_any C (if bg && (roomAt a r1.length == r1.length) then 1 else if bg then 2 else if (roomAt a r1.length == r1.length) then 4 else 3) ((r1.take (roomAt a r1.length)).drop 0) ⟨by first | (exact hk4 _ _; done) | ((simp only [List.length_append, List.length_replicate, pieceB_len, List.length_take, List.length_drop, List.length_nil]; omega); done) | exact Ok.h {}⟩ ⟨by first | (exact hk4 _ _; done) | ((simp only [List.length_append, List.length_replicate, pieceB_len, List.length_take, List.length_drop, List.length_nil]; omega); done) | exact Ok.h {}⟩) ?_
    rintro _ _ ⟨rfl, rfl⟩
    refine aI (i := 10) ?_
    refine xC [0] [] [0, 1, 5, 7] (bm 11 2047) (writeString_any C b (o ++ (List.replicate (padN a) (0 : UInt8))) (pieceB (if bg && (roomAt a r1.length == r1.length) then 1 else if bg then 2 else if (roomAt a r1.length == r1.length) then 4 else 3) ((r1.take (roomAt a r1.length)).drop 0)) L1_4 h5 (by first | (exact hk4 _ _; done) | ((simp only [List.length_append, List.length_replicate, pieceB_len, List.length_take, List.length_drop, List.length_nil]; omega); done) | exact Ok.h {})) ?_
    rintro _ _ ⟨L1_5, h6, rfl, rfl⟩
    refine aE [(0, n6 (a + (padN a))), (1, str r1), (5, p0 b), (7, n6 (roomAt a r1.length))] [L1_5] ?_
    refine cQ [] ((inKind .i64 (7 + ((roomAt a r1.length : Nat) : Int))) ∧ (inKind .i64 (((a : Int) + ((padN a : Nat) : Int)) + (7 + ((roomAt a r1.length : Nat) : Int))))) [(0, n6 ((a + (padN a)) + (7 + (roomAt a r1.length)))), (1, str r1), (5, p0 b), (7, n6 (roomAt a r1.length))] (⟨inK_i64 (by omega), inK_i64 (by omega)⟩) ?_
    refine cd_seq ?_
    refine cd_rg ?_
    refine rQ [] [0, 1, 2] [3] ((0 ≤ ((roomAt a r1.length : Nat) : Int) ∧ ((roomAt a r1.length : Nat) : Int) ≤ (r1.length : Int) ∧ (r1.length : Int) ≤ (r1.length : Int))) [(0, n6 ((a + (padN a)) + (7 + (roomAt a r1.length)))), (5, p0 b), (41, str ((r1.take r1.length).drop (roomAt a r1.length)))] (⟨by omega, by omega, by omega⟩) ?_
    refine rP 41 (str ((r1.take r1.length).drop (roomAt a r1.length))) (str (r1.drop (roomAt a r1.length))) (by rw [List.take_length]) ?_
    refine rQ [] [3] [] (True) [(0, n6 ((a + (padN a)) + (7 + (roomAt a r1.length)))), (1, str (r1.drop (roomAt a r1.length))), (5, p0 b)] (trivial) ?_
    refine rF ?_
    refine cQ [] (True) [(0, n6 ((a + (padN a)) + (7 + (roomAt a r1.length)))), (1, str (r1.drop (roomAt a r1.length))), (5, p0 b), (43, .bool (!((r1.drop (roomAt a r1.length)) == [])))] (trivial) ?_
    refine cI (!((r1.drop (roomAt a r1.length)) == [])) (fun h7 => ?_) (fun h7 => ?_)
    · have h7p : ¬ ((r1.drop (roomAt a r1.length)) = []) := by simpa using h7
      refine cQ [] (True) [(0, n6 ((a + (padN a)) + (7 + (roomAt a r1.length)))), (1, str (r1.drop (roomAt a r1.length))), (5, p0 b), (6, .bool false)] (trivial) ?_
      refine cd_goto (then_goto (jump_hit (sM ((b, false, (a + (padN a)) + (7 + (roomAt a r1.length)), r1.drop (roomAt a r1.length), (o ++ (List.replicate (padN a) (0 : UInt8))) ++ (pieceB (if bg && (roomAt a r1.length == r1.length) then 1 else if bg then 2 else if (roomAt a r1.length == r1.length) then 4 else 3) ((r1.take (roomAt a r1.length)).drop 0)), L1_5)) (show LayInv at0 r0 ((a + (padN a)) + (7 + (roomAt a r1.length))) false (r1.drop (roomAt a r1.length)) ((o ++ (List.replicate (padN a) (0 : UInt8))) ++ (pieceB (if bg && (roomAt a r1.length == r1.length) then 1 else if bg then 2 else if (roomAt a r1.length == r1.length) then 4 else 3) ((r1.take (roomAt a r1.length)).drop 0))) ∧ BldL b ((o ++ (List.replicate (padN a) (0 : UInt8))) ++ (pieceB (if bg && (roomAt a r1.length == r1.length) then 1 else if bg then 2 else if (roomAt a r1.length == r1.length) then 4 else 3) ((r1.take (roomAt a r1.length)).drop 0))) L1_5 from ⟨hI.next (by assumption), h6⟩) (show (layMu ((a + (padN a)) + (7 + (roomAt a r1.length))) (r1.drop (roomAt a r1.length))) < (layMu a r1) from layMu_lt (by assumption)))))
    · have h7p : ¬ (¬ ((r1.drop (roomAt a r1.length)) = [])) := by simpa using h7
      refine cd_skip (then_n ?_)
      refine cd_rg ?_
      refine rQ [] [] [0, 1] (True) [(5, p0 b)] (trivial) ?_
      refine rC 0 [1] [0] [] (string_any C b ((o ++ (List.replicate (padN a) (0 : UInt8))) ++ (pieceB (if bg && (roomAt a r1.length == r1.length) then 1 else if bg then 2 else if (roomAt a r1.length == r1.length) then 4 else 3) ((r1.take (roomAt a r1.length)).drop 0))) L1_5 h6 (by first | (exact hk4 _ _; done) | ((simp only [List.length_append, List.length_replicate, pieceB_len, List.length_take, List.length_drop, List.length_nil]; omega); done) | exact Ok.h {})) ?_
      rintro _ _ ⟨L1_6, h8, rfl, rfl⟩
      refine rQ [] [1] [] (True) [(4, str ((o ++ (List.replicate (padN a) (0 : UInt8))) ++ (pieceB (if bg && (roomAt a r1.length == r1.length) then 1 else if bg then 2 else if (roomAt a r1.length == r1.length) then 4 else 3) ((r1.take (roomAt a r1.length)).drop 0))))] (trivial) ?_
      refine rF ?_
      refine cT [] [] ?_
      refine cd_ret (jump_ret (bot_ret (rv [str ((o ++ (List.replicate (padN a) (0 : UInt8))) ++ (pieceB (if bg && (roomAt a r1.length == r1.length) then 1 else if bg then 2 else if (roomAt a r1.length == r1.length) then 4 else 3) ((r1.take (roomAt a r1.length)).drop 0)))] (str ((o ++ (List.replicate (padN a) (0 : UInt8))) ++ (pieceB (if bg && (roomAt a r1.length == r1.length) then 1 else if bg then 2 else if (roomAt a r1.length == r1.length) then 4 else 3) ((r1.take (roomAt a r1.length)).drop 0)))) ?_)))
      refine ⟨?_, rfl⟩
      all_goals first | with_reducible rfl | (exact congrArg str (hI.done (Decidable.of_not_not (by assumption))); done) | with_reducible assumption | omega | rfl | (simp_all; done) | (simp_all; omega)

set_option maxRecDepth 100000 in
theorem bytes_any (C : Ctx) (seq : Nat) (cap : Nat) (H : Blks) (a : Option Addr) (l : List Chg) (hl : SeesL C H a chg 3 l) (hseq : Ok (seq < 18446744073709551616)) (hk : Ok (∀ x ∈ l, x.key.length ≤ 1099511627776 ∧ x.val.length ≤ 1099511627776)) (hl40 : Ok (l.length ≤ 1099511627776)) :
    FnT Tryz.prog C 54 #[.agg #[u6 seq, .slice a l.length cap]] [H] (fun rv_ rL_ => ∃ t : List UInt8, ∃ e : Nat, (bytesB seq l = (t, e)) ∧ (t.length ≤ 8800018) ∧ rv_ = .tuple #[str t, n6 e] ∧ rL_ = [H]) := by
  replace hseq := hseq.h
  replace hk := hk.h
  replace hl40 := hl40.h
  refine fE 49 Tryz.func54 rfl ?_
  refine cd_rg ?_
  refine rQ [] [] [0, 1, 2] (True) [(0, .agg #[u6 seq, .slice a l.length cap])] (trivial) ?_
  refine rN 0 [1, 2] (.cells #[u6 seq, .slice a l.length cap] 32 (0, 0)) p0 (fun b1 => ?_)
  refine rQ [] [1, 2] [] (True) [(1, p0 b1)] (trivial) ?_
  refine rF ?_
  refine cd_seq ?_
  refine cd_rg ?_
  refine rQ [(0, .at 1)] [0] [1, 2] ((b1 = b1)) [(1, p0 b1), (8, .agg #[u6 seq, .slice a l.length cap])] (rfl) ?_
  refine rR 1 [2] (check_any C seq cap _ a l (SeesL.mono hl (by intro p hp; simp [hp])) ⟨by first | ((simp only [List.length_append, List.length_cons, List.length_nil, little_len]; omega); done) | ((have h8 := textB_len x1.key; simp only [List.length_append, List.length_cons, List.length_nil]; omega); done) | ((have h8 := textB_len x1.key; have h9 := textB_len x1.val; simp only [List.length_append, List.length_cons, List.length_nil]; omega); done) | exact Ok.h {}⟩ ⟨by first | ((simp only [List.length_append, List.length_cons, List.length_nil, little_len]; omega); done) | ((have h8 := textB_len x1.key; simp only [List.length_append, List.length_cons, List.length_nil]; omega); done) | ((have h8 := textB_len x1.key; have h9 := textB_len x1.val; simp only [List.length_append, List.length_cons, List.length_nil]; omega); done) | exact Ok.h {}⟩) ?_
  rintro _ rfl
  refine rQ [] [2] [] (True) [(1, p0 b1), (4, n6 (checkB seq l))] (trivial) ?_
  refine rF ?_
  refine cQ [] (True) [(1, p0 b1), (4, n6 (checkB seq l)), (11, .bool (((checkB seq l : Nat) : Int) != 0))] (trivial) ?_
  refine cI (((checkB seq l : Nat) : Int) != 0) (fun h1 => ?_) (fun h1 => ?_)
  · have h1p : ((checkB seq l : Nat) : Int) ≠ 0 := by simpa using h1
    refine cQ [] (True) [(2, str []), (3, n6 (checkB seq l))] (trivial) ?_
    refine cT [0] [H] ?_
    refine cd_ret (then_ret (bot_ret (rv [str [], n6 (checkB seq l)] (.tuple #[str [], n6 (checkB seq l)]) ?_)))
    refine ⟨[], checkB seq l, ?_, ?_, ?_, rfl⟩
    all_goals first | with_reducible rfl | (exact bytesB_bad rfl (by omega); done) | (exact hI.done (by omega) (by omega); done) | with_reducible assumption | omega | rfl | (simp_all; done) | (simp_all; omega)
  · have h1p : ¬ (((checkB seq l : Nat) : Int) ≠ 0) := by simpa using h1
    refine cd_skip (then_n ?_)
    have hall := check_all (show checkB seq l = 0 by omega)
    have hlen := check_len (show checkB seq l = 0 by omega)
    have hnl := numB_len l.length
    refine cd_rg ?_
    refine rQ [] [] [0] (True) [(1, p0 b1)] (trivial) ?_
    refine rN 0 [] (.cells #[.pointer none, .slice none 0 0] 191 (0, 0)) p0 (fun b2 => ?_)
    refine rD [(1, p0 b1), (5, p0 b2)] ?_
    refine dr [H, bk b1 32 #[u6 seq, .slice a l.length cap]] [bk b2 191 #[.pointer none, .slice none 0 0]] [2] 10 ?_
    refine aS [(1, .at 1), (4, .at 1)] [0, 3, 1, 4, 5, 6] ((b1 = b1) ∧ (b1 = b1) ∧ (inKind .u64 (l.length : Int))) [(1, p0 b1), (5, p0 b2), (14, u6 seq), (19, u6 l.length)] (bm 10 123) 4 (⟨rfl, rfl, inK_u64 (by omega)⟩) ?_
    refine aI (i := 2) ?_
    refine xC [] [bk b2 191 #[.pointer none, .slice none 0 0]] [1, 5, 15, 19] (bm 10 127) (wide_any2 C seq ⟨by first | ((simp only [List.length_append, List.length_cons, List.length_nil, little_len]; omega); done) | ((have h8 := textB_len x1.key; simp only [List.length_append, List.length_cons, List.length_nil]; omega); done) | ((have h8 := textB_len x1.key; have h9 := textB_len x1.val; simp only [List.length_append, List.length_cons, List.length_nil]; omega); done) | exact Ok.h {}⟩) ?_
    rintro _ _ ⟨rfl, rfl⟩
    refine aI (i := 7) ?_
    refine xC [] [bk b2 191 #[.pointer none, .slice none 0 0]] [1, 5, 15, 20] (bm 10 255) (num_any2 C l.length ⟨by first | ((simp only [List.length_append, List.length_cons, List.length_nil, little_len]; omega); done) | ((have h8 := textB_len x1.key; simp only [List.length_append, List.length_cons, List.length_nil]; omega); done) | ((have h8 := textB_len x1.key; have h9 := textB_len x1.val; simp only [List.length_append, List.length_cons, List.length_nil]; omega); done) | exact Ok.h {}⟩) ?_
    rintro _ _ ⟨rfl, rfl⟩
    refine aS [] [8] (((little 8 seq).length + (numB l.length).length ≤ 9223372036854775807)) [(1, p0 b1), (5, p0 b2), (21, str ((little 8 seq) ++ (numB l.length)))] (bm 10 511) 1 (by have := numB_len l.length; simp [little_len]; omega) ?_
    refine aI (i := 9) ?_
    refine xC [0] [] [1, 5] (bm 10 1023) (writeString_any C b2 [] ((little 8 seq) ++ (numB l.length)) (bk b2 191 #[.pointer none, .slice none 0 0]) (BldL.fresh b2) (by first | ((simp only [List.length_append, List.length_cons, List.length_nil, little_len]; omega); done) | ((have h8 := textB_len x1.key; simp only [List.length_append, List.length_cons, List.length_nil]; omega); done) | ((have h8 := textB_len x1.key; have h9 := textB_len x1.val; simp only [List.length_append, List.length_cons, List.length_nil]; omega); done) | exact Ok.h {})) ?_
    rintro _ _ ⟨L1_1, h2, rfl, rfl⟩
    refine aE [(1, p0 b1), (5, p0 b2)] [H, bk b1 32 #[u6 seq, .slice a l.length cap], L1_1] ?_
    refine cd_seq ?_
    refine cQ [(1, .at 1)] ((b1 = b1)) [(5, p0 b2), (24, .slice a l.length cap), (25, n6 l.length), (26, z6 0)] (rfl) ?_
    refine cd_block ?_
    refine lp (fun x : (List UInt8) × Blks × Nat => [(5, p0 b2), (24, .slice a l.length cap), (25, n6 l.length), (26, n6 x.2.2)]) (fun x : (List UInt8) × Blks × Nat => [H, bk b1 32 #[u6 seq, .slice a l.length cap], x.2.1]) (fun x : (List UInt8) × Blks × Nat => BytInv seq l x.2.2 x.1 ∧ BldL b2 x.1 x.2.1) (fun x : (List UInt8) × Blks × Nat => l.length - x.2.2) (([] ++ ((little 8 seq) ++ (numB l.length)), L1_1, 0)) (show BytInv seq l 0 ([] ++ ((little 8 seq) ++ (numB l.length))) ∧ BldL b2 ([] ++ ((little 8 seq) ++ (numB l.length))) L1_1 from ⟨BytInv.start seq l, h2⟩) ?_
    rintro ⟨o, Lr, i⟩ hI
    replace hI : BytInv seq l i o ∧ BldL b2 o Lr := hI
    obtain ⟨hI, hB⟩ := hI
    have hil := hI.1
    have hol := hI.2.2
    refine cQ [] (True) [(5, p0 b2), (24, .slice a l.length cap), (25, n6 l.length), (26, n6 i), (27, .bool (decide ((i : Int) < (l.length : Int))))] (trivial) ?_
    refine cd_seq ?_
    refine cI (decide ((i : Int) < (l.length : Int))) (fun h3 => ?_) (fun h3 => ?_)
    · have h3p : (i : Int) < (l.length : Int) := by simpa using h3
      refine cd_skip (then_n ?_)
      refine cd_seq ?_
      refine cd_block ?_
      obtain ⟨b3, o1, ha1⟩ := (hl).addr (by first | omega | (simp at *; omega))
      subst ha1
      obtain ⟨x1, hx1⟩ : ∃ x, l[i]? = some x := ⟨_, List.getElem?_eq_getElem (by first | omega | (simp at *; omega))⟩
      refine cd_rg ?_
      refine rQ [(1, .fact (.agg #[z6 x1.kind, str x1.key, str x1.val]))] [0, 1] [2, 3] ((0 ≤ (i : Int) ∧ (i : Int) < (l.length : Int)) ∧ (HasLoad Tryz.prog C [H, bk b1 32 #[u6 seq, .slice (some ⟨b3, o1, none⟩) l.length cap], Lr] 107 ⟨b3, o1 + i * 3, none⟩ (.agg #[z6 x1.kind, str x1.key, str x1.val]))) [(5, p0 b2), (24, .slice (some ⟨b3, o1, none⟩) l.length cap), (25, n6 l.length), (26, n6 i), (29, .agg #[z6 x1.kind, str x1.key, str x1.val])] (⟨⟨by omega, by omega⟩, (hl).elem (P := Tryz.prog) (by intro p hp; simp [hp]) 107 i hx1 (by kernel_rfl) (by kernel_rfl) (by first | exact .inl ⟨by kernel_rfl, rfl⟩ | exact .inr ⟨by kernel_rfl, rfl⟩)⟩) ?_
      refine rN 2 [3] (.cells #[z6 0, str [], str []] 107 (0, 0)) p0 (fun b4 => ?_)
      refine rS [(3, .at 3)] [3] [] ((b4 = b4)) [(5, p0 b2), (7, p0 b4), (24, .slice (some ⟨b3, o1, none⟩) l.length cap), (25, n6 l.length), (26, n6 i)] [H, bk b1 32 #[u6 seq, .slice (some ⟨b3, o1, none⟩) l.length cap], Lr, bk b4 107 #[z6 x1.kind, str x1.key, str x1.val]] (rfl) ?_
      refine rF ?_
      have hx := hall x1 (List.mem_of_getElem? hx1)
      refine dr [H, bk b1 32 #[u6 seq, .slice (some ⟨b3, o1, none⟩) l.length cap], bk b4 107 #[z6 x1.kind, str x1.key, str x1.val]] [Lr] [2] 10 ?_
      refine aS [(1, .at 2), (6, .at 2)] [0, 5, 1, 6, 2] ((b4 = b4) ∧ (b4 = b4) ∧ (inKind .u8 x1.kind)) [(5, p0 b2), (7, p0 b4), (24, .slice (some ⟨b3, o1, none⟩) l.length cap), (25, n6 l.length), (26, n6 i), (32, .int .u8 x1.kind), (36, str x1.key)] (bm 10 103) 5 (⟨rfl, rfl, inK_u8 (by omega)⟩) ?_
      refine aII (i := 3) (j := 7) ?_ ?_
      ·
        refine xN (.cells #[.int .u8 x1.kind] 5 (0, 0)) (fun b5 => sl b5 1 1) [5, 7, 24, 25, 26, 33, 36] (bm 10 111) (fun b5 => ?_)
        refine aII (i := 4) (j := 7) ?_ ?_
        ·
          refine xX (do pure (.value (← convert 189 9 (sl b5 1 1)))) [1] [bk b5 5 #[.int .u8 x1.kind]] [Lr] [5, 7, 24, 25, 26, 34, 36] (bm 10 127) (gv_conv (by kernel_rfl) (gv_bytes [x1.kind] rfl rfl)) ?_
          rintro _ _ ⟨rfl, rfl⟩
          refine aI (i := 7) ?_
          refine xC [] [bk b5 5 #[.int .u8 x1.kind], Lr] [5, 7, 24, 25, 26, 34, 37] (bm 10 255) (text_any2 C x1.key ⟨by first | ((simp only [List.length_append, List.length_cons, List.length_nil, little_len]; omega); done) | ((have h8 := textB_len x1.key; simp only [List.length_append, List.length_cons, List.length_nil]; omega); done) | ((have h8 := textB_len x1.key; have h9 := textB_len x1.val; simp only [List.length_append, List.length_cons, List.length_nil]; omega); done) | exact Ok.h {}⟩) ?_
          rintro _ _ ⟨rfl, rfl⟩
          refine aS [] [8] (([UInt8.ofNat x1.kind.toNat].length + (textB x1.key).length ≤ 9223372036854775807)) [(5, p0 b2), (7, p0 b4), (24, .slice (some ⟨b3, o1, none⟩) l.length cap), (25, n6 l.length), (26, n6 i), (38, str ([UInt8.ofNat x1.kind.toNat] ++ (textB x1.key)))] (bm 10 511) 1 (by have := textB_len x1.key; simp; omega) ?_
          refine aI (i := 9) ?_
          refine xC [1] [bk b5 5 #[.int .u8 x1.kind]] [5, 7, 24, 25, 26] (bm 10 1023) (writeString_any C b2 o ([UInt8.ofNat x1.kind.toNat] ++ (textB x1.key)) Lr hB (by first | ((simp only [List.length_append, List.length_cons, List.length_nil, little_len]; omega); done) | ((have h8 := textB_len x1.key; simp only [List.length_append, List.length_cons, List.length_nil]; omega); done) | ((have h8 := textB_len x1.key; have h9 := textB_len x1.val; simp only [List.length_append, List.length_cons, List.length_nil]; omega); done) | exact Ok.h {})) ?_
          rintro _ _ ⟨L1_2, h4, rfl, rfl⟩
          refine aE [(5, p0 b2), (7, p0 b4), (24, .slice (some ⟨b3, o1, none⟩) l.length cap), (25, n6 l.length), (26, n6 i)] [H, bk b1 32 #[u6 seq, .slice (some ⟨b3, o1, none⟩) l.length cap], bk b4 107 #[z6 x1.kind, str x1.key, str x1.val], L1_2, bk b5 5 #[.int .u8 x1.kind]] ?_
          refine cQ [(1, .at 2)] ((b4 = b4)) [(5, p0 b2), (7, p0 b4), (24, .slice (some ⟨b3, o1, none⟩) l.length cap), (25, n6 l.length), (26, n6 i), (42, .bool (x1.kind == 1))] (rfl) ?_
          refine cI (x1.kind == 1) (fun h5 => ?_) (fun h5 => ?_)
          · have h5p : x1.kind = 1 := by simpa using h5
            refine cd_region ?_
            refine rQ [(1, .at 2)] [0, 1] [2, 3] ((b4 = b4)) [(5, p0 b2), (24, .slice (some ⟨b3, o1, none⟩) l.length cap), (25, n6 l.length), (26, n6 i), (44, str x1.val)] (rfl) ?_
            refine rC 2 [3] [] [H, bk b1 32 #[u6 seq, .slice (some ⟨b3, o1, none⟩) l.length cap], bk b4 107 #[z6 x1.kind, str x1.key, str x1.val], L1_2, bk b5 5 #[.int .u8 x1.kind]] (text_any2 C x1.val ⟨by first | ((simp only [List.length_append, List.length_cons, List.length_nil, little_len]; omega); done) | ((have h8 := textB_len x1.key; simp only [List.length_append, List.length_cons, List.length_nil]; omega); done) | ((have h8 := textB_len x1.key; have h9 := textB_len x1.val; simp only [List.length_append, List.length_cons, List.length_nil]; omega); done) | exact Ok.h {}⟩) ?_
            rintro _ _ ⟨rfl, rfl⟩
            refine rC 3 [] [3] [H, bk b1 32 #[u6 seq, .slice (some ⟨b3, o1, none⟩) l.length cap], bk b4 107 #[z6 x1.kind, str x1.key, str x1.val], bk b5 5 #[.int .u8 x1.kind]] (writeString_any C b2 (o ++ ([UInt8.ofNat x1.kind.toNat] ++ (textB x1.key))) (textB x1.val) L1_2 h4 (by first | ((simp only [List.length_append, List.length_cons, List.length_nil, little_len]; omega); done) | ((have h8 := textB_len x1.key; simp only [List.length_append, List.length_cons, List.length_nil]; omega); done) | ((have h8 := textB_len x1.key; have h9 := textB_len x1.val; simp only [List.length_append, List.length_cons, List.length_nil]; omega); done) | exact Ok.h {})) ?_
            rintro _ _ ⟨L1_3, h6, rfl, rfl⟩
            refine rg_nil ?_
            refine (block_n (then_n ?_))
            refine cd_region ?_
            refine rQ [] [0, 1] [] ((inKind .i64 ((i : Int) + 1))) [(5, p0 b2), (24, .slice (some ⟨b3, o1, none⟩) l.length cap), (25, n6 l.length), (26, n6 (i + 1))] (inK_i64 (by omega)) ?_
            refine rT [1, 1, 0] [H, bk b1 32 #[u6 seq, .slice (some ⟨b3, o1, none⟩) l.length cap], L1_3] ?_
            refine rg_nil ?_
            refine (lM (((o ++ ([UInt8.ofNat x1.kind.toNat] ++ (textB x1.key))) ++ (textB x1.val), L1_3, i + 1)) (show BytInv seq l (i + 1) ((o ++ ([UInt8.ofNat x1.kind.toNat] ++ (textB x1.key))) ++ (textB x1.val)) ∧ BldL b2 ((o ++ ([UInt8.ofNat x1.kind.toNat] ++ (textB x1.key))) ++ (textB x1.val)) L1_3 from ⟨hI.put hx1 (by assumption) (by omega) (by omega), h6⟩) (show (l.length - (i + 1)) < (l.length - i) by omega))
          · have h5p : ¬ (x1.kind = 1) := by simpa using h5
            refine cd_skip (block_n (then_n ?_))
            refine cd_region ?_
            refine rQ [] [0, 1] [] ((inKind .i64 ((i : Int) + 1))) [(5, p0 b2), (24, .slice (some ⟨b3, o1, none⟩) l.length cap), (25, n6 l.length), (26, n6 (i + 1))] (inK_i64 (by omega)) ?_
            refine rT [0, 0, 1] [H, bk b1 32 #[u6 seq, .slice (some ⟨b3, o1, none⟩) l.length cap], L1_2] ?_
            refine rg_nil ?_
            refine (lM ((o ++ ([UInt8.ofNat x1.kind.toNat] ++ (textB x1.key)), L1_2, i + 1)) (show BytInv seq l (i + 1) (o ++ ([UInt8.ofNat x1.kind.toNat] ++ (textB x1.key))) ∧ BldL b2 (o ++ ([UInt8.ofNat x1.kind.toNat] ++ (textB x1.key))) L1_2 from ⟨hI.del hx1 (by assumption) (by omega), h4⟩) (show (l.length - (i + 1)) < (l.length - i) by omega))
        ·
          refine xC [] [Lr, bk b5 5 #[.int .u8 x1.kind]] [5, 7, 24, 25, 26, 33, 37] (bm 10 239) (text_any2 C x1.key ⟨by first | ((simp only [List.length_append, List.length_cons, List.length_nil, little_len]; omega); done) | ((have h8 := textB_len x1.key; simp only [List.length_append, List.length_cons, List.length_nil]; omega); done) | ((have h8 := textB_len x1.key; have h9 := textB_len x1.val; simp only [List.length_append, List.length_cons, List.length_nil]; omega); done) | exact Ok.h {}⟩) ?_
          rintro _ _ ⟨rfl, rfl⟩
          refine aI (i := 4) ?_
          refine xX (do pure (.value (← convert 189 9 (sl b5 1 1)))) [1] [bk b5 5 #[.int .u8 x1.kind]] [Lr] [5, 7, 24, 25, 26, 34, 37] (bm 10 255) (gv_conv (by kernel_rfl) (gv_bytes [x1.kind] rfl rfl)) ?_
          rintro _ _ ⟨rfl, rfl⟩
          refine aS [] [8] (([UInt8.ofNat x1.kind.toNat].length + (textB x1.key).length ≤ 9223372036854775807)) [(5, p0 b2), (7, p0 b4), (24, .slice (some ⟨b3, o1, none⟩) l.length cap), (25, n6 l.length), (26, n6 i), (38, str ([UInt8.ofNat x1.kind.toNat] ++ (textB x1.key)))] (bm 10 511) 1 (by have := textB_len x1.key; simp; omega) ?_
          refine aI (i := 9) ?_
          refine xC [1] [bk b5 5 #[.int .u8 x1.kind]] [5, 7, 24, 25, 26] (bm 10 1023) (writeString_any C b2 o ([UInt8.ofNat x1.kind.toNat] ++ (textB x1.key)) Lr hB (by first | ((simp only [List.length_append, List.length_cons, List.length_nil, little_len]; omega); done) | ((have h8 := textB_len x1.key; simp only [List.length_append, List.length_cons, List.length_nil]; omega); done) | ((have h8 := textB_len x1.key; have h9 := textB_len x1.val; simp only [List.length_append, List.length_cons, List.length_nil]; omega); done) | exact Ok.h {})) ?_
          rintro _ _ ⟨L1_4, h7, rfl, rfl⟩
          refine aE [(5, p0 b2), (7, p0 b4), (24, .slice (some ⟨b3, o1, none⟩) l.length cap), (25, n6 l.length), (26, n6 i)] [H, bk b1 32 #[u6 seq, .slice (some ⟨b3, o1, none⟩) l.length cap], bk b4 107 #[z6 x1.kind, str x1.key, str x1.val], L1_4, bk b5 5 #[.int .u8 x1.kind]] ?_
          refine cQ [(1, .at 2)] ((b4 = b4)) [(5, p0 b2), (7, p0 b4), (24, .slice (some ⟨b3, o1, none⟩) l.length cap), (25, n6 l.length), (26, n6 i), (42, .bool (x1.kind == 1))] (rfl) ?_
          refine cI (x1.kind == 1) (fun h8 => ?_) (fun h8 => ?_)
          · have h8p : x1.kind = 1 := by simpa using h8
            refine cd_region ?_
            refine rQ [(1, .at 2)] [0, 1] [2, 3] ((b4 = b4)) [(5, p0 b2), (24, .slice (some ⟨b3, o1, none⟩) l.length cap), (25, n6 l.length), (26, n6 i), (44, str x1.val)] (rfl) ?_
            refine rC 2 [3] [] [H, bk b1 32 #[u6 seq, .slice (some ⟨b3, o1, none⟩) l.length cap], bk b4 107 #[z6 x1.kind, str x1.key, str x1.val], L1_4, bk b5 5 #[.int .u8 x1.kind]] (text_any2 C x1.val ⟨by first | ((simp only [List.length_append, List.length_cons, List.length_nil, little_len]; omega); done) | ((have h8 := textB_len x1.key; simp only [List.length_append, List.length_cons, List.length_nil]; omega); done) | ((have h8 := textB_len x1.key; have h9 := textB_len x1.val; simp only [List.length_append, List.length_cons, List.length_nil]; omega); done) | exact Ok.h {}⟩) ?_
            rintro _ _ ⟨rfl, rfl⟩
            refine rC 3 [] [3] [H, bk b1 32 #[u6 seq, .slice (some ⟨b3, o1, none⟩) l.length cap], bk b4 107 #[z6 x1.kind, str x1.key, str x1.val], bk b5 5 #[.int .u8 x1.kind]] (writeString_any C b2 (o ++ ([UInt8.ofNat x1.kind.toNat] ++ (textB x1.key))) (textB x1.val) L1_4 h7 (by first | ((simp only [List.length_append, List.length_cons, List.length_nil, little_len]; omega); done) | ((have h8 := textB_len x1.key; simp only [List.length_append, List.length_cons, List.length_nil]; omega); done) | ((have h8 := textB_len x1.key; have h9 := textB_len x1.val; simp only [List.length_append, List.length_cons, List.length_nil]; omega); done) | exact Ok.h {})) ?_
            rintro _ _ ⟨L1_5, h9, rfl, rfl⟩
            refine rg_nil ?_
            refine (block_n (then_n ?_))
            refine cd_region ?_
            refine rQ [] [0, 1] [] ((inKind .i64 ((i : Int) + 1))) [(5, p0 b2), (24, .slice (some ⟨b3, o1, none⟩) l.length cap), (25, n6 l.length), (26, n6 (i + 1))] (inK_i64 (by omega)) ?_
            refine rT [1, 1, 0] [H, bk b1 32 #[u6 seq, .slice (some ⟨b3, o1, none⟩) l.length cap], L1_5] ?_
            refine rg_nil ?_
            refine (lM (((o ++ ([UInt8.ofNat x1.kind.toNat] ++ (textB x1.key))) ++ (textB x1.val), L1_5, i + 1)) (show BytInv seq l (i + 1) ((o ++ ([UInt8.ofNat x1.kind.toNat] ++ (textB x1.key))) ++ (textB x1.val)) ∧ BldL b2 ((o ++ ([UInt8.ofNat x1.kind.toNat] ++ (textB x1.key))) ++ (textB x1.val)) L1_5 from ⟨hI.put hx1 (by assumption) (by omega) (by omega), h9⟩) (show (l.length - (i + 1)) < (l.length - i) by omega))
          · have h8p : ¬ (x1.kind = 1) := by simpa using h8
            refine cd_skip (block_n (then_n ?_))
            refine cd_region ?_
            refine rQ [] [0, 1] [] ((inKind .i64 ((i : Int) + 1))) [(5, p0 b2), (24, .slice (some ⟨b3, o1, none⟩) l.length cap), (25, n6 l.length), (26, n6 (i + 1))] (inK_i64 (by omega)) ?_
            refine rT [0, 0, 1] [H, bk b1 32 #[u6 seq, .slice (some ⟨b3, o1, none⟩) l.length cap], L1_4] ?_
            refine rg_nil ?_
            refine (lM ((o ++ ([UInt8.ofNat x1.kind.toNat] ++ (textB x1.key)), L1_4, i + 1)) (show BytInv seq l (i + 1) (o ++ ([UInt8.ofNat x1.kind.toNat] ++ (textB x1.key))) ∧ BldL b2 (o ++ ([UInt8.ofNat x1.kind.toNat] ++ (textB x1.key))) L1_4 from ⟨hI.del hx1 (by assumption) (by omega), h7⟩) (show (l.length - (i + 1)) < (l.length - i) by omega))
      ·
        refine xC [] [Lr] [5, 7, 24, 25, 26, 32, 37] (bm 10 231) (text_any2 C x1.key ⟨by first | ((simp only [List.length_append, List.length_cons, List.length_nil, little_len]; omega); done) | ((have h8 := textB_len x1.key; simp only [List.length_append, List.length_cons, List.length_nil]; omega); done) | ((have h8 := textB_len x1.key; have h9 := textB_len x1.val; simp only [List.length_append, List.length_cons, List.length_nil]; omega); done) | exact Ok.h {}⟩) ?_
        rintro _ _ ⟨rfl, rfl⟩
        refine aI (i := 3) ?_
        refine xN (.cells #[.int .u8 x1.kind] 5 (0, 0)) (fun b6 => sl b6 1 1) [5, 7, 24, 25, 26, 33, 37] (bm 10 239) (fun b6 => ?_)
        refine aI (i := 4) ?_
        refine xX (do pure (.value (← convert 189 9 (sl b6 1 1)))) [1] [bk b6 5 #[.int .u8 x1.kind]] [Lr] [5, 7, 24, 25, 26, 34, 37] (bm 10 255) (gv_conv (by kernel_rfl) (gv_bytes [x1.kind] rfl rfl)) ?_
        rintro _ _ ⟨rfl, rfl⟩
        refine aS [] [8] (([UInt8.ofNat x1.kind.toNat].length + (textB x1.key).length ≤ 9223372036854775807)) [(5, p0 b2), (7, p0 b4), (24, .slice (some ⟨b3, o1, none⟩) l.length cap), (25, n6 l.length), (26, n6 i), (38, str ([UInt8.ofNat x1.kind.toNat] ++ (textB x1.key)))] (bm 10 511) 1 (by have := textB_len x1.key; simp; omega) ?_
        refine aI (i := 9) ?_
        refine xC [1] [bk b6 5 #[.int .u8 x1.kind]] [5, 7, 24, 25, 26] (bm 10 1023) (writeString_any C b2 o ([UInt8.ofNat x1.kind.toNat] ++ (textB x1.key)) Lr hB (by first | ((simp only [List.length_append, List.length_cons, List.length_nil, little_len]; omega); done) | ((have h8 := textB_len x1.key; simp only [List.length_append, List.length_cons, List.length_nil]; omega); done) | ((have h8 := textB_len x1.key; have h9 := textB_len x1.val; simp only [List.length_append, List.length_cons, List.length_nil]; omega); done) | exact Ok.h {})) ?_
        rintro _ _ ⟨L1_6, h10, rfl, rfl⟩
        refine aE [(5, p0 b2), (7, p0 b4), (24, .slice (some ⟨b3, o1, none⟩) l.length cap), (25, n6 l.length), (26, n6 i)] [H, bk b1 32 #[u6 seq, .slice (some ⟨b3, o1, none⟩) l.length cap], bk b4 107 #[z6 x1.kind, str x1.key, str x1.val], L1_6, bk b6 5 #[.int .u8 x1.kind]] ?_
        refine cQ [(1, .at 2)] ((b4 = b4)) [(5, p0 b2), (7, p0 b4), (24, .slice (some ⟨b3, o1, none⟩) l.length cap), (25, n6 l.length), (26, n6 i), (42, .bool (x1.kind == 1))] (rfl) ?_
        refine cI (x1.kind == 1) (fun h11 => ?_) (fun h11 => ?_)
        · have h11p : x1.kind = 1 := by simpa using h11
          refine cd_region ?_
          refine rQ [(1, .at 2)] [0, 1] [2, 3] ((b4 = b4)) [(5, p0 b2), (24, .slice (some ⟨b3, o1, none⟩) l.length cap), (25, n6 l.length), (26, n6 i), (44, str x1.val)] (rfl) ?_
          refine rC 2 [3] [] [H, bk b1 32 #[u6 seq, .slice (some ⟨b3, o1, none⟩) l.length cap], bk b4 107 #[z6 x1.kind, str x1.key, str x1.val], L1_6, bk b6 5 #[.int .u8 x1.kind]] (text_any2 C x1.val ⟨by first | ((simp only [List.length_append, List.length_cons, List.length_nil, little_len]; omega); done) | ((have h8 := textB_len x1.key; simp only [List.length_append, List.length_cons, List.length_nil]; omega); done) | ((have h8 := textB_len x1.key; have h9 := textB_len x1.val; simp only [List.length_append, List.length_cons, List.length_nil]; omega); done) | exact Ok.h {}⟩) ?_
          rintro _ _ ⟨rfl, rfl⟩
          refine rC 3 [] [3] [H, bk b1 32 #[u6 seq, .slice (some ⟨b3, o1, none⟩) l.length cap], bk b4 107 #[z6 x1.kind, str x1.key, str x1.val], bk b6 5 #[.int .u8 x1.kind]] (writeString_any C b2 (o ++ ([UInt8.ofNat x1.kind.toNat] ++ (textB x1.key))) (textB x1.val) L1_6 h10 (by first | ((simp only [List.length_append, List.length_cons, List.length_nil, little_len]; omega); done) | ((have h8 := textB_len x1.key; simp only [List.length_append, List.length_cons, List.length_nil]; omega); done) | ((have h8 := textB_len x1.key; have h9 := textB_len x1.val; simp only [List.length_append, List.length_cons, List.length_nil]; omega); done) | exact Ok.h {})) ?_
          rintro _ _ ⟨L1_7, h12, rfl, rfl⟩
          refine rg_nil ?_
          refine (block_n (then_n ?_))
          refine cd_region ?_
          refine rQ [] [0, 1] [] ((inKind .i64 ((i : Int) + 1))) [(5, p0 b2), (24, .slice (some ⟨b3, o1, none⟩) l.length cap), (25, n6 l.length), (26, n6 (i + 1))] (inK_i64 (by omega)) ?_
          refine rT [1, 1, 0] [H, bk b1 32 #[u6 seq, .slice (some ⟨b3, o1, none⟩) l.length cap], L1_7] ?_
          refine rg_nil ?_
          refine (lM (((o ++ ([UInt8.ofNat x1.kind.toNat] ++ (textB x1.key))) ++ (textB x1.val), L1_7, i + 1)) (show BytInv seq l (i + 1) ((o ++ ([UInt8.ofNat x1.kind.toNat] ++ (textB x1.key))) ++ (textB x1.val)) ∧ BldL b2 ((o ++ ([UInt8.ofNat x1.kind.toNat] ++ (textB x1.key))) ++ (textB x1.val)) L1_7 from ⟨hI.put hx1 (by assumption) (by omega) (by omega), h12⟩) (show (l.length - (i + 1)) < (l.length - i) by omega))
        · have h11p : ¬ (x1.kind = 1) := by simpa using h11
          refine cd_skip (block_n (then_n ?_))
          refine cd_region ?_
          refine rQ [] [0, 1] [] ((inKind .i64 ((i : Int) + 1))) [(5, p0 b2), (24, .slice (some ⟨b3, o1, none⟩) l.length cap), (25, n6 l.length), (26, n6 (i + 1))] (inK_i64 (by omega)) ?_
          refine rT [0, 0, 1] [H, bk b1 32 #[u6 seq, .slice (some ⟨b3, o1, none⟩) l.length cap], L1_6] ?_
          refine rg_nil ?_
          refine (lM ((o ++ ([UInt8.ofNat x1.kind.toNat] ++ (textB x1.key)), L1_6, i + 1)) (show BytInv seq l (i + 1) (o ++ ([UInt8.ofNat x1.kind.toNat] ++ (textB x1.key))) ∧ BldL b2 (o ++ ([UInt8.ofNat x1.kind.toNat] ++ (textB x1.key))) L1_6 from ⟨hI.del hx1 (by assumption) (by omega), h10⟩) (show (l.length - (i + 1)) < (l.length - i) by omega))
    · have h3p : ¬ ((i : Int) < (l.length : Int)) := by simpa using h3
      refine cd_exit (then_exit (then_exit (block_hit (then_n ?_))))
      refine cd_rg ?_
      refine rQ [] [] [0, 1, 2] (True) [(5, p0 b2)] (trivial) ?_
      refine rC 0 [1, 2] [2] [H, bk b1 32 #[u6 seq, .slice a l.length cap]] (string_any C b2 o Lr hB (by first | ((simp only [List.length_append, List.length_cons, List.length_nil, little_len]; omega); done) | ((have h8 := textB_len x1.key; simp only [List.length_append, List.length_cons, List.length_nil]; omega); done) | ((have h8 := textB_len x1.key; have h9 := textB_len x1.val; simp only [List.length_append, List.length_cons, List.length_nil]; omega); done) | exact Ok.h {})) ?_
      rintro _ _ ⟨L1_8, h13, rfl, rfl⟩
      refine rQ [] [1, 2] [] (True) [(2, str o), (3, z6 0)] (trivial) ?_
      refine rF ?_
      refine cT [1] [H] ?_
      refine cd_ret (bot_ret (rv [str o, z6 0] (.tuple #[str o, z6 0]) ?_))
      refine ⟨o, 0, ?_, ?_, ?_, rfl⟩
      all_goals first | with_reducible rfl | (exact bytesB_bad rfl (by omega); done) | (exact hI.done (by omega) (by omega); done) | with_reducible assumption | omega | rfl | (simp_all; done) | (simp_all; omega)

set_option maxRecDepth 100000 in
theorem small_any (C : Ctx) (n : Nat) (hn : Ok (n < 100)) :
    FnT Tryz.prog C 202 #[n6 n] [] (fun rv_ rL_ => rv_ = str (dec2 n) ∧ rL_ = []) := by
  replace hn := hn.h
  refine fE 15 Tryz.func202 rfl ?_
  refine cQ [] (True) [(0, n6 n)] (trivial) ?_
  refine cd_seq ?_
  refine cQ [] (True) [(0, n6 n), (4, .bool (decide ((n : Int) < 10)))] (trivial) ?_
  refine cI (decide ((n : Int) < 10)) (fun h1 => ?_) (fun h1 => ?_)
  · have h1p : (n : Int) < 10 := by simpa using h1
    refine cQ [] ((inKind .i64 ((n : Int) + 1)) ∧ (0 ≤ (n : Int) ∧ (n : Int) ≤ ((n : Int) + 1) ∧ ((n : Int) + 1) ≤ ([48, 49, 50, 51, 52, 53, 54, 55, 56, 57, 97, 98, 99, 100, 101, 102, 103, 104, 105, 106, 107, 108, 109, 110, 111, 112, 113, 114, 115, 116, 117, 118, 119, 120, 121, 122].length : Int))) [(2, str (([48, 49, 50, 51, 52, 53, 54, 55, 56, 57, 97, 98, 99, 100, 101, 102, 103, 104, 105, 106, 107, 108, 109, 110, 111, 112, 113, 114, 115, 116, 117, 118, 119, 120, 121, 122].take (n + 1)).drop n))] (⟨inK_i64 (by omega), ⟨by omega, by omega, Int.le_trans (show _ ≤ (36 : Int) by omega) (Int.le_of_eq (by kernel_rfl))⟩⟩) ?_
    refine cd_ret (then_ret (bot_ret (rv [str (([48, 49, 50, 51, 52, 53, 54, 55, 56, 57, 97, 98, 99, 100, 101, 102, 103, 104, 105, 106, 107, 108, 109, 110, 111, 112, 113, 114, 115, 116, 117, 118, 119, 120, 121, 122].take (n + 1)).drop n)] (str (([48, 49, 50, 51, 52, 53, 54, 55, 56, 57, 97, 98, 99, 100, 101, 102, 103, 104, 105, 106, 107, 108, 109, 110, 111, 112, 113, 114, 115, 116, 117, 118, 119, 120, 121, 122].take (n + 1)).drop n)) ?_)))
    refine ⟨?_, rfl⟩
    all_goals first | with_reducible rfl | (rw [small_one n (by omega)]; done) | (exact congrArg str (small_two n (by omega) (by omega)); done) | with_reducible assumption | omega | rfl | (simp_all; done) | (simp_all; omega)
  · have h1p : ¬ ((n : Int) < 10) := by simpa using h1
    refine cd_skip (then_n ?_)
    refine cQ [] ((inKind .i64 ((n : Int) * 2)) ∧ (inKind .i64 ((n : Int) * 2)) ∧ (inKind .i64 (((n : Int) * 2) + 2)) ∧ (0 ≤ ((n : Int) * 2) ∧ ((n : Int) * 2) ≤ (((n : Int) * 2) + 2) ∧ (((n : Int) * 2) + 2) ≤ ([48, 48, 48, 49, 48, 50, 48, 51, 48, 52, 48, 53, 48, 54, 48, 55, 48, 56, 48, 57, 49, 48, 49, 49, 49, 50, 49, 51, 49, 52, 49, 53, 49, 54, 49, 55, 49, 56, 49, 57, 50, 48, 50, 49, 50, 50, 50, 51, 50, 52, 50, 53, 50, 54, 50, 55, 50, 56, 50, 57, 51, 48, 51, 49, 51, 50, 51, 51, 51, 52, 51, 53, 51, 54, 51, 55, 51, 56, 51, 57, 52, 48, 52, 49, 52, 50, 52, 51, 52, 52, 52, 53, 52, 54, 52, 55, 52, 56, 52, 57, 53, 48, 53, 49, 53, 50, 53, 51, 53, 52, 53, 53, 53, 54, 53, 55, 53, 56, 53, 57, 54, 48, 54, 49, 54, 50, 54, 51, 54, 52, 54, 53, 54, 54, 54, 55, 54, 56, 54, 57, 55, 48, 55, 49, 55, 50, 55, 51, 55, 52, 55, 53, 55, 54, 55, 55, 55, 56, 55, 57, 56, 48, 56, 49, 56, 50, 56, 51, 56, 52, 56, 53, 56, 54, 56, 55, 56, 56, 56, 57, 57, 48, 57, 49, 57, 50, 57, 51, 57, 52, 57, 53, 57, 54, 57, 55, 57, 56, 57, 57].length : Int))) [(2, str (([48, 48, 48, 49, 48, 50, 48, 51, 48, 52, 48, 53, 48, 54, 48, 55, 48, 56, 48, 57, 49, 48, 49, 49, 49, 50, 49, 51, 49, 52, 49, 53, 49, 54, 49, 55, 49, 56, 49, 57, 50, 48, 50, 49, 50, 50, 50, 51, 50, 52, 50, 53, 50, 54, 50, 55, 50, 56, 50, 57, 51, 48, 51, 49, 51, 50, 51, 51, 51, 52, 51, 53, 51, 54, 51, 55, 51, 56, 51, 57, 52, 48, 52, 49, 52, 50, 52, 51, 52, 52, 52, 53, 52, 54, 52, 55, 52, 56, 52, 57, 53, 48, 53, 49, 53, 50, 53, 51, 53, 52, 53, 53, 53, 54, 53, 55, 53, 56, 53, 57, 54, 48, 54, 49, 54, 50, 54, 51, 54, 52, 54, 53, 54, 54, 54, 55, 54, 56, 54, 57, 55, 48, 55, 49, 55, 50, 55, 51, 55, 52, 55, 53, 55, 54, 55, 55, 55, 56, 55, 57, 56, 48, 56, 49, 56, 50, 56, 51, 56, 52, 56, 53, 56, 54, 56, 55, 56, 56, 56, 57, 57, 48, 57, 49, 57, 50, 57, 51, 57, 52, 57, 53, 57, 54, 57, 55, 57, 56, 57, 57].take ((n * 2) + 2)).drop (n * 2)))] (⟨inK_i64 (by omega), inK_i64 (by omega), inK_i64 (by omega), ⟨by omega, by omega, Int.le_trans (show _ ≤ (200 : Int) by omega) (Int.le_of_eq (by kernel_rfl))⟩⟩) ?_
    refine cd_ret (bot_ret (rv [str (([48, 48, 48, 49, 48, 50, 48, 51, 48, 52, 48, 53, 48, 54, 48, 55, 48, 56, 48, 57, 49, 48, 49, 49, 49, 50, 49, 51, 49, 52, 49, 53, 49, 54, 49, 55, 49, 56, 49, 57, 50, 48, 50, 49, 50, 50, 50, 51, 50, 52, 50, 53, 50, 54, 50, 55, 50, 56, 50, 57, 51, 48, 51, 49, 51, 50, 51, 51, 51, 52, 51, 53, 51, 54, 51, 55, 51, 56, 51, 57, 52, 48, 52, 49, 52, 50, 52, 51, 52, 52, 52, 53, 52, 54, 52, 55, 52, 56, 52, 57, 53, 48, 53, 49, 53, 50, 53, 51, 53, 52, 53, 53, 53, 54, 53, 55, 53, 56, 53, 57, 54, 48, 54, 49, 54, 50, 54, 51, 54, 52, 54, 53, 54, 54, 54, 55, 54, 56, 54, 57, 55, 48, 55, 49, 55, 50, 55, 51, 55, 52, 55, 53, 55, 54, 55, 55, 55, 56, 55, 57, 56, 48, 56, 49, 56, 50, 56, 51, 56, 52, 56, 53, 56, 54, 56, 55, 56, 56, 56, 57, 57, 48, 57, 49, 57, 50, 57, 51, 57, 52, 57, 53, 57, 54, 57, 55, 57, 56, 57, 57].take ((n * 2) + 2)).drop (n * 2))] (str (([48, 48, 48, 49, 48, 50, 48, 51, 48, 52, 48, 53, 48, 54, 48, 55, 48, 56, 48, 57, 49, 48, 49, 49, 49, 50, 49, 51, 49, 52, 49, 53, 49, 54, 49, 55, 49, 56, 49, 57, 50, 48, 50, 49, 50, 50, 50, 51, 50, 52, 50, 53, 50, 54, 50, 55, 50, 56, 50, 57, 51, 48, 51, 49, 51, 50, 51, 51, 51, 52, 51, 53, 51, 54, 51, 55, 51, 56, 51, 57, 52, 48, 52, 49, 52, 50, 52, 51, 52, 52, 52, 53, 52, 54, 52, 55, 52, 56, 52, 57, 53, 48, 53, 49, 53, 50, 53, 51, 53, 52, 53, 53, 53, 54, 53, 55, 53, 56, 53, 57, 54, 48, 54, 49, 54, 50, 54, 51, 54, 52, 54, 53, 54, 54, 54, 55, 54, 56, 54, 57, 55, 48, 55, 49, 55, 50, 55, 51, 55, 52, 55, 53, 55, 54, 55, 55, 55, 56, 55, 57, 56, 48, 56, 49, 56, 50, 56, 51, 56, 52, 56, 53, 56, 54, 56, 55, 56, 56, 56, 57, 57, 48, 57, 49, 57, 50, 57, 51, 57, 52, 57, 53, 57, 54, 57, 55, 57, 56, 57, 57].take ((n * 2) + 2)).drop (n * 2))) ?_))
    refine ⟨?_, rfl⟩
    all_goals first | with_reducible rfl | (rw [small_one n (by omega)]; done) | (exact congrArg str (small_two n (by omega) (by omega)); done) | with_reducible assumption | omega | rfl | (simp_all; done) | (simp_all; omega)

set_option maxRecDepth 100000 in
theorem fmt_any (C : Ctx) (n : Nat) (hn : Ok (n < 100)) :
    FnT Tryz.prog C 142 #[u6 n, z6 10] [] (fun rv_ rL_ => rv_ = str (dec2 n) ∧ rL_ = []) := by
  replace hn := hn.h
  refine fE 32 Tryz.func142 rfl ?_
  refine cQ [] (True) [(0, u6 n), (1, z6 10)] (trivial) ?_
  refine cd_seq ?_
  refine cQ [] (True) [(0, u6 n), (1, z6 10), (10, .bool true)] (trivial) ?_
  refine cYes ?_
  refine cd_seq ?_
  refine cQ [] (True) [(0, u6 n), (12, .bool (decide ((n : Int) < 100)))] (trivial) ?_
  refine cI (decide ((n : Int) < 100)) (fun h1 => ?_) (fun h1 => ?_)
  · have h1p : (n : Int) < 100 := by simpa using h1
    refine cd_rg ?_
    refine rQ [] [0, 1] [2, 3] ((inKind .i64 (n : Int))) [(14, n6 n)] (inK_i64 (by omega)) ?_
    refine rC 2 [3] [] [] (small_any C n {}) ?_
    rintro _ _ ⟨rfl, rfl⟩
    refine rQ [] [3] [] (True) [(4, str (dec2 n))] (trivial) ?_
    refine rF ?_
    refine cd_ret (then_ret (then_ret (bot_ret (rv [str (dec2 n)] (str (dec2 n)) ?_))))
    refine ⟨?_, rfl⟩
    all_goals first | with_reducible rfl | (skip; done) | with_reducible assumption | omega | rfl | (simp_all; done) | (simp_all; omega)
  · have h1p : ¬ ((n : Int) < 100) := by simpa using h1
    exfalso; omega

set_option maxRecDepth 100000 in
theorem fmt2_any (C : Ctx) (n : Nat) (hn : Ok (n < 100)) :
    FnT Tryz.prog C 85 #[u6 n, z6 10] [] (fun rv_ rL_ => rv_ = str (dec2 n) ∧ rL_ = []) := by
  replace hn := hn.h
  refine fE 8 Tryz.func85 rfl ?_
  refine cQ [] (True) [(0, u6 n), (1, z6 10)] (trivial) ?_
  refine cd_rg ?_
  refine rQ [] [0, 1] [2, 3] (True) [(5, u6 n), (6, z6 10)] (trivial) ?_
  refine rC 2 [3] [] [] (fmt_any C n {}) ?_
  rintro _ _ ⟨rfl, rfl⟩
  refine rQ [] [3] [] (True) [(4, str (dec2 n))] (trivial) ?_
  refine rF ?_
  refine cd_ret (bot_ret (rv [str (dec2 n)] (str (dec2 n)) ?_))
  refine ⟨?_, rfl⟩
  all_goals first | with_reducible rfl | (skip; done) | with_reducible assumption | omega | rfl | (simp_all; done) | (simp_all; omega)

set_option maxRecDepth 100000 in
theorem name_any (C : Ctx) (kind : List UInt8) (n : Nat) (hn : Ok (n < 100)) (hk : Ok (kind.length ≤ 1099511627776)) :
    FnT Tryz.prog C 45 #[str kind, u6 n] [] (fun rv_ rL_ => rv_ = str (nameF kind n) ∧ rL_ = []) := by
  replace hn := hn.h
  replace hk := hk.h
  have hdl := dec2_len n
  refine fE 10 Tryz.func45 rfl ?_
  refine cQ [] (True) [(0, str kind), (1, u6 n)] (trivial) ?_
  refine cd_rg ?_
  refine rQ [] [0, 1, 2] [3, 4, 5] ((kind.length + [45].length ≤ 9223372036854775807)) [(6, str (kind ++ [45])), (7, u6 n)] (by first | omega | (simp only [List.length_append, List.length_cons, List.length_nil]; omega) | (simp; omega)) ?_
  refine rC 3 [4, 5] [] [] (fmt2_any C n {}) ?_
  rintro _ _ ⟨rfl, rfl⟩
  refine rQ [] [4, 5] [] (((kind ++ [45]).length + (dec2 n).length ≤ 9223372036854775807)) [(4, str ((kind ++ [45]) ++ (dec2 n)))] (by first | omega | (simp only [List.length_append, List.length_cons, List.length_nil]; omega) | (simp; omega)) ?_
  refine rF ?_
  refine cd_ret (bot_ret (rv [str ((kind ++ [45]) ++ (dec2 n))] (str ((kind ++ [45]) ++ (dec2 n))) ?_))
  refine ⟨?_, rfl⟩
  all_goals first | with_reducible rfl | (rfl; done) | with_reducible assumption | omega | rfl | (simp_all; done) | (simp_all; omega)
end Go.Proofs
