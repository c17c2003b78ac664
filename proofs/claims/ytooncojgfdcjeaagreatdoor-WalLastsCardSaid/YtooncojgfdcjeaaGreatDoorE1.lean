/- Walks: frames. No condition. -/
import Derived.Test.YtooncojgfdcjeaaGreatDoorD1
import Derived.Test.YtooncojgfdcjeaaGreatDoorProg
namespace Go.Proofs
open Go Go.Sep
set_option maxRecDepth 100000 in
theorem trimRight_any (C : Ctx) (s : List UInt8) (hs : Ok (s.length ≤ 1099511627776)) :
    FnT Tryz.prog C 243 #[str s, .int .u8 0] [] (fun rv_ rL_ => ∃ t : List UInt8, ∃ k : Nat, (s = t ++ List.replicate k 0) ∧ rv_ = str t ∧ rL_ = []) := by
  replace hs := hs.h
  refine fE 23 Tryz.func243 rfl ?_
  refine cQ [] (True) [(0, str s), (1, .int .u8 0)] (trivial) ?_
  refine cd_seq ?_
  refine cd_block ?_
  refine lp (fun x : (List UInt8) × Nat => [(0, str x.1), (1, .int .u8 0)]) (fun x : (List UInt8) × Nat => []) (fun x : (List UInt8) × Nat => s = x.1 ++ List.replicate x.2 0 ∧ (x.1).length ≤ s.length) (fun x : (List UInt8) × Nat => (x.1).length) ((s, 0)) (show s = s ++ List.replicate 0 0 ∧ (s).length ≤ s.length from ⟨by simp, Nat.le_refl _⟩) ?_
  rintro ⟨u, k⟩ hI
  replace hI : s = u ++ List.replicate k 0 ∧ (u).length ≤ s.length := hI
  obtain ⟨hI, hl⟩ := hI
  refine cd_seq ?_
  refine cd_rg ?_
  refine rQ [] [0, 1, 2, 3] [4, 5, 6, 7, 8, 9, 10, 11] (True) [(0, str u), (1, .int .u8 0), (8, .bool (decide ((u.length : Int) > 0)))] (trivial) ?_
  refine rg_join2 [] [(0, str u), (1, .int .u8 0), (16, .bool ((decide ((u.length : Int) > 0)) && ((((u.getD (u.length - 1) 0).toNat : Nat) : Int) == 0)))] [] (fun hj => ?_) ?_
  · refine rI 8 (decide ((u.length : Int) > 0)) (fun g1 => ?_) (fun g1 => ?_)
    · have g1p : (u.length : Int) > 0 := by simpa using g1
      refine rQ [(7, .nat)] [4, 5, 6, 7, 8, 9, 10, 11] [] ((0 ≤ (1 : Int) ∧ (1 : Int) ≤ (u.length : Int) ∧ (u.length : Int) ≤ IntKind.max .i64) ∧ (0 ≤ ((u.length - 1 : Nat) : Int) ∧ ((u.length - 1 : Nat) : Int) < (u.length : Int))) [(0, str u), (1, .int .u8 0), (16, .bool ((((u.getD (u.length - 1) 0).toNat : Nat) : Int) == 0))] (⟨⟨by omega, by omega, by have := (show IntKind.max .i64 = 9223372036854775807 from rfl); omega⟩, ⟨by omega, by omega⟩⟩) ?_
      refine rP 16 (.bool ((((u.getD (u.length - 1) 0).toNat : Nat) : Int) == 0)) (.bool ((decide ((u.length : Int) > 0)) && ((((u.getD (u.length - 1) 0).toNat : Nat) : Int) == 0))) (by first | (rw [show (decide ((u.length : Int) > 0)) = true from g1]; done) | (rw [show (decide ((u.length : Int) > 0)) = true from g1]; rfl)) ?_
      exact rM hj
    · have g1p : ¬ ((u.length : Int) > 0) := by simpa using g1
      refine rQ [] [4, 5, 6, 7, 8, 9, 10, 11] [] (True) [(0, str u), (1, .int .u8 0), (16, .bool false)] (trivial) ?_
      refine rP 16 (.bool false) (.bool ((decide ((u.length : Int) > 0)) && ((((u.getD (u.length - 1) 0).toNat : Nat) : Int) == 0))) (by first | (rw [show (decide ((u.length : Int) > 0)) = false from g1]; done) | (rw [show (decide ((u.length : Int) > 0)) = false from g1]; rfl)) ?_
      exact rM hj
  refine rD [(0, str u), (1, .int .u8 0), (16, .bool ((decide ((u.length : Int) > 0)) && ((((u.getD (u.length - 1) 0).toNat : Nat) : Int) == 0)))] ?_
  refine cI ((decide ((u.length : Int) > 0)) && ((((u.getD (u.length - 1) 0).toNat : Nat) : Int) == 0)) (fun h1 => ?_) (fun h1 => ?_)
  · have h1p : ((u.length : Int) > 0) ∧ ((((u.getD (u.length - 1) 0).toNat : Nat) : Int) = 0) := by simpa using h1
    refine cd_skip (then_n ?_)
    refine cd_block ?_
    refine cQ0 [(3, .nat)] ((0 ≤ (1 : Int) ∧ (1 : Int) ≤ (u.length : Int) ∧ (u.length : Int) ≤ IntKind.max .i64) ∧ (0 ≤ (0 : Int) ∧ (0 : Int) ≤ ((u.length - 1 : Nat) : Int) ∧ ((u.length - 1 : Nat) : Int) ≤ (u.length : Int))) [(0, str ((u.take (u.length - 1)).drop 0)), (1, .int .u8 0)] (⟨⟨by omega, by omega, by have := (show IntKind.max .i64 = 9223372036854775807 from rfl); omega⟩, ⟨by omega, by omega, by omega⟩⟩) ?_
    refine (block_n (lM (((u.take (u.length - 1)).drop 0, k + 1)) (show s = ((u.take (u.length - 1)).drop 0) ++ List.replicate (k + 1) 0 ∧ ((u.take (u.length - 1)).drop 0).length ≤ s.length from ⟨right_step hI (by omega) (by omega), by simp; omega⟩) (show (((u.take (u.length - 1)).drop 0).length) < ((u).length) by first | omega | (simp; omega))))
  · have h1p : ¬ (((u.length : Int) > 0) ∧ ((((u.getD (u.length - 1) 0).toNat : Nat) : Int) = 0)) := by simpa using h1
    refine cd_exit (then_exit (then_exit (block_hit (then_n ?_))))
    refine cQ [] (True) [(4, str u)] (trivial) ?_
    refine cd_ret (bot_ret (rv [str u] (str u) ?_))
    refine ⟨u, k, ?_, ?_, rfl⟩
    all_goals first | with_reducible rfl | (exact hI; done) | with_reducible assumption | omega | rfl | (simp_all; done) | (simp_all; omega)

set_option maxRecDepth 100000 in
theorem trimLeft_any (C : Ctx) (s : List UInt8) (hs : Ok (s.length ≤ 1099511627776)) :
    FnT Tryz.prog C 242 #[str s, .int .u8 0] [] (fun rv_ rL_ => ∃ t : List UInt8, ∃ k : Nat, (s = List.replicate k 0 ++ t) ∧ (t = [] ∨ (t.getD 0 0).toNat ≠ 0) ∧ rv_ = str t ∧ rL_ = []) := by
  replace hs := hs.h
  refine fE 17 Tryz.func242 rfl ?_
  refine cQ [] (True) [(0, str s), (1, .int .u8 0)] (trivial) ?_
  refine cd_seq ?_
  refine cd_block ?_
  refine lp (fun x : (List UInt8) × Nat => [(0, str x.1), (1, .int .u8 0)]) (fun x : (List UInt8) × Nat => []) (fun x : (List UInt8) × Nat => s = List.replicate x.2 0 ++ x.1 ∧ (x.1).length ≤ s.length) (fun x : (List UInt8) × Nat => (x.1).length) ((s, 0)) (show s = List.replicate 0 0 ++ s ∧ (s).length ≤ s.length from ⟨by simp, Nat.le_refl _⟩) ?_
  rintro ⟨u, k⟩ hI
  replace hI : s = List.replicate k 0 ++ u ∧ (u).length ≤ s.length := hI
  obtain ⟨hI, hl⟩ := hI
  refine cd_seq ?_
  refine cd_rg ?_
  refine rQ [] [0, 1, 2, 3] [4, 5, 6, 7, 8] (True) [(0, str u), (1, .int .u8 0), (8, .bool (decide ((u.length : Int) > 0)))] (trivial) ?_
  refine rg_join2 [] [(0, str u), (1, .int .u8 0), (13, .bool ((decide ((u.length : Int) > 0)) && ((((u.getD 0 0).toNat : Nat) : Int) == 0)))] [] (fun hj => ?_) ?_
  · refine rI 8 (decide ((u.length : Int) > 0)) (fun g1 => ?_) (fun g1 => ?_)
    · have g1p : (u.length : Int) > 0 := by simpa using g1
      refine rQ [] [4, 5, 6, 7, 8] [] ((0 ≤ (0 : Int) ∧ (0 : Int) < (u.length : Int))) [(0, str u), (1, .int .u8 0), (13, .bool ((((u.getD 0 0).toNat : Nat) : Int) == 0))] (⟨by omega, by omega⟩) ?_
      refine rP 13 (.bool ((((u.getD 0 0).toNat : Nat) : Int) == 0)) (.bool ((decide ((u.length : Int) > 0)) && ((((u.getD 0 0).toNat : Nat) : Int) == 0))) (by first | (rw [show (decide ((u.length : Int) > 0)) = true from g1]; done) | (rw [show (decide ((u.length : Int) > 0)) = true from g1]; rfl)) ?_
      exact rM hj
    · have g1p : ¬ ((u.length : Int) > 0) := by simpa using g1
      refine rQ [] [4, 5, 6, 7, 8] [] (True) [(0, str u), (1, .int .u8 0), (13, .bool false)] (trivial) ?_
      refine rP 13 (.bool false) (.bool ((decide ((u.length : Int) > 0)) && ((((u.getD 0 0).toNat : Nat) : Int) == 0))) (by first | (rw [show (decide ((u.length : Int) > 0)) = false from g1]; done) | (rw [show (decide ((u.length : Int) > 0)) = false from g1]; rfl)) ?_
      exact rM hj
  refine rD [(0, str u), (1, .int .u8 0), (13, .bool ((decide ((u.length : Int) > 0)) && ((((u.getD 0 0).toNat : Nat) : Int) == 0)))] ?_
  refine cI ((decide ((u.length : Int) > 0)) && ((((u.getD 0 0).toNat : Nat) : Int) == 0)) (fun h1 => ?_) (fun h1 => ?_)
  · have h1p : ((u.length : Int) > 0) ∧ ((((u.getD 0 0).toNat : Nat) : Int) = 0) := by simpa using h1
    refine cd_skip (then_n ?_)
    refine cd_block ?_
    refine cQ0 [] ((0 ≤ (1 : Int) ∧ (1 : Int) ≤ (u.length : Int) ∧ (u.length : Int) ≤ (u.length : Int))) [(0, str ((u.take u.length).drop 1)), (1, .int .u8 0)] (⟨by omega, by omega, by omega⟩) ?_
    refine (block_n (lM (((u.take u.length).drop 1, k + 1)) (show s = List.replicate (k + 1) 0 ++ ((u.take u.length).drop 1) ∧ ((u.take u.length).drop 1).length ≤ s.length from ⟨left_step hI (by omega) (by omega), by simp; omega⟩) (show (((u.take u.length).drop 1).length) < ((u).length) by first | omega | (simp; omega))))
  · have h1p : ¬ (((u.length : Int) > 0) ∧ ((((u.getD 0 0).toNat : Nat) : Int) = 0)) := by simpa using h1
    refine cd_exit (then_exit (then_exit (block_hit (then_n ?_))))
    refine cQ [] (True) [(4, str u)] (trivial) ?_
    refine cd_ret (bot_ret (rv [str u] (str u) ?_))
    refine ⟨u, k, ?_, ?_, ?_, rfl⟩
    all_goals first | with_reducible rfl | (exact hI; done) | (by_cases h0 : u.length = 0; exact .inl (empty_len.2 h0); exact .inr (by omega); done) | with_reducible assumption | omega | rfl | (simp_all; done) | (simp_all; omega)

set_option maxRecDepth 100000 in
theorem trim_any (C : Ctx) (s : List UInt8) (hs : Ok (s.length ≤ 1099511627776)) :
    FnT Tryz.prog C 206 #[str s, str [0]] [] (fun rv_ rL_ => ∃ t : List UInt8, (t = [] ↔ ∀ b ∈ s, b = 0) ∧ rv_ = str t ∧ rL_ = []) := by
  replace hs := hs.h
  refine fE 43 Tryz.func206 rfl ?_
  refine cQ [] (True) [(0, str s), (1, str [0])] (trivial) ?_
  refine cd_seq ?_
  refine cd_rg ?_
  refine rQ [] [0, 1, 2] [3, 4, 5] (True) [(0, str s), (1, str [0]), (9, .bool (s == []))] (trivial) ?_
  refine rg_join2 [] [(0, str s), (1, str [0]), (12, .bool (s == []))] [] (fun hj => ?_) ?_
  · refine rI 9 (s == []) (fun g1 => ?_) (fun g1 => ?_)
    · have g1p : s = [] := by simpa using g1
      refine rQ [] [3, 4, 5] [] (True) [(0, str s), (1, str [0]), (12, .bool true)] (trivial) ?_
      refine rP 12 (.bool true) (.bool (s == [])) (by first | (rw [show (s == []) = true from g1]; done) | (rw [show (s == []) = true from g1]; rfl)) ?_
      exact rM hj
    · have g1p : ¬ (s = []) := by simpa using g1
      refine rQ [] [3, 4, 5] [] (True) [(0, str s), (1, str [0]), (12, .bool false)] (trivial) ?_
      refine rP 12 (.bool false) (.bool (s == [])) (by first | (rw [show (s == []) = false from g1]; done) | (rw [show (s == []) = false from g1]; rfl)) ?_
      exact rM hj
  refine rD [(0, str s), (1, str [0]), (12, .bool (s == []))] ?_
  refine cI (s == []) (fun h1 => ?_) (fun h1 => ?_)
  · have h1p : s = [] := by simpa using h1
    refine cQ [] (True) [(4, str s)] (trivial) ?_
    refine cd_ret (then_ret (bot_ret (rv [str s] (str s) ?_)))
    refine ⟨s, ?_, ?_, rfl⟩
    all_goals first | with_reducible rfl | (exact trim_iff (by assumption) (by assumption) (by assumption); done) | (have h0 : s = [] := by simpa using h1; subst h0; simp; done) | with_reducible assumption | omega | rfl | (simp_all; done) | (simp_all; omega)
  · have h1p : ¬ (s = []) := by simpa using h1
    refine cd_skip (then_n ?_)
    refine cd_seq ?_
    refine cQ [] ((0 ≤ (0 : Int) ∧ (0 : Int) < ([0].length : Int))) [(0, str s), (1, str [0]), (21, .bool true)] (⟨by decide, by decide⟩) ?_
    refine cYes ?_
    refine dr [] [] [] 8 ?_
    refine aS [] [0, 1, 4, 2, 5] ((0 ≤ (0 : Int) ∧ (0 : Int) < ([0].length : Int)) ∧ (0 ≤ (0 : Int) ∧ (0 : Int) < ([0].length : Int))) [(22, str s), (24, .int .u8 0), (27, .int .u8 0)] (bm 8 55) 3 (⟨⟨by decide, by decide⟩, ⟨by decide, by decide⟩⟩) ?_
    refine aI (i := 3) ?_
    refine xC [] [] [25, 27] (bm 8 63) (trimRight_any C s {}) ?_
    rintro _ _ ⟨t1, k1, hf1, rfl, rfl⟩
    refine aI (i := 6) ?_
    refine xC [] [] [28] (bm 8 127) (trimLeft_any C t1 {}) ?_
    rintro _ _ ⟨t2, k2, hf2, hf3, rfl, rfl⟩
    refine aS [] [7] (True) [(4, str t2)] (bm 8 255) 0 (trivial) ?_
    refine aE [(4, str t2)] [] ?_
    refine cd_ret (then_ret (bot_ret (rv [str t2] (str t2) ?_)))
    refine ⟨t2, ?_, ?_, rfl⟩
    all_goals first | with_reducible rfl | (exact trim_iff (by assumption) (by assumption) (by assumption); done) | (have h0 : s = [] := by simpa using h1; subst h0; simp; done) | with_reducible assumption | omega | rfl | (simp_all; done) | (simp_all; omega)

set_option maxRecDepth 100000 in
theorem sum_any (C : Ctx) (x : UInt8) (s : List UInt8) (hs : Ok (s.length ≤ 1099511627776)) :
    FnT Tryz.prog C 161 #[u1 x.toNat, str s] [] (fun rv_ rL_ => rv_ = u3 (crcMask (crcOf ([x] ++ s))) ∧ rL_ = []) := by
  replace hs := hs.h
  have hx := UInt8.toNat_lt x
  have ho := crcOf_lt ([x] ++ s)
  refine fE 12 Tryz.func161 rfl ?_
  refine cQ [] (True) [(0, u1 x.toNat), (1, str s)] (trivial) ?_
  refine cd_rg ?_
  refine rQ [] [0] [1, 2, 3, 4, 5, 6, 7] (True) [(1, str s), (5, u1 x.toNat)] (trivial) ?_
  refine rN 1 [2, 3, 4, 5, 6, 7] (.cells #[u1 x.toNat] 5 (0, 0)) (fun b1 => sl b1 1 1) (fun b1 => ?_)
  refine rX 2 [3, 4, 5, 6, 7] (do pure (.value (← convert 189 9 (sl b1 1 1)))) [0] [bk b1 5 #[u1 x.toNat]] [] (gv_conv (by kernel_rfl) (gv_bytes8 [x] rfl rfl)) ?_
  rintro _ _ ⟨rfl, rfl⟩
  refine rQ [] [3, 4] [5, 6, 7] (([x].length + s.length ≤ 9223372036854775807)) [(9, str ([x] ++ s))] (by first | omega | (simp only [List.length_append, List.length_cons, List.length_nil]; omega) | (simp; omega)) ?_
  refine rC 5 [6, 7] [] [bk b1 5 #[u1 x.toNat]] (of_any C ([x] ++ s) {}) ?_
  rintro _ _ ⟨rfl, rfl⟩
  refine rC 6 [7] [] [bk b1 5 #[u1 x.toNat]] (mask_any C (crcOf ([x] ++ s)) {}) ?_
  rintro _ _ ⟨rfl, rfl⟩
  refine rQ [] [7] [] (True) [(4, u3 (crcMask (crcOf ([x] ++ s))))] (trivial) ?_
  refine rF ?_
  refine cT [] [] ?_
  refine cd_ret (bot_ret (rv [u3 (crcMask (crcOf ([x] ++ s)))] (u3 (crcMask (crcOf ([x] ++ s)))) ?_))
  refine ⟨?_, rfl⟩
  all_goals first | with_reducible rfl | (skip; done) | with_reducible assumption | omega | rfl | (simp_all; done) | (simp_all; omega)

set_option maxRecDepth 100000 in
theorem take_any2 (C : Ctx) (log : List UInt8) (at_ : Nat) (hl : Ok (log.length ≤ 1073741824)) (ha : Ok (at_ ≤ log.length)) :
    FnT Tryz.prog C 145 #[str log, n6 at_] [] (fun rv_ rL_ => ∃ k : Nat, ∃ t : List UInt8, ∃ z : Nat, (pieceD log at_ = (k, t, z)) ∧ (k ≤ 255) ∧ (z ≤ log.length) ∧ (t.length ≤ log.length) ∧ rv_ = .tuple #[u1 k, str t, n6 z] ∧ rL_ = []) := by
  replace hl := hl.h
  replace ha := ha.h
  refine fE 99 Tryz.func145 rfl ?_
  refine cQ [] (True) [(0, str log), (1, n6 at_)] (trivial) ?_
  refine cd_rg ?_
  refine rQ [] [0] [1, 2] (True) [(0, str log), (1, n6 at_), (12, n6 at_)] (trivial) ?_
  refine rC 1 [2] [] [] (pad_any C at_ {}) ?_
  rintro _ _ ⟨rfl, rfl⟩
  refine rQ [] [2] [] (True) [(0, str log), (1, n6 at_), (7, n6 (padN at_))] (trivial) ?_
  refine rF ?_
  refine cd_seq ?_
  have hpad := padN_le at_
  refine cd_rg ?_
  refine rQ [] [0, 1, 2, 3, 4, 5, 6, 7] [8, 9, 10, 11, 12, 13, 14, 15, 16] ((inKind .i64 ((at_ : Int) + ((padN at_ : Nat) : Int))) ∧ (inKind .i64 (((at_ : Int) + ((padN at_ : Nat) : Int)) + 7))) [(0, str log), (1, n6 at_), (7, n6 (padN at_)), (21, .bool (decide ((((at_ : Int) + ((padN at_ : Nat) : Int)) + 7) > (log.length : Int))))] (⟨inK_i64 (by omega), inK_i64 (by omega)⟩) ?_
  refine rI 21 (decide ((((at_ : Int) + ((padN at_ : Nat) : Int)) + 7) > (log.length : Int))) (fun g1 => ?_) (fun g1 => ?_)
  · have g1p : (((at_ : Int) + ((padN at_ : Nat) : Int)) + 7) > (log.length : Int) := by simpa using g1
    refine rQ [] [8, 9, 10, 11, 12, 13, 14, 15, 16] [] (True) [(0, str log), (1, n6 at_), (7, n6 (padN at_)), (30, .bool true)] (trivial) ?_
    refine rF ?_
    refine cYes ?_
    refine cQ [] (True) [(4, .int .u8 0), (5, str []), (6, z6 0)] (trivial) ?_
    refine cd_ret (then_ret (bot_ret (rv [.int .u8 0, str [], z6 0] (.tuple #[.int .u8 0, str [], z6 0]) ?_)))
    refine ⟨0, [], 0, ?_, ?_, ?_, ?_, ?_, rfl⟩
    all_goals first | with_reducible rfl | (rw [piece_short (by omega)]; done) | (rw [piece_dirty (by omega) (fun h => absurd (hf1.2 h) (by with_reducible assumption))]; done) | (rw [piece_at (by omega) (hf1.1 (by first | with_reducible assumption | exact Decidable.of_not_not (by with_reducible assumption)))]; unfold pieceAt byteAt cut; first | (rw [if_pos (by omega)]; done) | (rw [if_neg (by omega), if_pos (by subst htold; omega)]; done) | (rw [if_neg (by omega), if_neg (by subst htold; omega)]; done); done) | (have := UInt8.toNat_lt (log.getD (at_ + padN at_ + 6) 0); omega; done) | (simp only [List.length_drop, List.length_take]; omega; done) | with_reducible assumption | omega | rfl | (simp_all; done) | (simp_all; omega)
  · have g1p : ¬ ((((at_ : Int) + ((padN at_ : Nat) : Int)) + 7) > (log.length : Int)) := by simpa using g1
    refine rQ [] [8, 9, 10, 11, 12, 13] [14, 15, 16] ((inKind .i64 ((at_ : Int) + ((padN at_ : Nat) : Int))) ∧ (0 ≤ (at_ : Int) ∧ (at_ : Int) ≤ ((at_ : Int) + ((padN at_ : Nat) : Int)) ∧ ((at_ : Int) + ((padN at_ : Nat) : Int)) ≤ (log.length : Int))) [(0, str log), (1, n6 at_), (7, n6 (padN at_)), (21, .bool false), (27, str ((log.take (at_ + (padN at_))).drop at_))] (⟨inK_i64 (by omega), ⟨by omega, by omega, by omega⟩⟩) ?_
    refine rC 14 [15, 16] [] [] (trim_any C ((log.take (at_ + (padN at_))).drop at_) {}) ?_
    rintro _ _ ⟨t1, hf1, rfl, rfl⟩
    refine rQ [] [15, 16] [] (True) [(0, str log), (1, n6 at_), (7, n6 (padN at_)), (30, .bool (!(t1 == [])))] (trivial) ?_
    refine rF ?_
    refine cI (!(t1 == [])) (fun h1 => ?_) (fun h1 => ?_)
    · have h1p : ¬ (t1 = []) := by simpa using h1
      refine cQ [] (True) [(4, .int .u8 0), (5, str []), (6, z6 0)] (trivial) ?_
      refine cd_ret (then_ret (bot_ret (rv [.int .u8 0, str [], z6 0] (.tuple #[.int .u8 0, str [], z6 0]) ?_)))
      refine ⟨0, [], 0, ?_, ?_, ?_, ?_, ?_, rfl⟩
      all_goals first | with_reducible rfl | (rw [piece_short (by omega)]; done) | (rw [piece_dirty (by omega) (fun h => absurd (hf1.2 h) (by with_reducible assumption))]; done) | (rw [piece_at (by omega) (hf1.1 (by first | with_reducible assumption | exact Decidable.of_not_not (by with_reducible assumption)))]; unfold pieceAt byteAt cut; first | (rw [if_pos (by omega)]; done) | (rw [if_neg (by omega), if_pos (by subst htold; omega)]; done) | (rw [if_neg (by omega), if_neg (by subst htold; omega)]; done); done) | (have := UInt8.toNat_lt (log.getD (at_ + padN at_ + 6) 0); omega; done) | (simp only [List.length_drop, List.length_take]; omega; done) | with_reducible assumption | omega | rfl | (simp_all; done) | (simp_all; omega)
    · have h1p : ¬ (¬ (t1 = [])) := by simpa using h1
      refine cd_skip (then_n ?_)
      refine cQ [] ((inKind .i64 ((at_ : Int) + ((padN at_ : Nat) : Int)))) [(0, str log), (1, n6 (at_ + (padN at_)))] (inK_i64 (by omega)) ?_
      refine cd_rg ?_
      refine rQ [] [0, 1, 2, 3, 4] [5, 6] ((inKind .i64 (((at_ : Int) + ((padN at_ : Nat) : Int)) + 7)) ∧ (0 ≤ ((at_ : Int) + ((padN at_ : Nat) : Int)) ∧ ((at_ : Int) + ((padN at_ : Nat) : Int)) ≤ (((at_ : Int) + ((padN at_ : Nat) : Int)) + 7) ∧ (((at_ : Int) + ((padN at_ : Nat) : Int)) + 7) ≤ (log.length : Int))) [(0, str log), (1, n6 (at_ + (padN at_))), (38, str ((log.take ((at_ + (padN at_)) + 7)).drop (at_ + (padN at_))))] (⟨inK_i64 (by omega), ⟨by omega, by omega, by omega⟩⟩) ?_
      refine rC 5 [6] [] [] (over_any C ((log.take ((at_ + (padN at_)) + 7)).drop (at_ + (padN at_)))) ?_
      rintro _ _ ⟨b1, rfl, rfl⟩
      refine rQ [] [6] [] (True) [(0, str log), (1, n6 (at_ + (padN at_))), (8, p0 b1)] (trivial) ?_
      refine rF ?_
      refine cd_rg ?_
      refine rQ [] [0] [1, 2] (True) [(0, str log), (1, n6 (at_ + (padN at_))), (40, p0 b1)] (trivial) ?_
      refine rC 1 [2] [0] [] (fixed_any C b1 ((log.take ((at_ + (padN at_)) + 7)).drop (at_ + (padN at_))) 0 0 {} {} {}) ?_
      rintro _ _ ⟨x1, t2, a1_1, e1_1, hf2, hf3, hf4, hf5, hf6, rfl, rfl⟩
      refine rQ [] [2] [] (True) [(0, str log), (1, n6 (at_ + (padN at_))), (9, u3 x1)] (trivial) ?_
      refine rF ?_
      have htold := take_fixed (by assumption : Rd.take _ 4 = _) (by simp; omega)
      rw [cut_take4, cut] at htold
      refine dr [bk b1 227 #[str ((log.take ((at_ + (padN at_)) + 7)).drop (at_ + (padN at_))), n6 a1_1, n6 e1_1]] [] [] 13 ?_
      refine aS [(10, .nat), (11, .nat)] [0, 1, 5, 6, 2, 7, 3, 8, 4, 9, 10, 11] ((inKind .i64 (((at_ : Int) + ((padN at_ : Nat) : Int)) + 4)) ∧ (inKind .i64 (((at_ : Int) + ((padN at_ : Nat) : Int)) + 5)) ∧ (0 ≤ (((at_ : Int) + ((padN at_ : Nat) : Int)) + 4) ∧ (((at_ : Int) + ((padN at_ : Nat) : Int)) + 4) < (log.length : Int)) ∧ (0 ≤ (((at_ : Int) + ((padN at_ : Nat) : Int)) + 5) ∧ (((at_ : Int) + ((padN at_ : Nat) : Int)) + 5) < (log.length : Int)) ∧ (inKind .i64 (((log.getD ((at_ + (padN at_)) + 4) 0).toNat : Nat) : Int)) ∧ (inKind .i64 (((log.getD ((at_ + (padN at_)) + 5) 0).toNat : Nat) : Int)) ∧ (0 ≤ (((log.getD ((at_ + (padN at_)) + 5) 0).toNat : Nat) : Int) ∧ 0 ≤ (8 : Int) ∧ (8 : Int) ≤ (IntKind.bits .i64 : Int) ∧ ((((log.getD ((at_ + (padN at_)) + 5) 0).toNat) * 2 ^ 8 : Nat) : Int) ≤ IntKind.max .i64) ∧ (natK .i64 (((log.getD ((at_ + (padN at_)) + 4) 0).toNat : Nat) : Int) ∧ natK .i64 ((((log.getD ((at_ + (padN at_)) + 5) 0).toNat) * 2 ^ 8 : Nat) : Int))) [(0, str log), (1, n6 (at_ + (padN at_))), (9, u3 x1), (53, n6 (((log.getD ((at_ + (padN at_)) + 4) 0).toNat) ||| (((log.getD ((at_ + (padN at_)) + 5) 0).toNat) * 2 ^ 8)))] (bm 13 4095) 1 (⟨inK_i64 (by omega), inK_i64 (by omega), ⟨by omega, by omega⟩, ⟨by omega, by omega⟩, inK_i64 (by have hu1 := UInt8.toNat_lt (log.getD ((at_ + (padN at_)) + 4) 0); omega), inK_i64 (by have hu1 := UInt8.toNat_lt (log.getD ((at_ + (padN at_)) + 5) 0); omega), ⟨by have hu1 := UInt8.toNat_lt (log.getD ((at_ + (padN at_)) + 5) 0); omega, by have hu1 := UInt8.toNat_lt (log.getD ((at_ + (padN at_)) + 5) 0); omega, by simp only [IntKind.bits]; omega, by rw [show IntKind.max .i64 = 9223372036854775807 from rfl]; have hu0 := UInt8.toNat_lt (log.getD ((at_ + (padN at_)) + 5) 0); omega⟩, ⟨natK_i64 (by have hu0 := UInt8.toNat_lt (log.getD ((at_ + (padN at_)) + 4) 0); have hu1 := UInt8.toNat_lt (log.getD ((at_ + (padN at_)) + 5) 0); omega), natK_i64 (by have hu0 := UInt8.toNat_lt (log.getD ((at_ + (padN at_)) + 4) 0); have hu1 := UInt8.toNat_lt (log.getD ((at_ + (padN at_)) + 5) 0); omega)⟩⟩) ?_
      refine aP 53 (n6 (((log.getD ((at_ + (padN at_)) + 4) 0).toNat) ||| (((log.getD ((at_ + (padN at_)) + 5) 0).toNat) * 2 ^ 8))) (n6 ((log.getD (at_ + padN at_ + 4) 0).toNat + 256 * (log.getD (at_ + padN at_ + 5) 0).toNat)) (congrArg (fun m : Nat => Value.int .i64 (m : Int)) (or_shift _ _ (UInt8.toNat_lt _))) ?_
      refine aS [] [12] (True) [(0, str log), (1, n6 (at_ + (padN at_))), (7, n6 ((log.getD (at_ + padN at_ + 4) 0).toNat + 256 * (log.getD (at_ + padN at_ + 5) 0).toNat)), (9, u3 x1)] (bm 13 8191) 0 (trivial) ?_
      refine aE [(0, str log), (1, n6 (at_ + (padN at_))), (7, n6 ((log.getD (at_ + padN at_ + 4) 0).toNat + 256 * (log.getD (at_ + padN at_ + 5) 0).toNat)), (9, u3 x1)] [bk b1 227 #[str ((log.take ((at_ + (padN at_)) + 7)).drop (at_ + (padN at_))), n6 a1_1, n6 e1_1]] ?_
      refine cQ [] ((inKind .i64 (((at_ : Int) + ((padN at_ : Nat) : Int)) + 6)) ∧ (0 ≤ (((at_ : Int) + ((padN at_ : Nat) : Int)) + 6) ∧ (((at_ : Int) + ((padN at_ : Nat) : Int)) + 6) < (log.length : Int))) [(0, str log), (1, n6 (at_ + (padN at_))), (7, n6 ((log.getD (at_ + padN at_ + 4) 0).toNat + 256 * (log.getD (at_ + padN at_ + 5) 0).toNat)), (9, u3 x1), (10, u1 ((log.getD ((at_ + (padN at_)) + 6) 0).toNat))] (⟨inK_i64 (by omega), ⟨by omega, by omega⟩⟩) ?_
      refine cd_seq ?_
      refine cd_rg ?_
      refine rQ [] [0, 1, 2] [3, 4, 5, 6, 7, 8, 9, 10, 11, 12, 13, 14, 15, 16, 17, 18, 19, 20, 21] (True) [(0, str log), (1, n6 (at_ + (padN at_))), (7, n6 ((log.getD (at_ + padN at_ + 4) 0).toNat + 256 * (log.getD (at_ + padN at_ + 5) 0).toNat)), (9, u3 x1), (10, u1 ((log.getD ((at_ + (padN at_)) + 6) 0).toNat)), (60, .bool (decide ((((log.getD ((at_ + (padN at_)) + 6) 0).toNat : Nat) : Int) < 1)))] (trivial) ?_
      refine rg_join2 [6, 7, 8, 9, 10, 11, 12, 13, 14, 15, 16, 17, 18, 19, 20, 21] [(0, str log), (1, n6 (at_ + (padN at_))), (7, n6 ((log.getD (at_ + padN at_ + 4) 0).toNat + 256 * (log.getD (at_ + padN at_ + 5) 0).toNat)), (9, u3 x1), (10, u1 ((log.getD ((at_ + (padN at_)) + 6) 0).toNat)), (63, .bool ((decide ((((log.getD ((at_ + (padN at_)) + 6) 0).toNat : Nat) : Int) < 1)) || (decide ((((log.getD ((at_ + (padN at_)) + 6) 0).toNat : Nat) : Int) > 4))))] [bk b1 227 #[str ((log.take ((at_ + (padN at_)) + 7)).drop (at_ + (padN at_))), n6 a1_1, n6 e1_1]] (fun hj => ?_) ?_
      · refine rI 60 (decide ((((log.getD ((at_ + (padN at_)) + 6) 0).toNat : Nat) : Int) < 1)) (fun g2 => ?_) (fun g2 => ?_)
        · have g2p : (((log.getD ((at_ + (padN at_)) + 6) 0).toNat : Nat) : Int) < 1 := by simpa using g2
          refine rQ [] [3, 4, 5] [6, 7, 8, 9, 10, 11, 12, 13, 14, 15, 16, 17, 18, 19, 20, 21] (True) [(0, str log), (1, n6 (at_ + (padN at_))), (7, n6 ((log.getD (at_ + padN at_ + 4) 0).toNat + 256 * (log.getD (at_ + padN at_ + 5) 0).toNat)), (9, u3 x1), (10, u1 ((log.getD ((at_ + (padN at_)) + 6) 0).toNat)), (63, .bool true)] (trivial) ?_
          refine rP 63 (.bool true) (.bool ((decide ((((log.getD ((at_ + (padN at_)) + 6) 0).toNat : Nat) : Int) < 1)) || (decide ((((log.getD ((at_ + (padN at_)) + 6) 0).toNat : Nat) : Int) > 4)))) (by first | (rw [show (decide ((((log.getD ((at_ + (padN at_)) + 6) 0).toNat : Nat) : Int) < 1)) = true from g2]; done) | (rw [show (decide ((((log.getD ((at_ + (padN at_)) + 6) 0).toNat : Nat) : Int) < 1)) = true from g2]; rfl)) ?_
          exact rM hj
        · have g2p : ¬ ((((log.getD ((at_ + (padN at_)) + 6) 0).toNat : Nat) : Int) < 1) := by simpa using g2
          refine rQ [] [3, 4, 5] [6, 7, 8, 9, 10, 11, 12, 13, 14, 15, 16, 17, 18, 19, 20, 21] (True) [(0, str log), (1, n6 (at_ + (padN at_))), (7, n6 ((log.getD (at_ + padN at_ + 4) 0).toNat + 256 * (log.getD (at_ + padN at_ + 5) 0).toNat)), (9, u3 x1), (10, u1 ((log.getD ((at_ + (padN at_)) + 6) 0).toNat)), (63, .bool (decide ((((log.getD ((at_ + (padN at_)) + 6) 0).toNat : Nat) : Int) > 4)))] (trivial) ?_
          refine rP 63 (.bool (decide ((((log.getD ((at_ + (padN at_)) + 6) 0).toNat : Nat) : Int) > 4))) (.bool ((decide ((((log.getD ((at_ + (padN at_)) + 6) 0).toNat : Nat) : Int) < 1)) || (decide ((((log.getD ((at_ + (padN at_)) + 6) 0).toNat : Nat) : Int) > 4)))) (by first | (rw [show (decide ((((log.getD ((at_ + (padN at_)) + 6) 0).toNat : Nat) : Int) < 1)) = false from g2]; done) | (rw [show (decide ((((log.getD ((at_ + (padN at_)) + 6) 0).toNat : Nat) : Int) < 1)) = false from g2]; rfl)) ?_
          exact rM hj
      refine rQ [] [6] [7, 8, 9, 10, 11, 12, 13, 14, 15, 16, 17, 18, 19, 20, 21] (True) [(0, str log), (1, n6 (at_ + (padN at_))), (7, n6 ((log.getD (at_ + padN at_ + 4) 0).toNat + 256 * (log.getD (at_ + padN at_ + 5) 0).toNat)), (9, u3 x1), (10, u1 ((log.getD ((at_ + (padN at_)) + 6) 0).toNat)), (64, .bool ((decide ((((log.getD ((at_ + (padN at_)) + 6) 0).toNat : Nat) : Int) < 1)) || (decide ((((log.getD ((at_ + (padN at_)) + 6) 0).toNat : Nat) : Int) > 4))))] (trivial) ?_
      refine rg_join2 [13, 14, 15, 16, 17, 18, 19, 20, 21] [(0, str log), (1, n6 (at_ + (padN at_))), (7, n6 ((log.getD (at_ + padN at_ + 4) 0).toNat + 256 * (log.getD (at_ + padN at_ + 5) 0).toNat)), (9, u3 x1), (10, u1 ((log.getD ((at_ + (padN at_)) + 6) 0).toNat)), (70, .bool (((decide ((((log.getD ((at_ + (padN at_)) + 6) 0).toNat : Nat) : Int) < 1)) || (decide ((((log.getD ((at_ + (padN at_)) + 6) 0).toNat : Nat) : Int) > 4))) || (decide ((((log.getD (at_ + padN at_ + 4) 0).toNat + 256 * (log.getD (at_ + padN at_ + 5) 0).toNat : Nat) : Int) > (((512 - (at_ + (padN at_)) % 512 : Nat) : Int) - 7)))))] [bk b1 227 #[str ((log.take ((at_ + (padN at_)) + 7)).drop (at_ + (padN at_))), n6 a1_1, n6 e1_1]] (fun hj => ?_) ?_
      · refine rI 64 ((decide ((((log.getD ((at_ + (padN at_)) + 6) 0).toNat : Nat) : Int) < 1)) || (decide ((((log.getD ((at_ + (padN at_)) + 6) 0).toNat : Nat) : Int) > 4))) (fun g3 => ?_) (fun g3 => ?_)
        · have g3p : ((((log.getD ((at_ + (padN at_)) + 6) 0).toNat : Nat) : Int) < 1) ∨ ((((log.getD ((at_ + (padN at_)) + 6) 0).toNat : Nat) : Int) > 4) := by simpa using g3
          refine rQ [] [7, 8, 9, 10, 11, 12] [13, 14, 15, 16, 17, 18, 19, 20, 21] (True) [(0, str log), (1, n6 (at_ + (padN at_))), (7, n6 ((log.getD (at_ + padN at_ + 4) 0).toNat + 256 * (log.getD (at_ + padN at_ + 5) 0).toNat)), (9, u3 x1), (10, u1 ((log.getD ((at_ + (padN at_)) + 6) 0).toNat)), (70, .bool true)] (trivial) ?_
          refine rP 70 (.bool true) (.bool (((decide ((((log.getD ((at_ + (padN at_)) + 6) 0).toNat : Nat) : Int) < 1)) || (decide ((((log.getD ((at_ + (padN at_)) + 6) 0).toNat : Nat) : Int) > 4))) || (decide ((((log.getD (at_ + padN at_ + 4) 0).toNat + 256 * (log.getD (at_ + padN at_ + 5) 0).toNat : Nat) : Int) > (((512 - (at_ + (padN at_)) % 512 : Nat) : Int) - 7))))) (by first | (rw [show ((decide ((((log.getD ((at_ + (padN at_)) + 6) 0).toNat : Nat) : Int) < 1)) || (decide ((((log.getD ((at_ + (padN at_)) + 6) 0).toNat : Nat) : Int) > 4))) = true from g3]; done) | (rw [show ((decide ((((log.getD ((at_ + (padN at_)) + 6) 0).toNat : Nat) : Int) < 1)) || (decide ((((log.getD ((at_ + (padN at_)) + 6) 0).toNat : Nat) : Int) > 4))) = true from g3]; rfl)) ?_
          exact rM hj
        · have g3p : ¬ (((((log.getD ((at_ + (padN at_)) + 6) 0).toNat : Nat) : Int) < 1) ∨ ((((log.getD ((at_ + (padN at_)) + 6) 0).toNat : Nat) : Int) > 4)) := by simpa using g3
          refine rQ [] [7, 8] [9, 10, 11, 12, 13, 14, 15, 16, 17, 18, 19, 20, 21] (True) [(0, str log), (1, n6 (at_ + (padN at_))), (7, n6 ((log.getD (at_ + padN at_ + 4) 0).toNat + 256 * (log.getD (at_ + padN at_ + 5) 0).toNat)), (9, u3 x1), (10, u1 ((log.getD ((at_ + (padN at_)) + 6) 0).toNat)), (64, .bool false), (65, n6 ((log.getD (at_ + padN at_ + 4) 0).toNat + 256 * (log.getD (at_ + padN at_ + 5) 0).toNat)), (66, n6 (at_ + (padN at_)))] (trivial) ?_
          refine rC 9 [10, 11, 12, 13, 14, 15, 16, 17, 18, 19, 20, 21] [] [bk b1 227 #[str ((log.take ((at_ + (padN at_)) + 7)).drop (at_ + (padN at_))), n6 a1_1, n6 e1_1]] (left_any C (at_ + (padN at_)) {}) ?_
          rintro _ _ ⟨rfl, rfl⟩
          refine rQ [] [10, 11, 12] [13, 14, 15, 16, 17, 18, 19, 20, 21] ((inKind .i64 (((512 - (at_ + (padN at_)) % 512 : Nat) : Int) - 7))) [(0, str log), (1, n6 (at_ + (padN at_))), (7, n6 ((log.getD (at_ + padN at_ + 4) 0).toNat + 256 * (log.getD (at_ + padN at_ + 5) 0).toNat)), (9, u3 x1), (10, u1 ((log.getD ((at_ + (padN at_)) + 6) 0).toNat)), (70, .bool (decide ((((log.getD (at_ + padN at_ + 4) 0).toNat + 256 * (log.getD (at_ + padN at_ + 5) 0).toNat : Nat) : Int) > (((512 - (at_ + (padN at_)) % 512 : Nat) : Int) - 7))))] (inK_i64 (by omega)) ?_
          refine rP 70 (.bool (decide ((((log.getD (at_ + padN at_ + 4) 0).toNat + 256 * (log.getD (at_ + padN at_ + 5) 0).toNat : Nat) : Int) > (((512 - (at_ + (padN at_)) % 512 : Nat) : Int) - 7)))) (.bool (((decide ((((log.getD ((at_ + (padN at_)) + 6) 0).toNat : Nat) : Int) < 1)) || (decide ((((log.getD ((at_ + (padN at_)) + 6) 0).toNat : Nat) : Int) > 4))) || (decide ((((log.getD (at_ + padN at_ + 4) 0).toNat + 256 * (log.getD (at_ + padN at_ + 5) 0).toNat : Nat) : Int) > (((512 - (at_ + (padN at_)) % 512 : Nat) : Int) - 7))))) (by first | (rw [show ((decide ((((log.getD ((at_ + (padN at_)) + 6) 0).toNat : Nat) : Int) < 1)) || (decide ((((log.getD ((at_ + (padN at_)) + 6) 0).toNat : Nat) : Int) > 4))) = false from g3]; done) | (rw [show ((decide ((((log.getD ((at_ + (padN at_)) + 6) 0).toNat : Nat) : Int) < 1)) || (decide ((((log.getD ((at_ + (padN at_)) + 6) 0).toNat : Nat) : Int) > 4))) = false from g3]; rfl)) ?_
          exact rM hj
      refine rQ [] [13] [14, 15, 16, 17, 18, 19, 20, 21] (True) [(0, str log), (1, n6 (at_ + (padN at_))), (7, n6 ((log.getD (at_ + padN at_ + 4) 0).toNat + 256 * (log.getD (at_ + padN at_ + 5) 0).toNat)), (9, u3 x1), (10, u1 ((log.getD ((at_ + (padN at_)) + 6) 0).toNat)), (71, .bool (((decide ((((log.getD ((at_ + (padN at_)) + 6) 0).toNat : Nat) : Int) < 1)) || (decide ((((log.getD ((at_ + (padN at_)) + 6) 0).toNat : Nat) : Int) > 4))) || (decide ((((log.getD (at_ + padN at_ + 4) 0).toNat + 256 * (log.getD (at_ + padN at_ + 5) 0).toNat : Nat) : Int) > (((512 - (at_ + (padN at_)) % 512 : Nat) : Int) - 7)))))] (trivial) ?_
      refine rg_join2 [] [(0, str log), (1, n6 (at_ + (padN at_))), (7, n6 ((log.getD (at_ + padN at_ + 4) 0).toNat + 256 * (log.getD (at_ + padN at_ + 5) 0).toNat)), (9, u3 x1), (10, u1 ((log.getD ((at_ + (padN at_)) + 6) 0).toNat)), (79, .bool ((((decide ((((log.getD ((at_ + (padN at_)) + 6) 0).toNat : Nat) : Int) < 1)) || (decide ((((log.getD ((at_ + (padN at_)) + 6) 0).toNat : Nat) : Int) > 4))) || (decide ((((log.getD (at_ + padN at_ + 4) 0).toNat + 256 * (log.getD (at_ + padN at_ + 5) 0).toNat : Nat) : Int) > (((512 - (at_ + (padN at_)) % 512 : Nat) : Int) - 7)))) || (decide (((((at_ : Int) + ((padN at_ : Nat) : Int)) + 7) + (((log.getD (at_ + padN at_ + 4) 0).toNat + 256 * (log.getD (at_ + padN at_ + 5) 0).toNat : Nat) : Int)) > (log.length : Int)))))] [bk b1 227 #[str ((log.take ((at_ + (padN at_)) + 7)).drop (at_ + (padN at_))), n6 a1_1, n6 e1_1]] (fun hj => ?_) ?_
      · refine rI 71 (((decide ((((log.getD ((at_ + (padN at_)) + 6) 0).toNat : Nat) : Int) < 1)) || (decide ((((log.getD ((at_ + (padN at_)) + 6) 0).toNat : Nat) : Int) > 4))) || (decide ((((log.getD (at_ + padN at_ + 4) 0).toNat + 256 * (log.getD (at_ + padN at_ + 5) 0).toNat : Nat) : Int) > (((512 - (at_ + (padN at_)) % 512 : Nat) : Int) - 7)))) (fun g4 => ?_) (fun g4 => ?_)
        · have g4p : (((((log.getD ((at_ + (padN at_)) + 6) 0).toNat : Nat) : Int) < 1) ∨ ((((log.getD ((at_ + (padN at_)) + 6) 0).toNat : Nat) : Int) > 4)) ∨ ((((log.getD (at_ + padN at_ + 4) 0).toNat + 256 * (log.getD (at_ + padN at_ + 5) 0).toNat : Nat) : Int) > (((512 - (at_ + (padN at_)) % 512 : Nat) : Int) - 7)) := by simpa using g4
          refine rQ [] [14, 15, 16, 17, 18, 19, 20, 21] [] (True) [(0, str log), (1, n6 (at_ + (padN at_))), (7, n6 ((log.getD (at_ + padN at_ + 4) 0).toNat + 256 * (log.getD (at_ + padN at_ + 5) 0).toNat)), (9, u3 x1), (10, u1 ((log.getD ((at_ + (padN at_)) + 6) 0).toNat)), (79, .bool true)] (trivial) ?_
          refine rP 79 (.bool true) (.bool ((((decide ((((log.getD ((at_ + (padN at_)) + 6) 0).toNat : Nat) : Int) < 1)) || (decide ((((log.getD ((at_ + (padN at_)) + 6) 0).toNat : Nat) : Int) > 4))) || (decide ((((log.getD (at_ + padN at_ + 4) 0).toNat + 256 * (log.getD (at_ + padN at_ + 5) 0).toNat : Nat) : Int) > (((512 - (at_ + (padN at_)) % 512 : Nat) : Int) - 7)))) || (decide (((((at_ : Int) + ((padN at_ : Nat) : Int)) + 7) + (((log.getD (at_ + padN at_ + 4) 0).toNat + 256 * (log.getD (at_ + padN at_ + 5) 0).toNat : Nat) : Int)) > (log.length : Int))))) (by first | (rw [show (((decide ((((log.getD ((at_ + (padN at_)) + 6) 0).toNat : Nat) : Int) < 1)) || (decide ((((log.getD ((at_ + (padN at_)) + 6) 0).toNat : Nat) : Int) > 4))) || (decide ((((log.getD (at_ + padN at_ + 4) 0).toNat + 256 * (log.getD (at_ + padN at_ + 5) 0).toNat : Nat) : Int) > (((512 - (at_ + (padN at_)) % 512 : Nat) : Int) - 7)))) = true from g4]; done) | (rw [show (((decide ((((log.getD ((at_ + (padN at_)) + 6) 0).toNat : Nat) : Int) < 1)) || (decide ((((log.getD ((at_ + (padN at_)) + 6) 0).toNat : Nat) : Int) > 4))) || (decide ((((log.getD (at_ + padN at_ + 4) 0).toNat + 256 * (log.getD (at_ + padN at_ + 5) 0).toNat : Nat) : Int) > (((512 - (at_ + (padN at_)) % 512 : Nat) : Int) - 7)))) = true from g4]; rfl)) ?_
          exact rM hj
        · have g4p : ¬ ((((((log.getD ((at_ + (padN at_)) + 6) 0).toNat : Nat) : Int) < 1) ∨ ((((log.getD ((at_ + (padN at_)) + 6) 0).toNat : Nat) : Int) > 4)) ∨ ((((log.getD (at_ + padN at_ + 4) 0).toNat + 256 * (log.getD (at_ + padN at_ + 5) 0).toNat : Nat) : Int) > (((512 - (at_ + (padN at_)) % 512 : Nat) : Int) - 7))) := by simpa using g4
          refine rQ [] [14, 15, 16, 17, 18, 19, 20, 21] [] ((inKind .i64 (((at_ : Int) + ((padN at_ : Nat) : Int)) + 7)) ∧ (inKind .i64 ((((at_ : Int) + ((padN at_ : Nat) : Int)) + 7) + (((log.getD (at_ + padN at_ + 4) 0).toNat + 256 * (log.getD (at_ + padN at_ + 5) 0).toNat : Nat) : Int)))) [(0, str log), (1, n6 (at_ + (padN at_))), (7, n6 ((log.getD (at_ + padN at_ + 4) 0).toNat + 256 * (log.getD (at_ + padN at_ + 5) 0).toNat)), (9, u3 x1), (10, u1 ((log.getD ((at_ + (padN at_)) + 6) 0).toNat)), (79, .bool (decide (((((at_ : Int) + ((padN at_ : Nat) : Int)) + 7) + (((log.getD (at_ + padN at_ + 4) 0).toNat + 256 * (log.getD (at_ + padN at_ + 5) 0).toNat : Nat) : Int)) > (log.length : Int))))] (⟨inK_i64 (by omega), inK_i64 (by omega)⟩) ?_
          refine rP 79 (.bool (decide (((((at_ : Int) + ((padN at_ : Nat) : Int)) + 7) + (((log.getD (at_ + padN at_ + 4) 0).toNat + 256 * (log.getD (at_ + padN at_ + 5) 0).toNat : Nat) : Int)) > (log.length : Int)))) (.bool ((((decide ((((log.getD ((at_ + (padN at_)) + 6) 0).toNat : Nat) : Int) < 1)) || (decide ((((log.getD ((at_ + (padN at_)) + 6) 0).toNat : Nat) : Int) > 4))) || (decide ((((log.getD (at_ + padN at_ + 4) 0).toNat + 256 * (log.getD (at_ + padN at_ + 5) 0).toNat : Nat) : Int) > (((512 - (at_ + (padN at_)) % 512 : Nat) : Int) - 7)))) || (decide (((((at_ : Int) + ((padN at_ : Nat) : Int)) + 7) + (((log.getD (at_ + padN at_ + 4) 0).toNat + 256 * (log.getD (at_ + padN at_ + 5) 0).toNat : Nat) : Int)) > (log.length : Int))))) (by first | (rw [show (((decide ((((log.getD ((at_ + (padN at_)) + 6) 0).toNat : Nat) : Int) < 1)) || (decide ((((log.getD ((at_ + (padN at_)) + 6) 0).toNat : Nat) : Int) > 4))) || (decide ((((log.getD (at_ + padN at_ + 4) 0).toNat + 256 * (log.getD (at_ + padN at_ + 5) 0).toNat : Nat) : Int) > (((512 - (at_ + (padN at_)) % 512 : Nat) : Int) - 7)))) = false from g4]; done) | (rw [show (((decide ((((log.getD ((at_ + (padN at_)) + 6) 0).toNat : Nat) : Int) < 1)) || (decide ((((log.getD ((at_ + (padN at_)) + 6) 0).toNat : Nat) : Int) > 4))) || (decide ((((log.getD (at_ + padN at_ + 4) 0).toNat + 256 * (log.getD (at_ + padN at_ + 5) 0).toNat : Nat) : Int) > (((512 - (at_ + (padN at_)) % 512 : Nat) : Int) - 7)))) = false from g4]; rfl)) ?_
          exact rM hj
      refine rD [(0, str log), (1, n6 (at_ + (padN at_))), (7, n6 ((log.getD (at_ + padN at_ + 4) 0).toNat + 256 * (log.getD (at_ + padN at_ + 5) 0).toNat)), (9, u3 x1), (10, u1 ((log.getD ((at_ + (padN at_)) + 6) 0).toNat)), (79, .bool ((((decide ((((log.getD ((at_ + (padN at_)) + 6) 0).toNat : Nat) : Int) < 1)) || (decide ((((log.getD ((at_ + (padN at_)) + 6) 0).toNat : Nat) : Int) > 4))) || (decide ((((log.getD (at_ + padN at_ + 4) 0).toNat + 256 * (log.getD (at_ + padN at_ + 5) 0).toNat : Nat) : Int) > (((512 - (at_ + (padN at_)) % 512 : Nat) : Int) - 7)))) || (decide (((((at_ : Int) + ((padN at_ : Nat) : Int)) + 7) + (((log.getD (at_ + padN at_ + 4) 0).toNat + 256 * (log.getD (at_ + padN at_ + 5) 0).toNat : Nat) : Int)) > (log.length : Int)))))] ?_
      refine cI ((((decide ((((log.getD ((at_ + (padN at_)) + 6) 0).toNat : Nat) : Int) < 1)) || (decide ((((log.getD ((at_ + (padN at_)) + 6) 0).toNat : Nat) : Int) > 4))) || (decide ((((log.getD (at_ + padN at_ + 4) 0).toNat + 256 * (log.getD (at_ + padN at_ + 5) 0).toNat : Nat) : Int) > (((512 - (at_ + (padN at_)) % 512 : Nat) : Int) - 7)))) || (decide (((((at_ : Int) + ((padN at_ : Nat) : Int)) + 7) + (((log.getD (at_ + padN at_ + 4) 0).toNat + 256 * (log.getD (at_ + padN at_ + 5) 0).toNat : Nat) : Int)) > (log.length : Int)))) (fun h2 => ?_) (fun h2 => ?_)
      · have h2p : ((((((log.getD ((at_ + (padN at_)) + 6) 0).toNat : Nat) : Int) < 1) ∨ ((((log.getD ((at_ + (padN at_)) + 6) 0).toNat : Nat) : Int) > 4)) ∨ ((((log.getD (at_ + padN at_ + 4) 0).toNat + 256 * (log.getD (at_ + padN at_ + 5) 0).toNat : Nat) : Int) > (((512 - (at_ + (padN at_)) % 512 : Nat) : Int) - 7))) ∨ (((((at_ : Int) + ((padN at_ : Nat) : Int)) + 7) + (((log.getD (at_ + padN at_ + 4) 0).toNat + 256 * (log.getD (at_ + padN at_ + 5) 0).toNat : Nat) : Int)) > (log.length : Int)) := by simpa using h2
        refine cQ [] (True) [(4, .int .u8 0), (5, str []), (6, z6 0)] (trivial) ?_
        refine cT [] [] ?_
        refine cd_ret (then_ret (bot_ret (rv [.int .u8 0, str [], z6 0] (.tuple #[.int .u8 0, str [], z6 0]) ?_)))
        refine ⟨0, [], 0, ?_, ?_, ?_, ?_, ?_, rfl⟩
        all_goals first | with_reducible rfl | (rw [piece_short (by omega)]; done) | (rw [piece_dirty (by omega) (fun h => absurd (hf1.2 h) (by with_reducible assumption))]; done) | (rw [piece_at (by omega) (hf1.1 (by first | with_reducible assumption | exact Decidable.of_not_not (by with_reducible assumption)))]; unfold pieceAt byteAt cut; first | (rw [if_pos (by omega)]; done) | (rw [if_neg (by omega), if_pos (by subst htold; omega)]; done) | (rw [if_neg (by omega), if_neg (by subst htold; omega)]; done); done) | (have := UInt8.toNat_lt (log.getD (at_ + padN at_ + 6) 0); omega; done) | (simp only [List.length_drop, List.length_take]; omega; done) | with_reducible assumption | omega | rfl | (simp_all; done) | (simp_all; omega)
      · have h2p : ¬ (((((((log.getD ((at_ + (padN at_)) + 6) 0).toNat : Nat) : Int) < 1) ∨ ((((log.getD ((at_ + (padN at_)) + 6) 0).toNat : Nat) : Int) > 4)) ∨ ((((log.getD (at_ + padN at_ + 4) 0).toNat + 256 * (log.getD (at_ + padN at_ + 5) 0).toNat : Nat) : Int) > (((512 - (at_ + (padN at_)) % 512 : Nat) : Int) - 7))) ∨ (((((at_ : Int) + ((padN at_ : Nat) : Int)) + 7) + (((log.getD (at_ + padN at_ + 4) 0).toNat + 256 * (log.getD (at_ + padN at_ + 5) 0).toNat : Nat) : Int)) > (log.length : Int))) := by simpa using h2
        refine cd_skip (then_n ?_)
        refine cQ [] ((inKind .i64 (((at_ : Int) + ((padN at_ : Nat) : Int)) + 7)) ∧ (inKind .i64 (((at_ : Int) + ((padN at_ : Nat) : Int)) + 7)) ∧ (inKind .i64 ((((at_ : Int) + ((padN at_ : Nat) : Int)) + 7) + (((log.getD (at_ + padN at_ + 4) 0).toNat + 256 * (log.getD (at_ + padN at_ + 5) 0).toNat : Nat) : Int))) ∧ (0 ≤ (((at_ : Int) + ((padN at_ : Nat) : Int)) + 7) ∧ (((at_ : Int) + ((padN at_ : Nat) : Int)) + 7) ≤ ((((at_ : Int) + ((padN at_ : Nat) : Int)) + 7) + (((log.getD (at_ + padN at_ + 4) 0).toNat + 256 * (log.getD (at_ + padN at_ + 5) 0).toNat : Nat) : Int)) ∧ ((((at_ : Int) + ((padN at_ : Nat) : Int)) + 7) + (((log.getD (at_ + padN at_ + 4) 0).toNat + 256 * (log.getD (at_ + padN at_ + 5) 0).toNat : Nat) : Int)) ≤ (log.length : Int))) [(1, n6 (at_ + (padN at_))), (7, n6 ((log.getD (at_ + padN at_ + 4) 0).toNat + 256 * (log.getD (at_ + padN at_ + 5) 0).toNat)), (9, u3 x1), (10, u1 ((log.getD ((at_ + (padN at_)) + 6) 0).toNat)), (11, str ((log.take (((at_ + (padN at_)) + 7) + ((log.getD (at_ + padN at_ + 4) 0).toNat + 256 * (log.getD (at_ + padN at_ + 5) 0).toNat))).drop ((at_ + (padN at_)) + 7)))] (⟨inK_i64 (by omega), inK_i64 (by omega), inK_i64 (by omega), ⟨by omega, by omega, by omega⟩⟩) ?_
        refine cd_seq ?_
        refine cd_rg ?_
        refine rQ [] [0, 1] [2, 3, 4] (True) [(1, n6 (at_ + (padN at_))), (7, n6 ((log.getD (at_ + padN at_ + 4) 0).toNat + 256 * (log.getD (at_ + padN at_ + 5) 0).toNat)), (9, u3 x1), (10, u1 ((log.getD ((at_ + (padN at_)) + 6) 0).toNat)), (11, str ((log.take (((at_ + (padN at_)) + 7) + ((log.getD (at_ + padN at_ + 4) 0).toNat + 256 * (log.getD (at_ + padN at_ + 5) 0).toNat))).drop ((at_ + (padN at_)) + 7))), (88, u1 ((log.getD ((at_ + (padN at_)) + 6) 0).toNat)), (89, str ((log.take (((at_ + (padN at_)) + 7) + ((log.getD (at_ + padN at_ + 4) 0).toNat + 256 * (log.getD (at_ + padN at_ + 5) 0).toNat))).drop ((at_ + (padN at_)) + 7)))] (trivial) ?_
        refine rC 2 [3, 4] [] [bk b1 227 #[str ((log.take ((at_ + (padN at_)) + 7)).drop (at_ + (padN at_))), n6 a1_1, n6 e1_1]] (sum_any C (log.getD ((at_ + (padN at_)) + 6) 0) ((log.take (((at_ + (padN at_)) + 7) + ((log.getD (at_ + padN at_ + 4) 0).toNat + 256 * (log.getD (at_ + padN at_ + 5) 0).toNat))).drop ((at_ + (padN at_)) + 7)) {}) ?_
        rintro _ _ ⟨rfl, rfl⟩
        refine rQ [] [3, 4] [] (True) [(1, n6 (at_ + (padN at_))), (7, n6 ((log.getD (at_ + padN at_ + 4) 0).toNat + 256 * (log.getD (at_ + padN at_ + 5) 0).toNat)), (10, u1 ((log.getD ((at_ + (padN at_)) + 6) 0).toNat)), (11, str ((log.take (((at_ + (padN at_)) + 7) + ((log.getD (at_ + padN at_ + 4) 0).toNat + 256 * (log.getD (at_ + padN at_ + 5) 0).toNat))).drop ((at_ + (padN at_)) + 7))), (92, .bool (((crcMask (crcOf ([(log.getD ((at_ + (padN at_)) + 6) 0)] ++ ((log.take (((at_ + (padN at_)) + 7) + ((log.getD (at_ + padN at_ + 4) 0).toNat + 256 * (log.getD (at_ + padN at_ + 5) 0).toNat))).drop ((at_ + (padN at_)) + 7)))) : Nat) : Int) != (x1 : Int)))] (trivial) ?_
        refine rF ?_
        refine cI (((crcMask (crcOf ([(log.getD ((at_ + (padN at_)) + 6) 0)] ++ ((log.take (((at_ + (padN at_)) + 7) + ((log.getD (at_ + padN at_ + 4) 0).toNat + 256 * (log.getD (at_ + padN at_ + 5) 0).toNat))).drop ((at_ + (padN at_)) + 7)))) : Nat) : Int) != (x1 : Int)) (fun h3 => ?_) (fun h3 => ?_)
        · have h3p : ((crcMask (crcOf ([(log.getD ((at_ + (padN at_)) + 6) 0)] ++ ((log.take (((at_ + (padN at_)) + 7) + ((log.getD (at_ + padN at_ + 4) 0).toNat + 256 * (log.getD (at_ + padN at_ + 5) 0).toNat))).drop ((at_ + (padN at_)) + 7)))) : Nat) : Int) ≠ (x1 : Int) := by simpa using h3
          refine cQ [] (True) [(4, .int .u8 0), (5, str []), (6, z6 0)] (trivial) ?_
          refine cT [] [] ?_
          refine cd_ret (then_ret (bot_ret (rv [.int .u8 0, str [], z6 0] (.tuple #[.int .u8 0, str [], z6 0]) ?_)))
          refine ⟨0, [], 0, ?_, ?_, ?_, ?_, ?_, rfl⟩
          all_goals first | with_reducible rfl | (rw [piece_short (by omega)]; done) | (rw [piece_dirty (by omega) (fun h => absurd (hf1.2 h) (by with_reducible assumption))]; done) | (rw [piece_at (by omega) (hf1.1 (by first | with_reducible assumption | exact Decidable.of_not_not (by with_reducible assumption)))]; unfold pieceAt byteAt cut; first | (rw [if_pos (by omega)]; done) | (rw [if_neg (by omega), if_pos (by subst htold; omega)]; done) | (rw [if_neg (by omega), if_neg (by subst htold; omega)]; done); done) | (have := UInt8.toNat_lt (log.getD (at_ + padN at_ + 6) 0); omega; done) | (simp only [List.length_drop, List.length_take]; omega; done) | with_reducible assumption | omega | rfl | (simp_all; done) | (simp_all; omega)
        · have h3p : ¬ (((crcMask (crcOf ([(log.getD ((at_ + (padN at_)) + 6) 0)] ++ ((log.take (((at_ + (padN at_)) + 7) + ((log.getD (at_ + padN at_ + 4) 0).toNat + 256 * (log.getD (at_ + padN at_ + 5) 0).toNat))).drop ((at_ + (padN at_)) + 7)))) : Nat) : Int) ≠ (x1 : Int)) := by simpa using h3
          refine cd_skip (then_n ?_)
          refine cQ [] ((inKind .i64 (((at_ : Int) + ((padN at_ : Nat) : Int)) + 7)) ∧ (inKind .i64 ((((at_ : Int) + ((padN at_ : Nat) : Int)) + 7) + (((log.getD (at_ + padN at_ + 4) 0).toNat + 256 * (log.getD (at_ + padN at_ + 5) 0).toNat : Nat) : Int)))) [(4, u1 ((log.getD ((at_ + (padN at_)) + 6) 0).toNat)), (5, str ((log.take (((at_ + (padN at_)) + 7) + ((log.getD (at_ + padN at_ + 4) 0).toNat + 256 * (log.getD (at_ + padN at_ + 5) 0).toNat))).drop ((at_ + (padN at_)) + 7))), (6, n6 (((at_ + (padN at_)) + 7) + ((log.getD (at_ + padN at_ + 4) 0).toNat + 256 * (log.getD (at_ + padN at_ + 5) 0).toNat)))] (⟨inK_i64 (by omega), inK_i64 (by omega)⟩) ?_
          refine cT [] [] ?_
          refine cd_ret (bot_ret (rv [u1 ((log.getD ((at_ + (padN at_)) + 6) 0).toNat), str ((log.take (((at_ + (padN at_)) + 7) + ((log.getD (at_ + padN at_ + 4) 0).toNat + 256 * (log.getD (at_ + padN at_ + 5) 0).toNat))).drop ((at_ + (padN at_)) + 7)), n6 (((at_ + (padN at_)) + 7) + ((log.getD (at_ + padN at_ + 4) 0).toNat + 256 * (log.getD (at_ + padN at_ + 5) 0).toNat))] (.tuple #[u1 ((log.getD ((at_ + (padN at_)) + 6) 0).toNat), str ((log.take (((at_ + (padN at_)) + 7) + ((log.getD (at_ + padN at_ + 4) 0).toNat + 256 * (log.getD (at_ + padN at_ + 5) 0).toNat))).drop ((at_ + (padN at_)) + 7)), n6 (((at_ + (padN at_)) + 7) + ((log.getD (at_ + padN at_ + 4) 0).toNat + 256 * (log.getD (at_ + padN at_ + 5) 0).toNat))]) ?_))
          refine ⟨(log.getD ((at_ + (padN at_)) + 6) 0).toNat, (log.take (((at_ + (padN at_)) + 7) + ((log.getD (at_ + padN at_ + 4) 0).toNat + 256 * (log.getD (at_ + padN at_ + 5) 0).toNat))).drop ((at_ + (padN at_)) + 7), ((at_ + (padN at_)) + 7) + ((log.getD (at_ + padN at_ + 4) 0).toNat + 256 * (log.getD (at_ + padN at_ + 5) 0).toNat), ?_, ?_, ?_, ?_, ?_, rfl⟩
          all_goals first | with_reducible rfl | (rw [piece_short (by omega)]; done) | (rw [piece_dirty (by omega) (fun h => absurd (hf1.2 h) (by with_reducible assumption))]; done) | (rw [piece_at (by omega) (hf1.1 (by first | with_reducible assumption | exact Decidable.of_not_not (by with_reducible assumption)))]; unfold pieceAt byteAt cut; first | (rw [if_pos (by omega)]; done) | (rw [if_neg (by omega), if_pos (by subst htold; omega)]; done) | (rw [if_neg (by omega), if_neg (by subst htold; omega)]; done); done) | (have := UInt8.toNat_lt (log.getD (at_ + padN at_ + 6) 0); omega; done) | (simp only [List.length_drop, List.length_take]; omega; done) | with_reducible assumption | omega | rfl | (simp_all; done) | (simp_all; omega)

set_option maxRecDepth 100000 in
theorem record_any (C : Ctx) (log : List UInt8) (at_ : Nat) (hl : Ok (log.length ≤ 1073741824)) (ha : Ok (at_ ≤ log.length)) :
    FnT Tryz.prog C 94 #[str log, n6 at_] [] (fun rv_ rL_ => ∃ u : List UInt8, ∃ z : Nat, (recordF log at_ = (u, z)) ∧ (z ≤ log.length) ∧ rv_ = .tuple #[str u, n6 z] ∧ rL_ = []) := by
  replace hl := hl.h
  replace ha := ha.h
  have hI : RecInv log at_ at_ true [] := RecInv.start ha
  refine fE 41 Tryz.func94 rfl ?_
  refine cQ [] (True) [(0, str log), (1, n6 at_)] (trivial) ?_
  refine cd_scope 0 (fun x : Nat × Bool × Nat × (List UInt8) × Blks => [(0, str log), (1, n6 x.2.2.1), (6, p0 x.1), (7, .bool x.2.1)]) (fun x : Nat × Bool × Nat × (List UInt8) × Blks => [x.2.2.2.2]) (fun x : Nat × Bool × Nat × (List UInt8) × Blks => RecInv log at_ x.2.2.1 x.2.1 x.2.2.2.1 ∧ BldL x.1 x.2.2.2.1 x.2.2.2.2) (fun x : Nat × Bool × Nat × (List UInt8) × Blks => log.length - x.2.2.1) rfl ?_ ?_
  · -- ahead of the label
    refine cd_rg ?_
    refine rQ [] [] [0] (True) [(0, str log), (1, n6 at_)] (trivial) ?_
    refine rN 0 [] (.cells #[.pointer none, .slice none 0 0] 191 (0, 0)) p0 (fun b1 => ?_)
    refine rD [(0, str log), (1, n6 at_), (6, p0 b1)] ?_
    refine cQ [] (True) [(0, str log), (1, n6 at_), (6, p0 b1), (7, .bool true)] (trivial) ?_
    refine cd_seq ?_
    refine cd_label (then_n ?_)
    refine cd_rg ?_
    refine rQ [] [0, 1] [2, 3, 4, 5, 6, 7, 8, 9] (True) [(0, str log), (6, p0 b1), (7, .bool true), (12, str log), (13, n6 at_)] (trivial) ?_
    refine rC 2 [3, 4, 5, 6, 7, 8, 9] [] [bk b1 191 #[.pointer none, .slice none 0 0]] (take_any2 C log at_ {} {}) ?_
    rintro _ _ ⟨k1, t1, z1, hf1, hf2, hf3, hf4, rfl, rfl⟩
    refine rQ [] [3, 4, 5, 6, 7, 8, 9] [] (True) [(0, str log), (6, p0 b1), (7, .bool true), (8, u1 k1), (9, str t1), (10, n6 z1)] (trivial) ?_
    refine rF ?_
    refine cd_seq ?_
    refine cd_rg ?_
    refine rQ [] [0, 1, 2] [3, 4, 5, 6, 7, 8, 9, 10, 11] (True) [(0, str log), (6, p0 b1), (7, .bool true), (8, u1 k1), (9, str t1), (10, n6 z1), (20, .bool ((k1 : Int) == 0))] (trivial) ?_
    refine rg_join2 [] [(0, str log), (6, p0 b1), (8, u1 k1), (9, str t1), (10, n6 z1), (29, .bool (((k1 : Int) == 0) || (!((((k1 : Int) == 1) || ((k1 : Int) == 2)) == true))))] [bk b1 191 #[.pointer none, .slice none 0 0]] (fun hj => ?_) ?_
    · refine rI 20 ((k1 : Int) == 0) (fun g1 => ?_) (fun g1 => ?_)
      · have g1p : (k1 : Int) = 0 := by simpa using g1
        refine rQ [] [3, 4, 5, 6, 7, 8, 9, 10, 11] [] (True) [(0, str log), (6, p0 b1), (8, u1 k1), (9, str t1), (10, n6 z1), (29, .bool true)] (trivial) ?_
        refine rP 29 (.bool true) (.bool (((k1 : Int) == 0) || (!((((k1 : Int) == 1) || ((k1 : Int) == 2)) == true)))) (by first | (rw [show ((k1 : Int) == 0) = true from g1]; done) | (rw [show ((k1 : Int) == 0) = true from g1]; rfl)) ?_
        exact rM hj
      · have g1p : ¬ ((k1 : Int) = 0) := by simpa using g1
        refine rQ [] [3, 4, 5] [6, 7, 8, 9, 10, 11] (True) [(0, str log), (6, p0 b1), (7, .bool true), (8, u1 k1), (9, str t1), (10, n6 z1), (20, .bool false), (23, .bool ((k1 : Int) == 1))] (trivial) ?_
        refine rg_join2 [9, 10, 11] [(0, str log), (6, p0 b1), (7, .bool true), (8, u1 k1), (9, str t1), (10, n6 z1), (20, .bool false), (26, .bool (((k1 : Int) == 1) || ((k1 : Int) == 2)))] [bk b1 191 #[.pointer none, .slice none 0 0]] (fun hj => ?_) ?_
        · refine rI 23 ((k1 : Int) == 1) (fun g2 => ?_) (fun g2 => ?_)
          · have g2p : (k1 : Int) = 1 := by simpa using g2
            refine rQ [] [6, 7, 8] [9, 10, 11] (True) [(0, str log), (6, p0 b1), (7, .bool true), (8, u1 k1), (9, str t1), (10, n6 z1), (20, .bool false), (26, .bool true)] (trivial) ?_
            refine rP 26 (.bool true) (.bool (((k1 : Int) == 1) || ((k1 : Int) == 2))) (by first | (rw [show ((k1 : Int) == 1) = true from g2]; done) | (rw [show ((k1 : Int) == 1) = true from g2]; rfl)) ?_
            exact rM hj
          · have g2p : ¬ ((k1 : Int) = 1) := by simpa using g2
            refine rQ [] [6, 7, 8] [9, 10, 11] (True) [(0, str log), (6, p0 b1), (7, .bool true), (8, u1 k1), (9, str t1), (10, n6 z1), (20, .bool false), (26, .bool ((k1 : Int) == 2))] (trivial) ?_
            refine rP 26 (.bool ((k1 : Int) == 2)) (.bool (((k1 : Int) == 1) || ((k1 : Int) == 2))) (by first | (rw [show ((k1 : Int) == 1) = false from g2]; done) | (rw [show ((k1 : Int) == 1) = false from g2]; rfl)) ?_
            exact rM hj
        refine rQ [] [9, 10, 11] [] (True) [(0, str log), (6, p0 b1), (8, u1 k1), (9, str t1), (10, n6 z1), (29, .bool (!((((k1 : Int) == 1) || ((k1 : Int) == 2)) == true)))] (trivial) ?_
        refine rP 29 (.bool (!((((k1 : Int) == 1) || ((k1 : Int) == 2)) == true))) (.bool (((k1 : Int) == 0) || (!((((k1 : Int) == 1) || ((k1 : Int) == 2)) == true)))) (by first | (rw [show ((k1 : Int) == 0) = false from g1]; done) | (rw [show ((k1 : Int) == 0) = false from g1]; rfl)) ?_
        exact rM hj
    refine rD [(0, str log), (6, p0 b1), (8, u1 k1), (9, str t1), (10, n6 z1), (29, .bool (((k1 : Int) == 0) || (!((((k1 : Int) == 1) || ((k1 : Int) == 2)) == true))))] ?_
    refine cI (((k1 : Int) == 0) || (!((((k1 : Int) == 1) || ((k1 : Int) == 2)) == true))) (fun h1 => ?_) (fun h1 => ?_)
    · have h1p : ((k1 : Int) = 0) ∨ (¬ (((k1 : Int) = 1) ∨ ((k1 : Int) = 2))) := by simpa using h1
      refine cQ [] (True) [(4, str []), (5, z6 0)] (trivial) ?_
      refine cT [] [] ?_
      refine cd_ret (then_ret (jump_ret (bot_ret (rv [str [], z6 0] (.tuple #[str [], z6 0]) ?_))))
      refine ⟨[], 0, ?_, ?_, ?_, rfl⟩
      all_goals first | with_reducible rfl | (rw [hI.none (by assumption) (by first | omega | (simp only [ne_eq, decide_eq_true_eq]; omega) | (simp_all; done) | (simp_all; omega) | (cases bg <;> simp_all <;> omega))]; done) | (rw [hI.done (by assumption) (by first | omega | (simp only [ne_eq, decide_eq_true_eq]; omega) | (simp_all; done) | (simp_all; omega) | (cases bg <;> simp_all <;> omega)) (by omega)]; done) | with_reducible assumption | omega | rfl | (simp_all; done) | (simp_all; omega)
    · have h1p : ¬ (((k1 : Int) = 0) ∨ (¬ (((k1 : Int) = 1) ∨ ((k1 : Int) = 2)))) := by simpa using h1
      refine cd_skip (then_n ?_)
      refine cd_rg ?_
      refine rQ [] [0] [1] (True) [(0, str log), (6, p0 b1), (8, u1 k1), (10, n6 z1), (30, str t1)] (trivial) ?_
      refine rC 1 [] [0] [] (writeString_any C b1 [] t1 (bk b1 191 #[.pointer none, .slice none 0 0]) (BldL.fresh b1) (Ok.h {})) ?_
      rintro _ _ ⟨L1_1, h2, rfl, rfl⟩
      refine rD [(0, str log), (6, p0 b1), (8, u1 k1), (10, n6 z1)] ?_
      refine cd_seq ?_
      refine cd_rg ?_
      refine rQ [] [0, 1, 2] [3, 4, 5] (True) [(0, str log), (6, p0 b1), (8, u1 k1), (10, n6 z1), (34, .bool ((k1 : Int) == 2))] (trivial) ?_
      refine rg_join2 [] [(0, str log), (6, p0 b1), (10, n6 z1), (37, .bool (((k1 : Int) == 2) || ((k1 : Int) == 3)))] [L1_1] (fun hj => ?_) ?_
      · refine rI 34 ((k1 : Int) == 2) (fun g3 => ?_) (fun g3 => ?_)
        · have g3p : (k1 : Int) = 2 := by simpa using g3
          refine rQ [] [3, 4, 5] [] (True) [(0, str log), (6, p0 b1), (10, n6 z1), (37, .bool true)] (trivial) ?_
          refine rP 37 (.bool true) (.bool (((k1 : Int) == 2) || ((k1 : Int) == 3))) (by first | (rw [show ((k1 : Int) == 2) = true from g3]; done) | (rw [show ((k1 : Int) == 2) = true from g3]; rfl)) ?_
          exact rM hj
        · have g3p : ¬ ((k1 : Int) = 2) := by simpa using g3
          refine rQ [] [3, 4, 5] [] (True) [(0, str log), (6, p0 b1), (10, n6 z1), (37, .bool ((k1 : Int) == 3))] (trivial) ?_
          refine rP 37 (.bool ((k1 : Int) == 3)) (.bool (((k1 : Int) == 2) || ((k1 : Int) == 3))) (by first | (rw [show ((k1 : Int) == 2) = false from g3]; done) | (rw [show ((k1 : Int) == 2) = false from g3]; rfl)) ?_
          exact rM hj
      refine rD [(0, str log), (6, p0 b1), (10, n6 z1), (37, .bool (((k1 : Int) == 2) || ((k1 : Int) == 3)))] ?_
      refine cI (((k1 : Int) == 2) || ((k1 : Int) == 3)) (fun h3 => ?_) (fun h3 => ?_)
      · have h3p : ((k1 : Int) = 2) ∨ ((k1 : Int) = 3) := by simpa using h3
        refine cQ [] (True) [(0, str log), (1, n6 z1), (6, p0 b1), (7, .bool false)] (trivial) ?_
        refine cd_goto (then_goto (jump_hit (sF ((b1, false, z1, [] ++ t1, L1_1)) (show RecInv log at_ z1 false ([] ++ t1) ∧ BldL b1 ([] ++ t1) L1_1 from ⟨hI.next (by assumption) (by first | omega | (simp only [ne_eq, decide_eq_true_eq]; omega) | (simp_all; done) | (simp_all; omega) | (cases bg <;> simp_all <;> omega)) (by omega), h2⟩))))
      · have h3p : ¬ (((k1 : Int) = 2) ∨ ((k1 : Int) = 3)) := by simpa using h3
        refine cd_skip (then_n ?_)
        refine cd_rg ?_
        refine rQ [] [] [0, 1, 2, 3] (True) [(6, p0 b1), (10, n6 z1)] (trivial) ?_
        refine rC 0 [1, 2, 3] [0] [] (string_any C b1 ([] ++ t1) L1_1 h2 (Ok.h {})) ?_
        rintro _ _ ⟨L1_2, h4, rfl, rfl⟩
        refine rQ [] [1, 2, 3] [] (True) [(4, str ([] ++ t1)), (5, n6 z1)] (trivial) ?_
        refine rF ?_
        refine cT [] [] ?_
        refine cd_ret (jump_ret (bot_ret (rv [str ([] ++ t1), n6 z1] (.tuple #[str ([] ++ t1), n6 z1]) ?_)))
        refine ⟨([] ++ t1), z1, ?_, ?_, ?_, rfl⟩
        all_goals first | with_reducible rfl | (rw [hI.none (by assumption) (by first | omega | (simp only [ne_eq, decide_eq_true_eq]; omega) | (simp_all; done) | (simp_all; omega) | (cases bg <;> simp_all <;> omega))]; done) | (rw [hI.done (by assumption) (by first | omega | (simp only [ne_eq, decide_eq_true_eq]; omega) | (simp_all; done) | (simp_all; omega) | (cases bg <;> simp_all <;> omega)) (by omega)]; done) | with_reducible assumption | omega | rfl | (simp_all; done) | (simp_all; omega)
  · rintro ⟨b, bg, a, acc, L⟩ hI
    replace hI : RecInv log at_ a bg acc ∧ BldL b acc L := hI
    obtain ⟨hI, hB⟩ := hI
    have hle := hI.le
    have hln := hI.len
    refine cd_seq ?_
    refine cd_skip (then_n ?_)
    refine cd_rg ?_
    refine rQ [] [0, 1] [2, 3, 4, 5, 6, 7, 8, 9] (True) [(0, str log), (6, p0 b), (7, .bool bg), (12, str log), (13, n6 a)] (trivial) ?_
    refine rC 2 [3, 4, 5, 6, 7, 8, 9] [] [L] (take_any2 C log a {} {}) ?_
    rintro _ _ ⟨k2, t2, z2, hf5, hf6, hf7, hf8, rfl, rfl⟩
    refine rQ [] [3, 4, 5, 6, 7, 8, 9] [] (True) [(0, str log), (6, p0 b), (7, .bool bg), (8, u1 k2), (9, str t2), (10, n6 z2)] (trivial) ?_
    refine rF ?_
    refine cd_seq ?_
    refine cd_rg ?_
    refine rQ [] [0, 1, 2] [3, 4, 5, 6, 7, 8, 9, 10, 11] (True) [(0, str log), (6, p0 b), (7, .bool bg), (8, u1 k2), (9, str t2), (10, n6 z2), (20, .bool ((k2 : Int) == 0))] (trivial) ?_
    refine rg_join2 [] [(0, str log), (6, p0 b), (8, u1 k2), (9, str t2), (10, n6 z2), (29, .bool (((k2 : Int) == 0) || (!((((k2 : Int) == 1) || ((k2 : Int) == 2)) == bg))))] [L] (fun hj => ?_) ?_
    · refine rI 20 ((k2 : Int) == 0) (fun g4 => ?_) (fun g4 => ?_)
      · have g4p : (k2 : Int) = 0 := by simpa using g4
        refine rQ [] [3, 4, 5, 6, 7, 8, 9, 10, 11] [] (True) [(0, str log), (6, p0 b), (8, u1 k2), (9, str t2), (10, n6 z2), (29, .bool true)] (trivial) ?_
        refine rP 29 (.bool true) (.bool (((k2 : Int) == 0) || (!((((k2 : Int) == 1) || ((k2 : Int) == 2)) == bg)))) (by first | (rw [show ((k2 : Int) == 0) = true from g4]; done) | (rw [show ((k2 : Int) == 0) = true from g4]; rfl)) ?_
        exact rM hj
      · have g4p : ¬ ((k2 : Int) = 0) := by simpa using g4
        refine rQ [] [3, 4, 5] [6, 7, 8, 9, 10, 11] (True) [(0, str log), (6, p0 b), (7, .bool bg), (8, u1 k2), (9, str t2), (10, n6 z2), (20, .bool false), (23, .bool ((k2 : Int) == 1))] (trivial) ?_
        refine rg_join2 [9, 10, 11] [(0, str log), (6, p0 b), (7, .bool bg), (8, u1 k2), (9, str t2), (10, n6 z2), (20, .bool false), (26, .bool (((k2 : Int) == 1) || ((k2 : Int) == 2)))] [L] (fun hj => ?_) ?_
        · refine rI 23 ((k2 : Int) == 1) (fun g5 => ?_) (fun g5 => ?_)
          · have g5p : (k2 : Int) = 1 := by simpa using g5
            refine rQ [] [6, 7, 8] [9, 10, 11] (True) [(0, str log), (6, p0 b), (7, .bool bg), (8, u1 k2), (9, str t2), (10, n6 z2), (20, .bool false), (26, .bool true)] (trivial) ?_
            refine rP 26 (.bool true) (.bool (((k2 : Int) == 1) || ((k2 : Int) == 2))) (by first | (rw [show ((k2 : Int) == 1) = true from g5]; done) | (rw [show ((k2 : Int) == 1) = true from g5]; rfl)) ?_
            exact rM hj
          · have g5p : ¬ ((k2 : Int) = 1) := by simpa using g5
            refine rQ [] [6, 7, 8] [9, 10, 11] (True) [(0, str log), (6, p0 b), (7, .bool bg), (8, u1 k2), (9, str t2), (10, n6 z2), (20, .bool false), (26, .bool ((k2 : Int) == 2))] (trivial) ?_
            refine rP 26 (.bool ((k2 : Int) == 2)) (.bool (((k2 : Int) == 1) || ((k2 : Int) == 2))) (by first | (rw [show ((k2 : Int) == 1) = false from g5]; done) | (rw [show ((k2 : Int) == 1) = false from g5]; rfl)) ?_
            exact rM hj
        refine rQ [] [9, 10, 11] [] (True) [(0, str log), (6, p0 b), (8, u1 k2), (9, str t2), (10, n6 z2), (29, .bool (!((((k2 : Int) == 1) || ((k2 : Int) == 2)) == bg)))] (trivial) ?_
        refine rP 29 (.bool (!((((k2 : Int) == 1) || ((k2 : Int) == 2)) == bg))) (.bool (((k2 : Int) == 0) || (!((((k2 : Int) == 1) || ((k2 : Int) == 2)) == bg)))) (by first | (rw [show ((k2 : Int) == 0) = false from g4]; done) | (rw [show ((k2 : Int) == 0) = false from g4]; rfl)) ?_
        exact rM hj
    refine rD [(0, str log), (6, p0 b), (8, u1 k2), (9, str t2), (10, n6 z2), (29, .bool (((k2 : Int) == 0) || (!((((k2 : Int) == 1) || ((k2 : Int) == 2)) == bg))))] ?_
    refine cI (((k2 : Int) == 0) || (!((((k2 : Int) == 1) || ((k2 : Int) == 2)) == bg))) (fun h5 => ?_) (fun h5 => ?_)
    · have h5p : ((k2 : Int) = 0) ∨ (¬ (((((k2 : Int) == 1) || ((k2 : Int) == 2)) == bg) = true)) := by first | (simpa using h5; done) | (intro hx; rw [hx] at h5; simp at h5) | (intro hx; rw [Bool.not_eq_true] at hx; rw [hx] at h5; simp at h5)
      refine cQ [] (True) [(4, str []), (5, z6 0)] (trivial) ?_
      refine cT [] [] ?_
      refine cd_ret (then_ret (jump_ret (bot_ret (rv [str [], z6 0] (.tuple #[str [], z6 0]) ?_))))
      refine ⟨[], 0, ?_, ?_, ?_, rfl⟩
      all_goals first | with_reducible rfl | (rw [hI.none (by assumption) (by first | omega | (simp only [ne_eq, decide_eq_true_eq]; omega) | (simp_all; done) | (simp_all; omega) | (cases bg <;> simp_all <;> omega))]; done) | (rw [hI.done (by assumption) (by first | omega | (simp only [ne_eq, decide_eq_true_eq]; omega) | (simp_all; done) | (simp_all; omega) | (cases bg <;> simp_all <;> omega)) (by omega)]; done) | with_reducible assumption | omega | rfl | (simp_all; done) | (simp_all; omega)
    · have h5p : ¬ (((k2 : Int) = 0) ∨ (¬ (((((k2 : Int) == 1) || ((k2 : Int) == 2)) == bg) = true))) := by first | (simpa using h5; done) | (intro hx; rw [hx] at h5; simp at h5) | (intro hx; rw [Bool.not_eq_true] at hx; rw [hx] at h5; simp at h5)
      refine cd_skip (then_n ?_)
      refine cd_rg ?_
      refine rQ [] [0] [1] (True) [(0, str log), (6, p0 b), (8, u1 k2), (10, n6 z2), (30, str t2)] (trivial) ?_
      refine rC 1 [] [0] [] (writeString_any C b acc t2 L hB (Ok.h {})) ?_
      rintro _ _ ⟨L1_3, h6, rfl, rfl⟩
      refine rD [(0, str log), (6, p0 b), (8, u1 k2), (10, n6 z2)] ?_
      refine cd_seq ?_
      refine cd_rg ?_
      refine rQ [] [0, 1, 2] [3, 4, 5] (True) [(0, str log), (6, p0 b), (8, u1 k2), (10, n6 z2), (34, .bool ((k2 : Int) == 2))] (trivial) ?_
      refine rg_join2 [] [(0, str log), (6, p0 b), (10, n6 z2), (37, .bool (((k2 : Int) == 2) || ((k2 : Int) == 3)))] [L1_3] (fun hj => ?_) ?_
      · refine rI 34 ((k2 : Int) == 2) (fun g6 => ?_) (fun g6 => ?_)
        · have g6p : (k2 : Int) = 2 := by simpa using g6
          refine rQ [] [3, 4, 5] [] (True) [(0, str log), (6, p0 b), (10, n6 z2), (37, .bool true)] (trivial) ?_
          refine rP 37 (.bool true) (.bool (((k2 : Int) == 2) || ((k2 : Int) == 3))) (by first | (rw [show ((k2 : Int) == 2) = true from g6]; done) | (rw [show ((k2 : Int) == 2) = true from g6]; rfl)) ?_
          exact rM hj
        · have g6p : ¬ ((k2 : Int) = 2) := by simpa using g6
          refine rQ [] [3, 4, 5] [] (True) [(0, str log), (6, p0 b), (10, n6 z2), (37, .bool ((k2 : Int) == 3))] (trivial) ?_
          refine rP 37 (.bool ((k2 : Int) == 3)) (.bool (((k2 : Int) == 2) || ((k2 : Int) == 3))) (by first | (rw [show ((k2 : Int) == 2) = false from g6]; done) | (rw [show ((k2 : Int) == 2) = false from g6]; rfl)) ?_
          exact rM hj
      refine rD [(0, str log), (6, p0 b), (10, n6 z2), (37, .bool (((k2 : Int) == 2) || ((k2 : Int) == 3)))] ?_
      refine cI (((k2 : Int) == 2) || ((k2 : Int) == 3)) (fun h7 => ?_) (fun h7 => ?_)
      · have h7p : ((k2 : Int) = 2) ∨ ((k2 : Int) = 3) := by simpa using h7
        refine cQ [] (True) [(0, str log), (1, n6 z2), (6, p0 b), (7, .bool false)] (trivial) ?_
        refine cd_goto (then_goto (jump_hit (sM ((b, false, z2, acc ++ t2, L1_3)) (show RecInv log at_ z2 false (acc ++ t2) ∧ BldL b (acc ++ t2) L1_3 from ⟨hI.next (by assumption) (by first | omega | (simp only [ne_eq, decide_eq_true_eq]; omega) | (simp_all; done) | (simp_all; omega) | (cases bg <;> simp_all <;> omega)) (by omega), h6⟩) (show (log.length - z2) < (log.length - a) by have := pieceD_to (by assumption : pieceD log a = _) (by omega); omega))))
      · have h7p : ¬ (((k2 : Int) = 2) ∨ ((k2 : Int) = 3)) := by simpa using h7
        refine cd_skip (then_n ?_)
        refine cd_rg ?_
        refine rQ [] [] [0, 1, 2, 3] (True) [(6, p0 b), (10, n6 z2)] (trivial) ?_
        refine rC 0 [1, 2, 3] [0] [] (string_any C b (acc ++ t2) L1_3 h6 (Ok.h {})) ?_
        rintro _ _ ⟨L1_4, h8, rfl, rfl⟩
        refine rQ [] [1, 2, 3] [] (True) [(4, str (acc ++ t2)), (5, n6 z2)] (trivial) ?_
        refine rF ?_
        refine cT [] [] ?_
        refine cd_ret (jump_ret (bot_ret (rv [str (acc ++ t2), n6 z2] (.tuple #[str (acc ++ t2), n6 z2]) ?_)))
        refine ⟨(acc ++ t2), z2, ?_, ?_, ?_, rfl⟩
        all_goals first | with_reducible rfl | (rw [hI.none (by assumption) (by first | omega | (simp only [ne_eq, decide_eq_true_eq]; omega) | (simp_all; done) | (simp_all; omega) | (cases bg <;> simp_all <;> omega))]; done) | (rw [hI.done (by assumption) (by first | omega | (simp only [ne_eq, decide_eq_true_eq]; omega) | (simp_all; done) | (simp_all; omega) | (cases bg <;> simp_all <;> omega)) (by omega)]; done) | with_reducible assumption | omega | rfl | (simp_all; done) | (simp_all; omega)
end Go.Proofs
