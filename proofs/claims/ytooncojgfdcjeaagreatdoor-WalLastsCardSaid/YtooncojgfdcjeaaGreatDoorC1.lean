/- Walks: readers. No condition. -/
import Derived.Test.YtooncojgfdcjeaaGreatDoorB1
import Derived.Test.YtooncojgfdcjeaaGreatDoorProg
namespace Go.Proofs
open Go Go.Sep
set_option maxRecDepth 100000 in
theorem ok_any (C : Ctx) (b : Nat) (s : List UInt8) (at_ : Nat) (e : Nat) :
    FnT Tryz.prog C 148 #[p0 b] [bk b 227 #[str s, n6 at_, n6 e]] (fun rv_ rL_ => rv_ = .bool ((e : Int) == 0) ∧ rL_ = [bk b 227 #[str s, n6 at_, n6 e]]) := by
  refine fE 12 Tryz.func148 rfl ?_
  refine cQ [] (True) [(0, p0 b)] (trivial) ?_
  refine cQ [(6, .at 0)] ((b = b)) [(2, .bool ((e : Int) == 0))] (rfl) ?_
  refine cd_ret (bot_ret (rv [.bool ((e : Int) == 0)] (.bool ((e : Int) == 0)) ?_))
  refine ⟨?_, rfl⟩
  all_goals first | with_reducible rfl | (skip; done) | with_reducible assumption | omega | rfl | (simp_all; done) | (simp_all; omega)

set_option maxRecDepth 100000 in
theorem take_any (C : Ctx) (b : Nat) (s : List UInt8) (at_ : Nat) (e : Nat) (n : Int) (ha : Ok (at_ ≤ s.length)) (hs : Ok (s.length ≤ 1099511627776)) (he : Ok (e ≤ 100)) (hn : Ok (-9223372036854775808 ≤ n ∧ n ≤ 9223372036854775807)) :
    FnT Tryz.prog C 147 #[p0 b, z6 n] [bk b 227 #[str s, n6 at_, n6 e]] (fun rv_ rL_ => ∃ t : List UInt8, ∃ a1 : Nat, ∃ e1 : Nat, (Rd.take ⟨s, at_, e⟩ n = (t, ⟨s, a1, e1⟩)) ∧ (a1 ≤ s.length) ∧ (e1 ≤ 100) ∧ rv_ = str t ∧ rL_ = [bk b 227 #[str s, n6 a1, n6 e1]]) := by
  replace ha := ha.h
  replace hs := hs.h
  replace he := he.h
  replace hn := hn.h
  refine fE 52 Tryz.func147 rfl ?_
  refine cQ [] (True) [(0, p0 b), (1, z6 n)] (trivial) ?_
  refine cd_seq ?_
  refine cd_rg ?_
  refine rQ [] [0] [1, 2] (True) [(0, p0 b), (1, z6 n), (6, p0 b)] (trivial) ?_
  refine rC 1 [2] [0] [] (ok_any C b s at_ e) ?_
  rintro _ _ ⟨rfl, rfl⟩
  refine rQ [] [2] [] (True) [(0, p0 b), (1, z6 n), (8, .bool (!((e : Int) == 0)))] (trivial) ?_
  refine rF ?_
  refine cI (!((e : Int) == 0)) (fun h1 => ?_) (fun h1 => ?_)
  · have h1p : ¬ ((e : Int) = 0) := by simpa using h1
    refine cQ [] (True) [(4, str [])] (trivial) ?_
    refine cd_ret (then_ret (bot_ret (rv [str []] (str []) ?_)))
    refine ⟨[], at_, e, ?_, ?_, ?_, ?_, rfl⟩
    all_goals first | with_reducible rfl | (unfold Rd.take; simp only []; rw [if_pos (by omega)]; done) | (unfold Rd.take; simp only []; rw [if_neg (by omega), if_pos (by omega)]; done) | (unfold Rd.take; simp only []; rw [if_neg (by omega), if_neg (by omega)]; rfl; done) | with_reducible assumption | omega | rfl | (simp_all; done) | (simp_all; omega)
  · have h1p : ¬ (¬ ((e : Int) = 0)) := by simpa using h1
    refine cd_skip (then_n ?_)
    refine cd_seq ?_
    refine dr [bk b 227 #[str s, n6 at_, n6 e]] [] [] 16 ?_
    refine aS [] [0, 1, 2] (True) [(0, p0 b), (1, z6 n), (11, .bool (decide (n < 0)))] (bm 16 7) 13 (trivial) ?_
    refine aB 11 (decide (n < 0)) (fun g1 => ?_) (fun g1 => ?_)
    · have g1p : n < 0 := by simpa using g1
      refine aS [] [3, 4, 9, 5, 10, 6, 11, 7, 12, 8, 13, 14, 15] (True) [(0, p0 b), (1, z6 n), (24, .bool true)] (bm 16 65535) 0 (trivial) ?_
      refine aE [(0, p0 b), (1, z6 n), (24, .bool true)] [bk b 227 #[str s, n6 at_, n6 e]] ?_
      refine cYes ?_
      refine cS [(3, .at 0)] ((b = b)) [] [bk b 227 #[str s, n6 at_, z6 3]] (rfl) ?_
      refine cQ [] (True) [(4, str [])] (trivial) ?_
      refine cd_ret (then_ret (bot_ret (rv [str []] (str []) ?_)))
      refine ⟨[], at_, 3, ?_, ?_, ?_, ?_, rfl⟩
      all_goals first | with_reducible rfl | (unfold Rd.take; simp only []; rw [if_pos (by omega)]; done) | (unfold Rd.take; simp only []; rw [if_neg (by omega), if_pos (by omega)]; done) | (unfold Rd.take; simp only []; rw [if_neg (by omega), if_neg (by omega)]; rfl; done) | with_reducible assumption | omega | rfl | (simp_all; done) | (simp_all; omega)
    · have g1p : ¬ (n < 0) := by simpa using g1
      refine aS [(7, .at 0), (12, .at 0)] [3, 4, 9, 5, 10, 6, 11, 7, 12, 8, 13, 14, 15] ((b = b) ∧ (b = b) ∧ (inKind .i64 ((s.length : Int) - (at_ : Int)))) [(0, p0 b), (1, z6 n), (24, .bool (decide (n > ((s.length : Int) - (at_ : Int)))))] (bm 16 65535) 0 (⟨rfl, rfl, inK_i64 (by omega)⟩) ?_
      refine aE [(0, p0 b), (1, z6 n), (24, .bool (decide (n > ((s.length : Int) - (at_ : Int)))))] [bk b 227 #[str s, n6 at_, n6 e]] ?_
      refine cI (decide (n > ((s.length : Int) - (at_ : Int)))) (fun h2 => ?_) (fun h2 => ?_)
      · have h2p : n > ((s.length : Int) - (at_ : Int)) := by simpa using h2
        refine cS [(3, .at 0)] ((b = b)) [] [bk b 227 #[str s, n6 at_, z6 3]] (rfl) ?_
        refine cQ [] (True) [(4, str [])] (trivial) ?_
        refine cd_ret (then_ret (bot_ret (rv [str []] (str []) ?_)))
        refine ⟨[], at_, 3, ?_, ?_, ?_, ?_, rfl⟩
        all_goals first | with_reducible rfl | (unfold Rd.take; simp only []; rw [if_pos (by omega)]; done) | (unfold Rd.take; simp only []; rw [if_neg (by omega), if_pos (by omega)]; done) | (unfold Rd.take; simp only []; rw [if_neg (by omega), if_neg (by omega)]; rfl; done) | with_reducible assumption | omega | rfl | (simp_all; done) | (simp_all; omega)
      · have h2p : ¬ (n > ((s.length : Int) - (at_ : Int))) := by simpa using h2
        refine cd_skip (then_n ?_)
        obtain ⟨k, rfl⟩ : ∃ k : Nat, n = (k : Int) := ⟨n.toNat, by omega⟩
        refine dr [bk b 227 #[str s, n6 at_, n6 e]] [] [] 16 ?_
        refine aS [(3, .at 0), (7, .at 0), (11, .at 0)] [0, 4, 8, 12, 1, 5, 9, 2, 6, 10, 3, 7, 11, 13, 14, 15] ((b = b) ∧ (b = b) ∧ (b = b) ∧ (inKind .i64 ((at_ : Int) + (k : Int))) ∧ (0 ≤ (at_ : Int) ∧ (at_ : Int) ≤ ((at_ : Int) + (k : Int)) ∧ ((at_ : Int) + (k : Int)) ≤ (s.length : Int))) [(0, p0 b), (1, n6 k), (5, str ((s.take (at_ + k)).drop at_))] (bm 16 65535) 0 (⟨rfl, rfl, rfl, inK_i64 (by omega), ⟨by omega, by omega, by omega⟩⟩) ?_
        refine aE [(0, p0 b), (1, n6 k), (5, str ((s.take (at_ + k)).drop at_))] [bk b 227 #[str s, n6 at_, n6 e]] ?_
        refine cS [(3, .at 0), (8, .at 0)] ((b = b) ∧ (inKind .i64 ((at_ : Int) + (k : Int))) ∧ (b = b)) [(5, str ((s.take (at_ + k)).drop at_))] [bk b 227 #[str s, n6 (at_ + k), n6 e]] (⟨rfl, inK_i64 (by omega), rfl⟩) ?_
        refine cQ [] (True) [(4, str ((s.take (at_ + k)).drop at_))] (trivial) ?_
        refine cd_ret (bot_ret (rv [str ((s.take (at_ + k)).drop at_)] (str ((s.take (at_ + k)).drop at_)) ?_))
        refine ⟨(s.take (at_ + k)).drop at_, at_ + k, e, ?_, ?_, ?_, ?_, rfl⟩
        all_goals first | with_reducible rfl | (unfold Rd.take; simp only []; rw [if_pos (by omega)]; done) | (unfold Rd.take; simp only []; rw [if_neg (by omega), if_pos (by omega)]; done) | (unfold Rd.take; simp only []; rw [if_neg (by omega), if_neg (by omega)]; rfl; done) | with_reducible assumption | omega | rfl | (simp_all; done) | (simp_all; omega)

set_option maxRecDepth 100000 in
theorem fail_any (C : Ctx) (b : Nat) (s : List UInt8) (at_ : Nat) (e : Nat) (c : Nat) (hc : Ok (c ≤ 100)) :
    FnT Tryz.prog C 98 #[p0 b, n6 c] [bk b 227 #[str s, n6 at_, n6 e]] (fun rv_ rL_ => ∃ e1 : Nat, (Rd.fail ⟨s, at_, e⟩ c = ⟨s, at_, e1⟩) ∧ (e1 ≤ 100 ∨ e1 = e) ∧ rv_ = .tuple #[] ∧ rL_ = [bk b 227 #[str s, n6 at_, n6 e1]]) := by
  replace hc := hc.h
  refine fE 10 Tryz.func98 rfl ?_
  refine cd_rg ?_
  refine rQ [] [0] [1] (True) [(0, p0 b), (1, n6 c), (4, p0 b)] (trivial) ?_
  refine rC 1 [] [0] [] (ok_any C b s at_ e) ?_
  rintro _ _ ⟨rfl, rfl⟩
  refine rD [(0, p0 b), (1, n6 c), (5, .bool ((e : Int) == 0))] ?_
  refine cI ((e : Int) == 0) (fun h1 => ?_) (fun h1 => ?_)
  · have h1p : (e : Int) = 0 := by simpa using h1
    refine cS0 [(4, .at 0)] ((b = b)) [] [bk b 227 #[str s, n6 at_, n6 c]] (rfl) ?_
    refine (bot_n (rv [] (.tuple #[]) ?_))
    refine ⟨c, ?_, ?_, ?_, rfl⟩
    all_goals first | with_reducible rfl | (simp [Rd.fail]; omega; done) | with_reducible assumption | omega | rfl | (simp_all; done) | (simp_all; omega)
  · have h1p : ¬ ((e : Int) = 0) := by simpa using h1
    refine cd_skip (bot_n (rv [] (.tuple #[]) ?_))
    refine ⟨e, ?_, ?_, ?_, rfl⟩
    all_goals first | with_reducible rfl | (simp [Rd.fail]; omega; done) | with_reducible assumption | omega | rfl | (simp_all; done) | (simp_all; omega)

set_option maxRecDepth 100000 in
theorem scan_any (C : Ctx) (b : Nat) (s : List UInt8) (at_ : Nat) (e : Nat) (ha : Ok (at_ ≤ s.length)) (hs : Ok (s.length ≤ 1099511627776)) (he : Ok (e ≤ 100)) :
    FnT Tryz.prog C 149 #[p0 b] [bk b 227 #[str s, n6 at_, n6 e]] (fun rv_ rL_ => ∃ x : Nat, ∃ y : Nat, ∃ z : Nat, ((z ≠ 0 → (scan 0 0 (s.drop at_)).2.2 = z ∧ z ≤ 100)) ∧ ((z = 0 → scan 0 0 (s.drop at_) = (x, y - at_, 0) ∧ at_ ≤ y ∧ y ≤ s.length)) ∧ (x < 18446744073709551616) ∧ rv_ = .tuple #[u6 x, n6 y, n6 z] ∧ rL_ = [bk b 227 #[str s, n6 at_, n6 e]]) := by
  replace ha := ha.h
  replace hs := hs.h
  replace he := he.h
  have hI : ScanInv s at_ 0 0 := ScanInv.start s at_
  refine fE 62 Tryz.func149 rfl ?_
  refine cQ [] (True) [(0, p0 b)] (trivial) ?_
  refine cd_scope 0 (fun x : Nat × Nat => [(0, p0 b), (5, u6 x.1), (6, n6 x.2)]) (fun x : Nat × Nat => [bk b 227 #[str s, n6 at_, n6 e]]) (fun x : Nat × Nat => ScanInv s at_ x.2 x.1) (fun x : Nat × Nat => s.length - (at_ + x.2)) rfl ?_ ?_
  · -- ahead of the label
    refine cQ [] (True) [(0, p0 b), (5, .int .u64 0)] (trivial) ?_
    refine cQ [] (True) [(0, p0 b), (5, .int .u64 0), (6, z6 0)] (trivial) ?_
    refine cd_seq ?_
    refine cd_label (then_n ?_)
    refine cd_seq ?_
    refine dr [bk b 227 #[str s, n6 at_, n6 e]] [] [] 12 ?_
    refine aS [(3, .at 0), (9, .at 0)] [0, 4, 6, 1, 7, 2, 8, 3, 9, 5, 10, 11] ((b = b) ∧ (b = b) ∧ (inKind .i64 ((at_ : Int) + 0))) [(0, p0 b), (5, .int .u64 0), (6, z6 0), (19, .bool (decide (((at_ : Int) + 0) ≥ (s.length : Int))))] (bm 12 4095) 0 (⟨rfl, rfl, inK_i64 (by omega)⟩) ?_
    refine aE [(0, p0 b), (5, .int .u64 0), (6, z6 0), (19, .bool (decide (((at_ : Int) + 0) ≥ (s.length : Int))))] [bk b 227 #[str s, n6 at_, n6 e]] ?_
    refine cI (decide (((at_ : Int) + 0) ≥ (s.length : Int))) (fun h1 => ?_) (fun h1 => ?_)
    · have h1p : ((at_ : Int) + 0) ≥ (s.length : Int) := by simpa using h1
      refine cQ [] (True) [(2, .int .u64 0), (3, z6 0), (4, z6 3)] (trivial) ?_
      refine cd_ret (then_ret (jump_ret (bot_ret (rv [.int .u64 0, z6 0, z6 3] (.tuple #[.int .u64 0, z6 0, z6 3]) ?_))))
      refine ⟨0, 0, 3, ?_, ?_, ?_, ?_, rfl⟩
      all_goals first | with_reducible rfl | (intro _; rw [hI.none (by omega)]; exact ⟨rfl, by omega⟩; done) | (intro _; rw [hI.wide (by omega) (by omega) (by omega)]; exact ⟨rfl, by omega⟩; done) | (intro _; rw [hI.long (by omega) (by omega) (by omega) (by omega)]; exact ⟨rfl, by omega⟩; done) | (intro _; rw [hI.good (by omega) (by omega) (by omega) (by omega)]; exact ⟨by rw [Nat.add_sub_cancel_left], by omega, by omega⟩; done) | (have := (hI.fits (by omega)).2; omega; done) | with_reducible assumption | omega | rfl | (simp_all; done) | (simp_all; omega)
    · have h1p : ¬ (((at_ : Int) + 0) ≥ (s.length : Int)) := by simpa using h1
      refine cd_skip (then_n ?_)
      refine dr [bk b 227 #[str s, n6 at_, n6 e]] [] [] 12 ?_
      refine aS [(3, .at 0), (7, .at 0)] [0, 4, 8, 1, 5, 2, 6, 3, 7, 9, 10, 11] ((b = b) ∧ (b = b) ∧ (inKind .i64 ((at_ : Int) + 0)) ∧ (0 ≤ ((at_ : Int) + 0) ∧ ((at_ : Int) + 0) < (s.length : Int))) [(0, p0 b), (5, .int .u64 0), (6, z6 0), (7, u1 ((s.getD (at_ + 0) 0).toNat))] (bm 12 4095) 0 (⟨rfl, rfl, inK_i64 (by omega), ⟨by omega, by omega⟩⟩) ?_
      refine aE [(0, p0 b), (5, .int .u64 0), (6, z6 0), (7, u1 ((s.getD (at_ + 0) 0).toNat))] [bk b 227 #[str s, n6 at_, n6 e]] ?_
      refine cd_seq ?_
      refine cQ [] (True) [(0, p0 b), (5, .int .u64 0), (6, z6 0), (7, u1 ((s.getD (at_ + 0) 0).toNat)), (36, .bool false)] (trivial) ?_
      refine cNo ?_
      refine cd_skip (then_n ?_)
      refine cd_rg ?_
      refine rQ [(2, .nat)] [0, 1, 2] [3, 4, 5, 6, 7, 8] ((natK .u8 (((s.getD (at_ + 0) 0).toNat : Nat) : Int) ∧ natK .u8 (127 : Int))) [(0, p0 b), (6, z6 0), (7, u1 ((s.getD (at_ + 0) 0).toNat)), (37, .int .u64 0), (39, u1 (((s.getD (at_ + 0) 0).toNat) &&& 127))] (⟨natK_u8 (by have hu1 := UInt8.toNat_lt (s.getD (at_ + 0) 0); omega), natK_u8 (by have hu1 := UInt8.toNat_lt (s.getD (at_ + 0) 0); omega)⟩) ?_
      refine rP 39 (u1 (((s.getD (at_ + 0) 0).toNat) &&& 127)) (u1 ((s.getD (at_ + 0) 0).toNat % 128)) (by rw [and127]) ?_
      refine rQ [(6, .nat), (7, .nat)] [3, 4, 5, 6, 7] [8] ((inKind .u64 (((s.getD (at_ + 0) 0).toNat % 128 : Nat) : Int)) ∧ (inKind .i64 ((7 : Int) * (0 : Int))) ∧ (0 ≤ (((s.getD (at_ + 0) 0).toNat % 128 : Nat) : Int) ∧ 0 ≤ (0 : Int) ∧ (0 : Int) ≤ (IntKind.bits .u64 : Int) ∧ ((((s.getD (at_ + 0) 0).toNat % 128) * 2 ^ 0 : Nat) : Int) ≤ IntKind.max .u64) ∧ (natK .u64 (0 : Int) ∧ natK .u64 ((((s.getD (at_ + 0) 0).toNat % 128) * 2 ^ 0 : Nat) : Int))) [(0, p0 b), (6, z6 0), (7, u1 ((s.getD (at_ + 0) 0).toNat)), (44, u6 (0 ||| (((s.getD (at_ + 0) 0).toNat % 128) * 2 ^ 0)))] (⟨inK_u64 (by have hu1 := UInt8.toNat_lt (s.getD (at_ + 0) 0); omega), inK_i64 (by omega), ⟨Int.natCast_nonneg _, by have hu1 := UInt8.toNat_lt (s.getD (at_ + 0) 0); omega, by simp only [IntKind.bits]; have := hI.ten; omega, by have := hI.shl (by have hu1 := UInt8.toNat_lt (s.getD (at_ + 0) 0); omega); rw [show IntKind.max .u64 = 18446744073709551615 from rfl]; have hu0 := UInt8.toNat_lt (s.getD (at_ + 0) 0); omega⟩, ⟨natK_u64 (by have := (hI.fits (by have hu1 := UInt8.toNat_lt (s.getD (at_ + 0) 0); omega)).2; omega), natK_u64 (by have := hI.shl (by have hu1 := UInt8.toNat_lt (s.getD (at_ + 0) 0); omega); omega)⟩⟩) ?_
      refine rP 44 (u6 (0 ||| (((s.getD (at_ + 0) 0).toNat % 128) * 2 ^ 0))) (u6 (0 + (s.getD (at_ + 0) 0).toNat % 128 * 128 ^ 0)) (congrArg (fun m : Nat => Value.int .u64 (m : Int)) (or_add hI _)) ?_
      refine rQ [] [8] [] (True) [(0, p0 b), (5, u6 (0 + (s.getD (at_ + 0) 0).toNat % 128 * 128 ^ 0)), (6, z6 0), (7, u1 ((s.getD (at_ + 0) 0).toNat))] (trivial) ?_
      refine rF ?_
      refine cQ [] ((inKind .i64 ((0 : Int) + (1 : Int)))) [(0, p0 b), (5, u6 (0 + (s.getD (at_ + 0) 0).toNat % 128 * 128 ^ 0)), (6, z6 1), (7, u1 ((s.getD (at_ + 0) 0).toNat))] (inK_i64 (by omega)) ?_
      refine cd_seq ?_
      refine cQ [] (True) [(0, p0 b), (5, u6 (0 + (s.getD (at_ + 0) 0).toNat % 128 * 128 ^ 0)), (6, z6 1), (7, u1 ((s.getD (at_ + 0) 0).toNat)), (48, .bool (decide ((((s.getD (at_ + 0) 0).toNat : Nat) : Int) ≥ 128)))] (trivial) ?_
      refine cI (decide ((((s.getD (at_ + 0) 0).toNat : Nat) : Int) ≥ 128)) (fun h2 => ?_) (fun h2 => ?_)
      · have h2p : (((s.getD (at_ + 0) 0).toNat : Nat) : Int) ≥ 128 := by simpa using h2
        refine cd_goto (then_goto (jump_hit (sF ((0 + (s.getD (at_ + 0) 0).toNat % 128 * 128 ^ 0, 1)) (show ScanInv s at_ 1 (0 + (s.getD (at_ + 0) 0).toNat % 128 * 128 ^ 0) from (ScanInv.start s at_).next (by omega) (by omega) (by omega)))))
      · have h2p : ¬ ((((s.getD (at_ + 0) 0).toNat : Nat) : Int) ≥ 128) := by simpa using h2
        refine cd_skip (then_n ?_)
        refine cd_seq ?_
        refine cd_rg ?_
        refine rQ [] [0, 1, 2] [3, 4, 5] (True) [(0, p0 b), (5, u6 (0 + (s.getD (at_ + 0) 0).toNat % 128 * 128 ^ 0)), (6, z6 1), (51, .bool ((((s.getD (at_ + 0) 0).toNat : Nat) : Int) == 0))] (trivial) ?_
        refine rg_join2 [] [(0, p0 b), (5, u6 (0 + (s.getD (at_ + 0) 0).toNat % 128 * 128 ^ 0)), (6, z6 1), (54, .bool (((((s.getD (at_ + 0) 0).toNat : Nat) : Int) == 0) && false))] [bk b 227 #[str s, n6 at_, n6 e]] (fun hj => ?_) ?_
        · refine rI 51 ((((s.getD (at_ + 0) 0).toNat : Nat) : Int) == 0) (fun g1 => ?_) (fun g1 => ?_)
          · have g1p : (((s.getD (at_ + 0) 0).toNat : Nat) : Int) = 0 := by simpa using g1
            refine rQ [] [3, 4, 5] [] (True) [(0, p0 b), (5, u6 (0 + (s.getD (at_ + 0) 0).toNat % 128 * 128 ^ 0)), (6, z6 1), (54, .bool false)] (trivial) ?_
            refine rP 54 (.bool false) (.bool (((((s.getD (at_ + 0) 0).toNat : Nat) : Int) == 0) && false)) (by first | (rw [show ((((s.getD (at_ + 0) 0).toNat : Nat) : Int) == 0) = true from g1]; done) | (rw [show ((((s.getD (at_ + 0) 0).toNat : Nat) : Int) == 0) = true from g1]; rfl)) ?_
            exact rM hj
          · have g1p : ¬ ((((s.getD (at_ + 0) 0).toNat : Nat) : Int) = 0) := by simpa using g1
            refine rQ [] [3, 4, 5] [] (True) [(0, p0 b), (5, u6 (0 + (s.getD (at_ + 0) 0).toNat % 128 * 128 ^ 0)), (6, z6 1), (54, .bool false)] (trivial) ?_
            refine rP 54 (.bool false) (.bool (((((s.getD (at_ + 0) 0).toNat : Nat) : Int) == 0) && false)) (by first | (rw [show ((((s.getD (at_ + 0) 0).toNat : Nat) : Int) == 0) = false from g1]; done) | (rw [show ((((s.getD (at_ + 0) 0).toNat : Nat) : Int) == 0) = false from g1]; rfl)) ?_
            exact rM hj
        refine rD [(0, p0 b), (5, u6 (0 + (s.getD (at_ + 0) 0).toNat % 128 * 128 ^ 0)), (6, z6 1), (54, .bool (((((s.getD (at_ + 0) 0).toNat : Nat) : Int) == 0) && false))] ?_
        refine cI (((((s.getD (at_ + 0) 0).toNat : Nat) : Int) == 0) && false) (fun h3 => ?_) (fun h3 => ?_)
        · have h3p : ((((s.getD (at_ + 0) 0).toNat : Nat) : Int) = 0) ∧ False := by simp at h3
          refine cQ [] (True) [(2, .int .u64 0), (3, z6 0), (4, z6 4)] (trivial) ?_
          refine cd_ret (then_ret (jump_ret (bot_ret (rv [.int .u64 0, z6 0, z6 4] (.tuple #[.int .u64 0, z6 0, z6 4]) ?_))))
          refine ⟨0, 0, 4, ?_, ?_, ?_, ?_, rfl⟩
          all_goals first | with_reducible rfl | (intro _; rw [hI.none (by omega)]; exact ⟨rfl, by omega⟩; done) | (intro _; rw [hI.wide (by omega) (by omega) (by omega)]; exact ⟨rfl, by omega⟩; done) | (intro _; rw [hI.long (by omega) (by omega) (by omega) (by omega)]; exact ⟨rfl, by omega⟩; done) | (intro _; rw [hI.good (by omega) (by omega) (by omega) (by omega)]; exact ⟨by rw [Nat.add_sub_cancel_left], by omega, by omega⟩; done) | (have := (hI.fits (by omega)).2; omega; done) | with_reducible assumption | omega | rfl | (simp_all; done) | (simp_all; omega)
        · have h3p : ¬ (((((s.getD (at_ + 0) 0).toNat : Nat) : Int) = 0) ∧ False) := by simp
          refine cd_skip (then_n ?_)
          refine dr [bk b 227 #[str s, n6 at_, n6 e]] [] [] 10 ?_
          refine aS [(4, .at 0)] [0, 1, 5, 2, 7, 3, 4, 6, 8, 9] ((b = b) ∧ (inKind .i64 ((at_ : Int) + 1))) [(2, u6 (0 + (s.getD (at_ + 0) 0).toNat % 128 * 128 ^ 0)), (3, n6 (at_ + 1)), (4, z6 0)] (bm 10 1023) 0 (⟨rfl, inK_i64 (by omega)⟩) ?_
          refine aE [(2, u6 (0 + (s.getD (at_ + 0) 0).toNat % 128 * 128 ^ 0)), (3, n6 (at_ + 1)), (4, z6 0)] [bk b 227 #[str s, n6 at_, n6 e]] ?_
          refine cd_ret (jump_ret (bot_ret (rv [u6 (0 + (s.getD (at_ + 0) 0).toNat % 128 * 128 ^ 0), n6 (at_ + 1), z6 0] (.tuple #[u6 (0 + (s.getD (at_ + 0) 0).toNat % 128 * 128 ^ 0), n6 (at_ + 1), z6 0]) ?_)))
          refine ⟨0 + (s.getD (at_ + 0) 0).toNat % 128 * 128 ^ 0, at_ + 1, 0, ?_, ?_, ?_, ?_, rfl⟩
          all_goals first | with_reducible rfl | (intro _; rw [hI.none (by omega)]; exact ⟨rfl, by omega⟩; done) | (intro _; rw [hI.wide (by omega) (by omega) (by omega)]; exact ⟨rfl, by omega⟩; done) | (intro _; rw [hI.long (by omega) (by omega) (by omega) (by omega)]; exact ⟨rfl, by omega⟩; done) | (intro _; rw [hI.good (by omega) (by omega) (by omega) (by omega)]; exact ⟨by rw [Nat.add_sub_cancel_left], by omega, by omega⟩; done) | (have := (hI.fits (by omega)).2; omega; done) | with_reducible assumption | omega | rfl | (simp_all; done) | (simp_all; omega)
  · rintro ⟨acc, i⟩ hI
    replace hI : ScanInv s at_ i acc := hI
    have h10 := hI.ten
    refine cd_seq ?_
    refine cd_skip (then_n ?_)
    refine cd_seq ?_
    refine dr [bk b 227 #[str s, n6 at_, n6 e]] [] [] 12 ?_
    refine aS [(3, .at 0), (9, .at 0)] [0, 4, 6, 1, 7, 2, 8, 3, 9, 5, 10, 11] ((b = b) ∧ (b = b) ∧ (inKind .i64 ((at_ : Int) + (i : Int)))) [(0, p0 b), (5, u6 acc), (6, n6 i), (19, .bool (decide (((at_ : Int) + (i : Int)) ≥ (s.length : Int))))] (bm 12 4095) 0 (⟨rfl, rfl, inK_i64 (by omega)⟩) ?_
    refine aE [(0, p0 b), (5, u6 acc), (6, n6 i), (19, .bool (decide (((at_ : Int) + (i : Int)) ≥ (s.length : Int))))] [bk b 227 #[str s, n6 at_, n6 e]] ?_
    refine cI (decide (((at_ : Int) + (i : Int)) ≥ (s.length : Int))) (fun h4 => ?_) (fun h4 => ?_)
    · have h4p : ((at_ : Int) + (i : Int)) ≥ (s.length : Int) := by simpa using h4
      refine cQ [] (True) [(2, .int .u64 0), (3, z6 0), (4, z6 3)] (trivial) ?_
      refine cd_ret (then_ret (jump_ret (bot_ret (rv [.int .u64 0, z6 0, z6 3] (.tuple #[.int .u64 0, z6 0, z6 3]) ?_))))
      refine ⟨0, 0, 3, ?_, ?_, ?_, ?_, rfl⟩
      all_goals first | with_reducible rfl | (intro _; rw [hI.none (by omega)]; exact ⟨rfl, by omega⟩; done) | (intro _; rw [hI.wide (by omega) (by omega) (by omega)]; exact ⟨rfl, by omega⟩; done) | (intro _; rw [hI.long (by omega) (by omega) (by omega) (by omega)]; exact ⟨rfl, by omega⟩; done) | (intro _; rw [hI.good (by omega) (by omega) (by omega) (by omega)]; exact ⟨by rw [Nat.add_sub_cancel_left], by omega, by omega⟩; done) | (have := (hI.fits (by omega)).2; omega; done) | with_reducible assumption | omega | rfl | (simp_all; done) | (simp_all; omega)
    · have h4p : ¬ (((at_ : Int) + (i : Int)) ≥ (s.length : Int)) := by simpa using h4
      refine cd_skip (then_n ?_)
      refine dr [bk b 227 #[str s, n6 at_, n6 e]] [] [] 12 ?_
      refine aS [(3, .at 0), (7, .at 0)] [0, 4, 8, 1, 5, 2, 6, 3, 7, 9, 10, 11] ((b = b) ∧ (b = b) ∧ (inKind .i64 ((at_ : Int) + (i : Int))) ∧ (0 ≤ ((at_ : Int) + (i : Int)) ∧ ((at_ : Int) + (i : Int)) < (s.length : Int))) [(0, p0 b), (5, u6 acc), (6, n6 i), (7, u1 ((s.getD (at_ + i) 0).toNat))] (bm 12 4095) 0 (⟨rfl, rfl, inK_i64 (by omega), ⟨by omega, by omega⟩⟩) ?_
      refine aE [(0, p0 b), (5, u6 acc), (6, n6 i), (7, u1 ((s.getD (at_ + i) 0).toNat))] [bk b 227 #[str s, n6 at_, n6 e]] ?_
      refine cd_seq ?_
      refine cd_rg ?_
      refine rQ [] [0, 1, 2] [3, 4, 5] (True) [(0, p0 b), (5, u6 acc), (6, n6 i), (7, u1 ((s.getD (at_ + i) 0).toNat)), (33, .bool ((i : Int) == 9))] (trivial) ?_
      refine rg_join2 [] [(0, p0 b), (5, u6 acc), (6, n6 i), (7, u1 ((s.getD (at_ + i) 0).toNat)), (36, .bool (((i : Int) == 9) && (decide ((((s.getD (at_ + i) 0).toNat : Nat) : Int) > 1))))] [bk b 227 #[str s, n6 at_, n6 e]] (fun hj => ?_) ?_
      · refine rI 33 ((i : Int) == 9) (fun g2 => ?_) (fun g2 => ?_)
        · have g2p : (i : Int) = 9 := by simpa using g2
          refine rQ [] [3, 4, 5] [] (True) [(0, p0 b), (5, u6 acc), (6, n6 i), (7, u1 ((s.getD (at_ + i) 0).toNat)), (36, .bool (decide ((((s.getD (at_ + i) 0).toNat : Nat) : Int) > 1)))] (trivial) ?_
          refine rP 36 (.bool (decide ((((s.getD (at_ + i) 0).toNat : Nat) : Int) > 1))) (.bool (((i : Int) == 9) && (decide ((((s.getD (at_ + i) 0).toNat : Nat) : Int) > 1)))) (by first | (rw [show ((i : Int) == 9) = true from g2]; done) | (rw [show ((i : Int) == 9) = true from g2]; rfl)) ?_
          exact rM hj
        · have g2p : ¬ ((i : Int) = 9) := by simpa using g2
          refine rQ [] [3, 4, 5] [] (True) [(0, p0 b), (5, u6 acc), (6, n6 i), (7, u1 ((s.getD (at_ + i) 0).toNat)), (36, .bool false)] (trivial) ?_
          refine rP 36 (.bool false) (.bool (((i : Int) == 9) && (decide ((((s.getD (at_ + i) 0).toNat : Nat) : Int) > 1)))) (by first | (rw [show ((i : Int) == 9) = false from g2]; done) | (rw [show ((i : Int) == 9) = false from g2]; rfl)) ?_
          exact rM hj
      refine rD [(0, p0 b), (5, u6 acc), (6, n6 i), (7, u1 ((s.getD (at_ + i) 0).toNat)), (36, .bool (((i : Int) == 9) && (decide ((((s.getD (at_ + i) 0).toNat : Nat) : Int) > 1))))] ?_
      refine cI (((i : Int) == 9) && (decide ((((s.getD (at_ + i) 0).toNat : Nat) : Int) > 1))) (fun h5 => ?_) (fun h5 => ?_)
      · have h5p : ((i : Int) = 9) ∧ ((((s.getD (at_ + i) 0).toNat : Nat) : Int) > 1) := by simpa using h5
        refine cQ [] (True) [(2, .int .u64 0), (3, z6 0), (4, z6 8)] (trivial) ?_
        refine cd_ret (then_ret (jump_ret (bot_ret (rv [.int .u64 0, z6 0, z6 8] (.tuple #[.int .u64 0, z6 0, z6 8]) ?_))))
        refine ⟨0, 0, 8, ?_, ?_, ?_, ?_, rfl⟩
        all_goals first | with_reducible rfl | (intro _; rw [hI.none (by omega)]; exact ⟨rfl, by omega⟩; done) | (intro _; rw [hI.wide (by omega) (by omega) (by omega)]; exact ⟨rfl, by omega⟩; done) | (intro _; rw [hI.long (by omega) (by omega) (by omega) (by omega)]; exact ⟨rfl, by omega⟩; done) | (intro _; rw [hI.good (by omega) (by omega) (by omega) (by omega)]; exact ⟨by rw [Nat.add_sub_cancel_left], by omega, by omega⟩; done) | (have := (hI.fits (by omega)).2; omega; done) | with_reducible assumption | omega | rfl | (simp_all; done) | (simp_all; omega)
      · have h5p : ¬ (((i : Int) = 9) ∧ ((((s.getD (at_ + i) 0).toNat : Nat) : Int) > 1)) := by simpa using h5
        refine cd_skip (then_n ?_)
        refine cd_rg ?_
        refine rQ [(2, .nat)] [0, 1, 2] [3, 4, 5, 6, 7, 8] ((natK .u8 (((s.getD (at_ + i) 0).toNat : Nat) : Int) ∧ natK .u8 (127 : Int))) [(0, p0 b), (6, n6 i), (7, u1 ((s.getD (at_ + i) 0).toNat)), (37, u6 acc), (39, u1 (((s.getD (at_ + i) 0).toNat) &&& 127))] (⟨natK_u8 (by have hu1 := UInt8.toNat_lt (s.getD (at_ + i) 0); omega), natK_u8 (by have hu1 := UInt8.toNat_lt (s.getD (at_ + i) 0); omega)⟩) ?_
        refine rP 39 (u1 (((s.getD (at_ + i) 0).toNat) &&& 127)) (u1 ((s.getD (at_ + i) 0).toNat % 128)) (by rw [and127]) ?_
        refine rQ [(6, .nat), (7, .nat)] [3, 4, 5, 6, 7] [8] ((inKind .u64 (((s.getD (at_ + i) 0).toNat % 128 : Nat) : Int)) ∧ (inKind .i64 (7 * (i : Int))) ∧ (0 ≤ (((s.getD (at_ + i) 0).toNat % 128 : Nat) : Int) ∧ 0 ≤ (7 * (i : Int)) ∧ (7 * (i : Int)) ≤ (IntKind.bits .u64 : Int) ∧ ((((s.getD (at_ + i) 0).toNat % 128) * 2 ^ (7 * i) : Nat) : Int) ≤ IntKind.max .u64) ∧ (natK .u64 (acc : Int) ∧ natK .u64 ((((s.getD (at_ + i) 0).toNat % 128) * 2 ^ (7 * i) : Nat) : Int))) [(0, p0 b), (6, n6 i), (7, u1 ((s.getD (at_ + i) 0).toNat)), (44, u6 (acc ||| (((s.getD (at_ + i) 0).toNat % 128) * 2 ^ (7 * i))))] (⟨inK_u64 (by have hu1 := UInt8.toNat_lt (s.getD (at_ + i) 0); omega), inK_i64 (by omega), ⟨Int.natCast_nonneg _, by have hu1 := UInt8.toNat_lt (s.getD (at_ + i) 0); omega, by simp only [IntKind.bits]; have := hI.ten; omega, by have := hI.shl (by have hu1 := UInt8.toNat_lt (s.getD (at_ + i) 0); omega); rw [show IntKind.max .u64 = 18446744073709551615 from rfl]; have hu0 := UInt8.toNat_lt (s.getD (at_ + i) 0); omega⟩, ⟨natK_u64 (by have := (hI.fits (by have hu1 := UInt8.toNat_lt (s.getD (at_ + i) 0); omega)).2; omega), natK_u64 (by have := hI.shl (by have hu1 := UInt8.toNat_lt (s.getD (at_ + i) 0); omega); omega)⟩⟩) ?_
        refine rP 44 (u6 (acc ||| (((s.getD (at_ + i) 0).toNat % 128) * 2 ^ (7 * i)))) (u6 (acc + (s.getD (at_ + i) 0).toNat % 128 * 128 ^ i)) (congrArg (fun m : Nat => Value.int .u64 (m : Int)) (or_add hI _)) ?_
        refine rQ [] [8] [] (True) [(0, p0 b), (5, u6 (acc + (s.getD (at_ + i) 0).toNat % 128 * 128 ^ i)), (6, n6 i), (7, u1 ((s.getD (at_ + i) 0).toNat))] (trivial) ?_
        refine rF ?_
        refine cQ [] ((inKind .i64 ((i : Int) + 1))) [(0, p0 b), (5, u6 (acc + (s.getD (at_ + i) 0).toNat % 128 * 128 ^ i)), (6, n6 (i + 1)), (7, u1 ((s.getD (at_ + i) 0).toNat))] (inK_i64 (by omega)) ?_
        refine cd_seq ?_
        refine cQ [] (True) [(0, p0 b), (5, u6 (acc + (s.getD (at_ + i) 0).toNat % 128 * 128 ^ i)), (6, n6 (i + 1)), (7, u1 ((s.getD (at_ + i) 0).toNat)), (48, .bool (decide ((((s.getD (at_ + i) 0).toNat : Nat) : Int) ≥ 128)))] (trivial) ?_
        refine cI (decide ((((s.getD (at_ + i) 0).toNat : Nat) : Int) ≥ 128)) (fun h6 => ?_) (fun h6 => ?_)
        · have h6p : (((s.getD (at_ + i) 0).toNat : Nat) : Int) ≥ 128 := by simpa using h6
          refine cd_goto (then_goto (jump_hit (sM ((acc + (s.getD (at_ + i) 0).toNat % 128 * 128 ^ i, i + 1)) (show ScanInv s at_ (i + 1) (acc + (s.getD (at_ + i) 0).toNat % 128 * 128 ^ i) from hI.next (by omega) (by omega) (by omega)) (show (s.length - (at_ + (i + 1))) < (s.length - (at_ + i)) by first | omega | (simp; omega)))))
        · have h6p : ¬ ((((s.getD (at_ + i) 0).toNat : Nat) : Int) ≥ 128) := by simpa using h6
          refine cd_skip (then_n ?_)
          refine cd_seq ?_
          refine cd_rg ?_
          refine rQ [] [0, 1, 2] [3, 4, 5] (True) [(0, p0 b), (5, u6 (acc + (s.getD (at_ + i) 0).toNat % 128 * 128 ^ i)), (6, n6 (i + 1)), (51, .bool ((((s.getD (at_ + i) 0).toNat : Nat) : Int) == 0))] (trivial) ?_
          refine rg_join2 [] [(0, p0 b), (5, u6 (acc + (s.getD (at_ + i) 0).toNat % 128 * 128 ^ i)), (6, n6 (i + 1)), (54, .bool (((((s.getD (at_ + i) 0).toNat : Nat) : Int) == 0) && (decide (((i : Int) + 1) > 1))))] [bk b 227 #[str s, n6 at_, n6 e]] (fun hj => ?_) ?_
          · refine rI 51 ((((s.getD (at_ + i) 0).toNat : Nat) : Int) == 0) (fun g3 => ?_) (fun g3 => ?_)
            · have g3p : (((s.getD (at_ + i) 0).toNat : Nat) : Int) = 0 := by simpa using g3
              refine rQ [] [3, 4, 5] [] (True) [(0, p0 b), (5, u6 (acc + (s.getD (at_ + i) 0).toNat % 128 * 128 ^ i)), (6, n6 (i + 1)), (54, .bool (decide (((i : Int) + 1) > 1)))] (trivial) ?_
              refine rP 54 (.bool (decide (((i : Int) + 1) > 1))) (.bool (((((s.getD (at_ + i) 0).toNat : Nat) : Int) == 0) && (decide (((i : Int) + 1) > 1)))) (by first | (rw [show ((((s.getD (at_ + i) 0).toNat : Nat) : Int) == 0) = true from g3]; done) | (rw [show ((((s.getD (at_ + i) 0).toNat : Nat) : Int) == 0) = true from g3]; rfl)) ?_
              exact rM hj
            · have g3p : ¬ ((((s.getD (at_ + i) 0).toNat : Nat) : Int) = 0) := by simpa using g3
              refine rQ [] [3, 4, 5] [] (True) [(0, p0 b), (5, u6 (acc + (s.getD (at_ + i) 0).toNat % 128 * 128 ^ i)), (6, n6 (i + 1)), (54, .bool false)] (trivial) ?_
              refine rP 54 (.bool false) (.bool (((((s.getD (at_ + i) 0).toNat : Nat) : Int) == 0) && (decide (((i : Int) + 1) > 1)))) (by first | (rw [show ((((s.getD (at_ + i) 0).toNat : Nat) : Int) == 0) = false from g3]; done) | (rw [show ((((s.getD (at_ + i) 0).toNat : Nat) : Int) == 0) = false from g3]; rfl)) ?_
              exact rM hj
          refine rD [(0, p0 b), (5, u6 (acc + (s.getD (at_ + i) 0).toNat % 128 * 128 ^ i)), (6, n6 (i + 1)), (54, .bool (((((s.getD (at_ + i) 0).toNat : Nat) : Int) == 0) && (decide (((i : Int) + 1) > 1))))] ?_
          refine cI (((((s.getD (at_ + i) 0).toNat : Nat) : Int) == 0) && (decide (((i : Int) + 1) > 1))) (fun h7 => ?_) (fun h7 => ?_)
          · have h7p : ((((s.getD (at_ + i) 0).toNat : Nat) : Int) = 0) ∧ (((i : Int) + 1) > 1) := by simpa using h7
            refine cQ [] (True) [(2, .int .u64 0), (3, z6 0), (4, z6 4)] (trivial) ?_
            refine cd_ret (then_ret (jump_ret (bot_ret (rv [.int .u64 0, z6 0, z6 4] (.tuple #[.int .u64 0, z6 0, z6 4]) ?_))))
            refine ⟨0, 0, 4, ?_, ?_, ?_, ?_, rfl⟩
            all_goals first | with_reducible rfl | (intro _; rw [hI.none (by omega)]; exact ⟨rfl, by omega⟩; done) | (intro _; rw [hI.wide (by omega) (by omega) (by omega)]; exact ⟨rfl, by omega⟩; done) | (intro _; rw [hI.long (by omega) (by omega) (by omega) (by omega)]; exact ⟨rfl, by omega⟩; done) | (intro _; rw [hI.good (by omega) (by omega) (by omega) (by omega)]; exact ⟨by rw [Nat.add_sub_cancel_left], by omega, by omega⟩; done) | (have := (hI.fits (by omega)).2; omega; done) | with_reducible assumption | omega | rfl | (simp_all; done) | (simp_all; omega)
          · have h7p : ¬ (((((s.getD (at_ + i) 0).toNat : Nat) : Int) = 0) ∧ (((i : Int) + 1) > 1)) := by simpa using h7
            refine cd_skip (then_n ?_)
            refine dr [bk b 227 #[str s, n6 at_, n6 e]] [] [] 10 ?_
            refine aS [(4, .at 0)] [0, 1, 5, 2, 7, 3, 4, 6, 8, 9] ((b = b) ∧ (inKind .i64 ((at_ : Int) + ((i : Int) + 1)))) [(2, u6 (acc + (s.getD (at_ + i) 0).toNat % 128 * 128 ^ i)), (3, n6 (at_ + (i + 1))), (4, z6 0)] (bm 10 1023) 0 (⟨rfl, inK_i64 (by omega)⟩) ?_
            refine aE [(2, u6 (acc + (s.getD (at_ + i) 0).toNat % 128 * 128 ^ i)), (3, n6 (at_ + (i + 1))), (4, z6 0)] [bk b 227 #[str s, n6 at_, n6 e]] ?_
            refine cd_ret (jump_ret (bot_ret (rv [u6 (acc + (s.getD (at_ + i) 0).toNat % 128 * 128 ^ i), n6 (at_ + (i + 1)), z6 0] (.tuple #[u6 (acc + (s.getD (at_ + i) 0).toNat % 128 * 128 ^ i), n6 (at_ + (i + 1)), z6 0]) ?_)))
            refine ⟨acc + (s.getD (at_ + i) 0).toNat % 128 * 128 ^ i, at_ + (i + 1), 0, ?_, ?_, ?_, ?_, rfl⟩
            all_goals first | with_reducible rfl | (intro _; rw [hI.none (by omega)]; exact ⟨rfl, by omega⟩; done) | (intro _; rw [hI.wide (by omega) (by omega) (by omega)]; exact ⟨rfl, by omega⟩; done) | (intro _; rw [hI.long (by omega) (by omega) (by omega) (by omega)]; exact ⟨rfl, by omega⟩; done) | (intro _; rw [hI.good (by omega) (by omega) (by omega) (by omega)]; exact ⟨by rw [Nat.add_sub_cancel_left], by omega, by omega⟩; done) | (have := (hI.fits (by omega)).2; omega; done) | with_reducible assumption | omega | rfl | (simp_all; done) | (simp_all; omega)

set_option maxRecDepth 100000 in
theorem num_any (C : Ctx) (b : Nat) (s : List UInt8) (at_ : Nat) (e : Nat) (ha : Ok (at_ ≤ s.length)) (hs : Ok (s.length ≤ 1099511627776)) (he : Ok (e ≤ 100)) :
    FnT Tryz.prog C 97 #[p0 b] [bk b 227 #[str s, n6 at_, n6 e]] (fun rv_ rL_ => ∃ n : Nat, ∃ a1 : Nat, ∃ e1 : Nat, (Rd.num ⟨s, at_, e⟩ = (n, ⟨s, a1, e1⟩)) ∧ (a1 ≤ s.length) ∧ (e1 ≤ 100) ∧ (n < 18446744073709551616) ∧ rv_ = u6 n ∧ rL_ = [bk b 227 #[str s, n6 a1, n6 e1]]) := by
  replace ha := ha.h
  replace hs := hs.h
  replace he := he.h
  refine fE 26 Tryz.func97 rfl ?_
  refine cQ [] (True) [(0, p0 b)] (trivial) ?_
  refine cd_seq ?_
  refine cd_rg ?_
  refine rQ [] [0] [1, 2] (True) [(0, p0 b), (6, p0 b)] (trivial) ?_
  refine rC 1 [2] [0] [] (ok_any C b s at_ e) ?_
  rintro _ _ ⟨rfl, rfl⟩
  refine rQ [] [2] [] (True) [(0, p0 b), (8, .bool (!((e : Int) == 0)))] (trivial) ?_
  refine rF ?_
  refine cI (!((e : Int) == 0)) (fun h1 => ?_) (fun h1 => ?_)
  · have h1p : ¬ ((e : Int) = 0) := by simpa using h1
    refine cQ [] (True) [(2, .int .u64 0)] (trivial) ?_
    refine cd_ret (then_ret (bot_ret (rv [.int .u64 0] (.int .u64 0) ?_)))
    refine ⟨0, at_, e, ?_, ?_, ?_, ?_, ?_, rfl⟩
    all_goals first | with_reducible rfl | (exact Rd.num_bad (by omega); done) | (exact Rd.num_err (by omega) (hf1 (by omega)).1 (by omega); done) | (have h9 := hf2 (by omega); rw [Rd.num_ok (by omega) h9.1, show at_ + (y1 - at_) = y1 by omega]; done) | (exact (hf2 (by omega)).2.2; done) | (exact (hf1 (by omega)).2; done) | with_reducible assumption | omega | rfl | (simp_all; done) | (simp_all; omega)
  · have h1p : ¬ (¬ ((e : Int) = 0)) := by simpa using h1
    refine cd_skip (then_n ?_)
    refine cd_rg ?_
    refine rQ [] [0] [1, 2, 3, 4, 5, 6, 7, 8] (True) [(0, p0 b), (10, p0 b)] (trivial) ?_
    refine rC 1 [2, 3, 4, 5, 6, 7, 8] [0] [] (scan_any C b s at_ e {} {} {}) ?_
    rintro _ _ ⟨x1, y1, z1, hf1, hf2, hf3, rfl, rfl⟩
    refine rQ [] [2, 3, 4, 5, 6, 7, 8] [] (True) [(0, p0 b), (3, u6 x1), (4, n6 y1), (5, n6 z1)] (trivial) ?_
    refine rF ?_
    refine cd_seq ?_
    refine cQ [] (True) [(0, p0 b), (3, u6 x1), (4, n6 y1), (5, n6 z1), (16, .bool ((z1 : Int) != 0))] (trivial) ?_
    refine cI ((z1 : Int) != 0) (fun h2 => ?_) (fun h2 => ?_)
    · have h2p : (z1 : Int) ≠ 0 := by simpa using h2
      refine cS [(4, .at 0)] ((b = b)) [] [bk b 227 #[str s, n6 at_, n6 z1]] (rfl) ?_
      refine cQ [] (True) [(2, .int .u64 0)] (trivial) ?_
      refine cd_ret (then_ret (bot_ret (rv [.int .u64 0] (.int .u64 0) ?_)))
      refine ⟨0, at_, z1, ?_, ?_, ?_, ?_, ?_, rfl⟩
      all_goals first | with_reducible rfl | (exact Rd.num_bad (by omega); done) | (exact Rd.num_err (by omega) (hf1 (by omega)).1 (by omega); done) | (have h9 := hf2 (by omega); rw [Rd.num_ok (by omega) h9.1, show at_ + (y1 - at_) = y1 by omega]; done) | (exact (hf2 (by omega)).2.2; done) | (exact (hf1 (by omega)).2; done) | with_reducible assumption | omega | rfl | (simp_all; done) | (simp_all; omega)
    · have h2p : ¬ ((z1 : Int) ≠ 0) := by simpa using h2
      refine cd_skip (then_n ?_)
      refine cS [(4, .at 0)] ((b = b)) [(3, u6 x1)] [bk b 227 #[str s, n6 y1, n6 e]] (rfl) ?_
      refine cQ [] (True) [(2, u6 x1)] (trivial) ?_
      refine cd_ret (bot_ret (rv [u6 x1] (u6 x1) ?_))
      refine ⟨x1, y1, e, ?_, ?_, ?_, ?_, ?_, rfl⟩
      all_goals first | with_reducible rfl | (exact Rd.num_bad (by omega); done) | (exact Rd.num_err (by omega) (hf1 (by omega)).1 (by omega); done) | (have h9 := hf2 (by omega); rw [Rd.num_ok (by omega) h9.1, show at_ + (y1 - at_) = y1 by omega]; done) | (exact (hf2 (by omega)).2.2; done) | (exact (hf1 (by omega)).2; done) | with_reducible assumption | omega | rfl | (simp_all; done) | (simp_all; omega)

set_option maxRecDepth 100000 in
theorem big_any (C : Ctx) (s : List UInt8) (h8 : Ok (s.length ≤ 8)) :
    FnT Tryz.prog C 146 #[str s] [] (fun rv_ rL_ => rv_ = u6 (big s) ∧ rL_ = []) := by
  replace h8 := h8.h
  refine fE 21 Tryz.func146 rfl ?_
  refine cQ [] (True) [(0, str s)] (trivial) ?_
  refine cQ [] (True) [(0, str s), (3, .int .u64 0)] (trivial) ?_
  refine cd_seq ?_
  refine cQ [] (True) [(0, str s), (3, .int .u64 0), (6, n6 s.length), (7, z6 0)] (trivial) ?_
  refine cd_block ?_
  refine lp (fun x : Nat × Nat => [(0, str s), (3, u6 x.1), (6, n6 s.length), (7, n6 x.2)]) (fun x : Nat × Nat => []) (fun x : Nat × Nat => BigInv s x.2 x.1) (fun x : Nat × Nat => s.length - x.2) ((0, 0)) (show BigInv s 0 0 from ⟨by omega, rfl, by omega⟩) ?_
  rintro ⟨n, i⟩ hI
  replace hI : BigInv s i n := hI
  refine cQ [] (True) [(0, str s), (3, u6 n), (6, n6 s.length), (7, n6 i), (8, .bool (decide ((i : Int) < (s.length : Int))))] (trivial) ?_
  refine cd_seq ?_
  refine cI (decide ((i : Int) < (s.length : Int))) (fun h1 => ?_) (fun h1 => ?_)
  · have h1p : (i : Int) < (s.length : Int) := by simpa using h1
    refine cd_skip (then_n ?_)
    refine cd_seq ?_
    refine cd_block ?_
    refine cQ [] (True) [(0, str s), (3, u6 n), (4, n6 i), (6, n6 s.length), (7, n6 i)] (trivial) ?_
    refine cd_region ?_
    refine rQ [(7, .nat), (8, .nat)] [0, 1, 2, 3, 4, 5, 6, 7, 8] [9] ((0 ≤ (i : Int) ∧ (i : Int) < (s.length : Int)) ∧ (inKind .u64 (((s.getD i 0).toNat : Nat) : Int)) ∧ (inKind .i64 (8 * (i : Int))) ∧ (0 ≤ (((s.getD i 0).toNat : Nat) : Int) ∧ 0 ≤ (8 * (i : Int)) ∧ (8 * (i : Int)) ≤ (IntKind.bits .u64 : Int) ∧ ((((s.getD i 0).toNat) * 2 ^ (8 * i) : Nat) : Int) ≤ IntKind.max .u64) ∧ (natK .u64 (n : Int) ∧ natK .u64 ((((s.getD i 0).toNat) * 2 ^ (8 * i) : Nat) : Int))) [(0, str s), (6, n6 s.length), (7, n6 i), (18, u6 (n ||| (((s.getD i 0).toNat) * 2 ^ (8 * i))))] (⟨⟨by omega, by omega⟩, inK_u64 (by have hu1 := UInt8.toNat_lt (s.getD i 0); omega), inK_i64 (by omega), ⟨Int.natCast_nonneg _, by have hu1 := UInt8.toNat_lt (s.getD i 0); omega, by simp only [IntKind.bits]; omega, by have := (hI.fits (by have hu1 := UInt8.toNat_lt (s.getD i 0); omega) h8).1; rw [show IntKind.max .u64 = 18446744073709551615 from rfl]; have hu0 := UInt8.toNat_lt (s.getD i 0); omega⟩, ⟨natK_u64 (by have := (hI.fits (by have hu1 := UInt8.toNat_lt (s.getD i 0); omega) h8).2; omega), natK_u64 (by have := (hI.fits (by have hu1 := UInt8.toNat_lt (s.getD i 0); omega) h8).1; omega)⟩⟩) ?_
    refine rP 18 (u6 (n ||| (((s.getD i 0).toNat) * 2 ^ (8 * i)))) (u6 (n + (s.getD i 0).toNat * 2 ^ (8 * i))) (congrArg (fun m : Nat => Value.int .u64 (m : Int)) (hI.or _)) ?_
    refine rQ [] [9] [] (True) [(0, str s), (3, u6 (n + (s.getD i 0).toNat * 2 ^ (8 * i))), (6, n6 s.length), (7, n6 i)] (trivial) ?_
    refine rg_nil ?_
    refine (block_n (then_n ?_))
    refine cQ0 [] ((inKind .i64 ((i : Int) + 1))) [(0, str s), (3, u6 (n + (s.getD i 0).toNat * 2 ^ (8 * i))), (6, n6 s.length), (7, n6 (i + 1))] (inK_i64 (by omega)) ?_
    refine (lM ((n + (s.getD i 0).toNat * 2 ^ (8 * i), i + 1)) (show BigInv s (i + 1) (n + (s.getD i 0).toNat * 2 ^ (8 * i)) from hI.next (by omega)) (show (s.length - (i + 1)) < (s.length - i) by first | omega | (simp; omega)))
  · have h1p : ¬ ((i : Int) < (s.length : Int)) := by simpa using h1
    refine cd_exit (then_exit (then_exit (block_hit (then_n ?_))))
    refine cQ [] (True) [(2, u6 n)] (trivial) ?_
    refine cd_ret (bot_ret (rv [u6 n] (u6 n) ?_))
    refine ⟨?_, rfl⟩
    all_goals first | with_reducible rfl | (rw [hI.done (by omega)]; done) | with_reducible assumption | omega | rfl | (simp_all; done) | (simp_all; omega)

set_option maxRecDepth 100000 in
theorem wide_any (C : Ctx) (b : Nat) (s : List UInt8) (at_ : Nat) (e : Nat) (ha : Ok (at_ ≤ s.length)) (hs : Ok (s.length ≤ 1099511627776)) (he : Ok (e ≤ 100)) :
    FnT Tryz.prog C 96 #[p0 b] [bk b 227 #[str s, n6 at_, n6 e]] (fun rv_ rL_ => ∃ x : Nat, ∃ t : List UInt8, ∃ a1 : Nat, ∃ e1 : Nat, (Rd.take ⟨s, at_, e⟩ 8 = (t, ⟨s, a1, e1⟩)) ∧ (a1 ≤ s.length) ∧ (e1 ≤ 100) ∧ (x = big t) ∧ (x < 18446744073709551616) ∧ rv_ = u6 x ∧ rL_ = [bk b 227 #[str s, n6 a1, n6 e1]]) := by
  replace ha := ha.h
  replace hs := hs.h
  replace he := he.h
  refine fE 6 Tryz.func96 rfl ?_
  refine cQ [] (True) [(0, p0 b)] (trivial) ?_
  refine cd_rg ?_
  refine rQ [] [0] [1, 2, 3] (True) [(3, p0 b)] (trivial) ?_
  refine rC 1 [2, 3] [0] [] (take_any C b s at_ e 8 ⟨by first | (have := take_len hf1 8 (by omega); omega; done) | exact Ok.h {}⟩ ⟨by first | (have := take_len hf1 8 (by omega); omega; done) | exact Ok.h {}⟩ ⟨by first | (have := take_len hf1 8 (by omega); omega; done) | exact Ok.h {}⟩ ⟨by first | (have := take_len hf1 8 (by omega); omega; done) | exact Ok.h {}⟩) ?_
  rintro _ _ ⟨t1, a1_1, e1_1, hf1, hf2, hf3, rfl, rfl⟩
  refine rC 2 [3] [] [bk b 227 #[str s, n6 a1_1, n6 e1_1]] (big_any C t1 ⟨by first | (have := take_len hf1 8 (by omega); omega; done) | exact Ok.h {}⟩) ?_
  rintro _ _ ⟨rfl, rfl⟩
  refine rQ [] [3] [] (True) [(2, u6 (big t1))] (trivial) ?_
  refine rF ?_
  refine cd_ret (bot_ret (rv [u6 (big t1)] (u6 (big t1)) ?_))
  refine ⟨big t1, t1, a1_1, e1_1, ?_, ?_, ?_, ?_, ?_, ?_, rfl⟩
  all_goals first | with_reducible rfl | (have := take_len hf1 8 (by omega); exact big8 this; done) | (have := take_len hf1 4 (by omega); exact big4 this; done) | with_reducible assumption | omega | rfl | (simp_all; done) | (simp_all; omega)

set_option maxRecDepth 100000 in
theorem fixed_any (C : Ctx) (b : Nat) (s : List UInt8) (at_ : Nat) (e : Nat) (ha : Ok (at_ ≤ s.length)) (hs : Ok (s.length ≤ 1099511627776)) (he : Ok (e ≤ 100)) :
    FnT Tryz.prog C 207 #[p0 b] [bk b 227 #[str s, n6 at_, n6 e]] (fun rv_ rL_ => ∃ x : Nat, ∃ t : List UInt8, ∃ a1 : Nat, ∃ e1 : Nat, (Rd.take ⟨s, at_, e⟩ 4 = (t, ⟨s, a1, e1⟩)) ∧ (a1 ≤ s.length) ∧ (e1 ≤ 100) ∧ (x = big t) ∧ (x < 4294967296) ∧ rv_ = u3 x ∧ rL_ = [bk b 227 #[str s, n6 a1, n6 e1]]) := by
  replace ha := ha.h
  replace hs := hs.h
  replace he := he.h
  refine fE 7 Tryz.func207 rfl ?_
  refine cQ [] (True) [(0, p0 b)] (trivial) ?_
  refine cd_rg ?_
  refine rQ [] [0] [1, 2, 3, 4] (True) [(3, p0 b)] (trivial) ?_
  refine rC 1 [2, 3, 4] [0] [] (take_any C b s at_ e 4 ⟨by first | (have := take_len hf1 8 (by omega); omega; done) | exact Ok.h {}⟩ ⟨by first | (have := take_len hf1 8 (by omega); omega; done) | exact Ok.h {}⟩ ⟨by first | (have := take_len hf1 8 (by omega); omega; done) | exact Ok.h {}⟩ ⟨by first | (have := take_len hf1 8 (by omega); omega; done) | exact Ok.h {}⟩) ?_
  rintro _ _ ⟨t1, a1_1, e1_1, hf1, hf2, hf3, rfl, rfl⟩
  refine rC 2 [3, 4] [] [bk b 227 #[str s, n6 a1_1, n6 e1_1]] (big_any C t1 ⟨by first | (have := take_len hf1 8 (by omega); omega; done) | exact Ok.h {}⟩) ?_
  rintro _ _ ⟨rfl, rfl⟩
  refine rQ [] [3, 4] [] ((inKind .u32 ((big t1 : Nat) : Int))) [(2, u3 (big t1))] (inK_u32 (by have := take_len hf1 4 (by omega); have := big4 this; omega)) ?_
  refine rF ?_
  refine cd_ret (bot_ret (rv [u3 (big t1)] (u3 (big t1)) ?_))
  refine ⟨big t1, t1, a1_1, e1_1, ?_, ?_, ?_, ?_, ?_, ?_, rfl⟩
  all_goals first | with_reducible rfl | (have := take_len hf1 8 (by omega); exact big8 this; done) | (have := take_len hf1 4 (by omega); exact big4 this; done) | with_reducible assumption | omega | rfl | (simp_all; done) | (simp_all; omega)

set_option maxRecDepth 100000 in
theorem text_any (C : Ctx) (b : Nat) (s : List UInt8) (at_ : Nat) (e : Nat) (most : Nat) (ha : Ok (at_ ≤ s.length)) (hs : Ok (s.length ≤ 1099511627776)) (he : Ok (e ≤ 100)) (hm : Ok (most ≤ 100000)) :
    FnT Tryz.prog C 150 #[p0 b, n6 most] [bk b 227 #[str s, n6 at_, n6 e]] (fun rv_ rL_ => ∃ t : List UInt8, ∃ a1 : Nat, ∃ e1 : Nat, (Rd.text ⟨s, at_, e⟩ most = (t, ⟨s, a1, e1⟩)) ∧ (a1 ≤ s.length) ∧ (e1 ≤ 100) ∧ (t.length ≤ most) ∧ rv_ = str t ∧ rL_ = [bk b 227 #[str s, n6 a1, n6 e1]]) := by
  replace ha := ha.h
  replace hs := hs.h
  replace he := he.h
  replace hm := hm.h
  refine fE 19 Tryz.func150 rfl ?_
  refine cQ [] (True) [(0, p0 b), (1, n6 most)] (trivial) ?_
  refine cd_rg ?_
  refine rQ [] [0] [1, 2] (True) [(0, p0 b), (1, n6 most), (6, p0 b)] (trivial) ?_
  refine rC 1 [2] [0] [] (num_any C b s at_ e {} {} {}) ?_
  rintro _ _ ⟨n1, a1_1, e1_1, hf1, hf2, hf3, hf4, rfl, rfl⟩
  refine rQ [] [2] [] (True) [(0, p0 b), (1, n6 most), (5, u6 n1)] (trivial) ?_
  refine rF ?_
  refine cd_seq ?_
  refine cd_rg ?_
  refine rQ [] [0, 1, 2] [3, 4] (True) [(0, p0 b), (5, u6 n1), (8, u6 n1), (10, z6 (if 0 > (most : Int) then 0 else (most : Int)))] (trivial) ?_
  refine rP 10 (z6 (if 0 > (most : Int) then 0 else (most : Int))) (n6 most) (by rw [if_neg (by omega)]) ?_
  refine rQ [] [3, 4] [] ((inKind .u64 (most : Int))) [(0, p0 b), (5, u6 n1), (12, .bool (decide ((n1 : Int) > (most : Int))))] (inK_u64 (by omega)) ?_
  refine rF ?_
  refine cI (decide ((n1 : Int) > (most : Int))) (fun h1 => ?_) (fun h1 => ?_)
  · have h1p : (n1 : Int) > (most : Int) := by simpa using h1
    refine cd_rg ?_
    refine rQ [] [0] [1] (True) [(13, p0 b)] (trivial) ?_
    refine rC 1 [] [0] [] (fail_any C b s a1_1 e1_1 5 {}) ?_
    rintro _ _ ⟨e1_2, hf5, hf6, rfl, rfl⟩
    refine rD [] ?_
    refine cQ [] (True) [(4, str [])] (trivial) ?_
    refine cd_ret (then_ret (bot_ret (rv [str []] (str []) ?_)))
    refine ⟨[], a1_1, e1_2, ?_, ?_, ?_, ?_, ?_, rfl⟩
    all_goals first | with_reducible rfl | (exact Rd.text_long hf1 (by omega) (by assumption); done) | (exact Rd.text_take hf1 (by omega) (by assumption); done) | (exact take_len (by assumption) most (by omega); done) | with_reducible assumption | omega | rfl | (simp_all; done) | (simp_all; omega)
  · have h1p : ¬ ((n1 : Int) > (most : Int)) := by simpa using h1
    refine cd_skip (then_n ?_)
    refine cd_rg ?_
    refine rQ [] [0, 1, 2] [3, 4] ((inKind .i64 (n1 : Int))) [(15, p0 b), (17, n6 n1)] (inK_i64 (by omega)) ?_
    refine rC 3 [4] [0] [] (take_any C b s a1_1 e1_1 (n1 : Int) {} {} {} {}) ?_
    rintro _ _ ⟨t1, a1_2, e1_3, hf7, hf8, hf9, rfl, rfl⟩
    refine rQ [] [4] [] (True) [(4, str t1)] (trivial) ?_
    refine rF ?_
    refine cd_ret (bot_ret (rv [str t1] (str t1) ?_))
    refine ⟨t1, a1_2, e1_3, ?_, ?_, ?_, ?_, ?_, rfl⟩
    all_goals first | with_reducible rfl | (exact Rd.text_long hf1 (by omega) (by assumption); done) | (exact Rd.text_take hf1 (by omega) (by assumption); done) | (exact take_len (by assumption) most (by omega); done) | with_reducible assumption | omega | rfl | (simp_all; done) | (simp_all; omega)

set_option maxRecDepth 100000 in
theorem err_any (C : Ctx) (b : Nat) (s : List UInt8) (at_ : Nat) (e : Nat) :
    FnT Tryz.prog C 99 #[p0 b] [bk b 227 #[str s, n6 at_, n6 e]] (fun rv_ rL_ => rv_ = n6 e ∧ rL_ = [bk b 227 #[str s, n6 at_, n6 e]]) := by
  refine fE 9 Tryz.func99 rfl ?_
  refine cQ [] (True) [(0, p0 b)] (trivial) ?_
  refine cd_seq ?_
  refine cQ [] (True) [(0, p0 b), (4, .bool false)] (trivial) ?_
  refine cNo ?_
  refine cd_skip (then_n ?_)
  refine cQ [(3, .at 0)] ((b = b)) [(2, n6 e)] (rfl) ?_
  refine cd_ret (bot_ret (rv [n6 e] (n6 e) ?_))
  refine ⟨?_, rfl⟩
  all_goals first | with_reducible rfl | (skip; done) | with_reducible assumption | omega | rfl | (simp_all; done) | (simp_all; omega)

set_option maxRecDepth 100000 in
theorem rest_any (C : Ctx) (b : Nat) (s : List UInt8) (at_ : Nat) (e : Nat) (ha : Ok (at_ ≤ s.length)) (hs : Ok (s.length ≤ 1099511627776)) (he : Ok (e ≤ 100)) :
    FnT Tryz.prog C 151 #[p0 b] [bk b 227 #[str s, n6 at_, n6 e]] (fun rv_ rL_ => rv_ = z6 ((s.length : Int) - at_) ∧ rL_ = [bk b 227 #[str s, n6 at_, n6 e]]) := by
  replace ha := ha.h
  replace hs := hs.h
  replace he := he.h
  refine fE 15 Tryz.func151 rfl ?_
  refine cQ [] (True) [(0, p0 b)] (trivial) ?_
  refine cd_seq ?_
  refine cQ [] (True) [(0, p0 b), (4, .bool false)] (trivial) ?_
  refine cNo ?_
  refine cd_skip (then_n ?_)
  refine dr [bk b 227 #[str s, n6 at_, n6 e]] [] [] 11 ?_
  refine aS [(3, .at 0), (8, .at 0)] [0, 5, 1, 6, 2, 7, 3, 8, 4, 9, 10] ((b = b) ∧ (b = b) ∧ (inKind .i64 ((s.length : Int) - (at_ : Int)))) [(2, z6 ((s.length : Int) - (at_ : Int)))] (bm 11 2047) 0 (⟨rfl, rfl, inK_i64 (by omega)⟩) ?_
  refine aE [(2, z6 ((s.length : Int) - (at_ : Int)))] [bk b 227 #[str s, n6 at_, n6 e]] ?_
  refine cd_ret (bot_ret (rv [z6 ((s.length : Int) - (at_ : Int))] (z6 ((s.length : Int) - (at_ : Int))) ?_))
  refine ⟨?_, rfl⟩
  all_goals first | with_reducible rfl | (skip; done) | with_reducible assumption | omega | rfl | (simp_all; done) | (simp_all; omega)

set_option maxRecDepth 100000 in
theorem end_any (C : Ctx) (b : Nat) (s : List UInt8) (at_ : Nat) (e : Nat) (ha : Ok (at_ ≤ s.length)) (hs : Ok (s.length ≤ 1099511627776)) (he : Ok (e ≤ 100)) :
    FnT Tryz.prog C 101 #[p0 b] [bk b 227 #[str s, n6 at_, n6 e]] (fun rv_ rL_ => ∃ x : Nat, (x = Rd.stop ⟨s, at_, e⟩) ∧ (x ≤ 100) ∧ rv_ = n6 x ∧ rL_ = [bk b 227 #[str s, n6 at_, n6 e]]) := by
  replace ha := ha.h
  replace hs := hs.h
  replace he := he.h
  refine fE 12 Tryz.func101 rfl ?_
  refine cQ [] (True) [(0, p0 b)] (trivial) ?_
  refine cd_seq ?_
  refine cd_rg ?_
  refine rQ [] [0] [1, 2] (True) [(0, p0 b), (4, p0 b)] (trivial) ?_
  refine rC 1 [2] [0] [] (err_any C b s at_ e) ?_
  rintro _ _ ⟨rfl, rfl⟩
  refine rQ [] [2] [] (True) [(0, p0 b), (3, n6 e)] (trivial) ?_
  refine rF ?_
  refine cQ [] (True) [(0, p0 b), (3, n6 e), (7, .bool ((e : Int) != 0))] (trivial) ?_
  refine cI ((e : Int) != 0) (fun h1 => ?_) (fun h1 => ?_)
  · have h1p : (e : Int) ≠ 0 := by simpa using h1
    refine cQ [] (True) [(2, n6 e)] (trivial) ?_
    refine cd_ret (then_ret (bot_ret (rv [n6 e] (n6 e) ?_)))
    refine ⟨e, ?_, ?_, ?_, rfl⟩
    all_goals first | with_reducible rfl | (simp only [Rd.stop]; rw [if_neg (by omega)]; done) | (simp only [Rd.stop]; rw [if_pos (by omega)]; done) | (simp only [Rd.stop]; rw [if_neg (by omega)]; omega; done) | with_reducible assumption | omega | rfl | (simp_all; done) | (simp_all; omega)
  · have h1p : ¬ ((e : Int) ≠ 0) := by simpa using h1
    refine cd_skip (then_n ?_)
    refine cd_seq ?_
    refine cd_rg ?_
    refine rQ [] [0] [1, 2] (True) [(9, p0 b)] (trivial) ?_
    refine rC 1 [2] [0] [] (rest_any C b s at_ e {} {} {}) ?_
    rintro _ _ ⟨rfl, rfl⟩
    refine rQ [] [2] [] (True) [(11, .bool (decide (((s.length : Int) - at_) > 0)))] (trivial) ?_
    refine rF ?_
    refine cI (decide (((s.length : Int) - at_) > 0)) (fun h2 => ?_) (fun h2 => ?_)
    · have h2p : ((s.length : Int) - at_) > 0 := by simpa using h2
      refine cQ [] (True) [(2, z6 4)] (trivial) ?_
      refine cd_ret (then_ret (bot_ret (rv [z6 4] (z6 4) ?_)))
      refine ⟨4, ?_, ?_, ?_, rfl⟩
      all_goals first | with_reducible rfl | (simp only [Rd.stop]; rw [if_neg (by omega)]; done) | (simp only [Rd.stop]; rw [if_pos (by omega)]; done) | (simp only [Rd.stop]; rw [if_neg (by omega)]; omega; done) | with_reducible assumption | omega | rfl | (simp_all; done) | (simp_all; omega)
    · have h2p : ¬ (((s.length : Int) - at_) > 0) := by simpa using h2
      refine cd_skip (then_n ?_)
      refine cQ [] (True) [(2, z6 0)] (trivial) ?_
      refine cd_ret (bot_ret (rv [z6 0] (z6 0) ?_))
      refine ⟨0, ?_, ?_, ?_, rfl⟩
      all_goals first | with_reducible rfl | (simp only [Rd.stop]; rw [if_neg (by omega)]; done) | (simp only [Rd.stop]; rw [if_pos (by omega)]; done) | (simp only [Rd.stop]; rw [if_neg (by omega)]; omega; done) | with_reducible assumption | omega | rfl | (simp_all; done) | (simp_all; omega)

end Go.Proofs
