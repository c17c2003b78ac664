/- Walks: sums, numbers. No condition. -/
import Derived.Test.YtooncojgfdcjeaaGreatDoorA1
import Derived.Test.YtooncojgfdcjeaaGreatDoorSp
import Derived.Test.YtooncojgfdcjeaaGreatDoorProg
namespace Go.Proofs
open Go Go.Sep
set_option maxRecDepth 100000 in
theorem byte_any (C : Ctx) (n0 : Nat) (h0 : Ok (n0 < 4294967296)) :
    FnT Tryz.prog C 216 #[u3 n0] [] (fun rv_ rL_ => rv_ = u3 (crcB n0) ∧ rL_ = []) := by
  replace h0 := h0.h
  refine fE 18 Tryz.func216 rfl ?_
  refine cQ [] (True) [(0, u3 n0)] (trivial) ?_
  refine cd_seq ?_
  refine cQ [] (True) [(0, u3 n0), (3, z6 0)] (trivial) ?_
  refine cd_block ?_
  refine lp (fun x : Nat × Nat => [(0, u3 x.1), (3, n6 x.2)]) (fun x : Nat × Nat => []) (fun x : Nat × Nat => ByteInv n0 x.1 x.2) (fun x : Nat × Nat => 8 - x.2) ((n0, 0)) (show ByteInv n0 n0 0 from ⟨by omega, h0, rfl⟩) ?_
  rintro ⟨n, i⟩ hI
  replace hI : ByteInv n0 n i := hI
  have hb := hI.2.1
  refine cd_seq ?_
  refine cQ [] (True) [(0, u3 n), (3, n6 i), (6, .bool (decide ((i : Int) < 8)))] (trivial) ?_
  refine cI (decide ((i : Int) < 8)) (fun h1 => ?_) (fun h1 => ?_)
  · have h1p : (i : Int) < 8 := by simpa using h1
    refine cd_skip (then_n ?_)
    refine cd_seq ?_
    refine cd_block ?_
    refine cQ [] ((0 ≤ (n : Int) ∧ (0 : Int) < (2 : Int))) [(0, u3 n), (3, n6 i), (4, u3 (n % 2))] (⟨by omega, by omega⟩) ?_
    refine cQ [] ((0 ≤ (n : Int) ∧ (0 : Int) < (2 : Int) ∧ (n : Int) ≤ IntKind.max .u32)) [(0, u3 (n / 2)), (3, n6 i), (4, u3 (n % 2))] (⟨by omega, by omega, by have := (show IntKind.max .u32 = 4294967295 from rfl); omega⟩) ?_
    refine cQ [] (True) [(0, u3 (n / 2)), (3, n6 i), (14, .bool (((n % 2 : Nat) : Int) == 1))] (trivial) ?_
    refine cI (((n % 2 : Nat) : Int) == 1) (fun h2 => ?_) (fun h2 => ?_)
    · have h2p : ((n % 2 : Nat) : Int) = 1 := by simpa using h2
      refine cQ0 [(1, .nat)] ((natK .u32 ((n / 2 : Nat) : Int) ∧ natK .u32 (2197175160 : Int))) [(0, u3 ((n / 2) ^^^ 2197175160)), (3, n6 i)] (⟨natK_u32 (by omega), natK_u32 (by omega)⟩) ?_
      refine (block_n (then_n ?_))
      refine cQ0 [] ((inKind .i64 ((i : Int) + 1))) [(0, u3 ((n / 2) ^^^ 2197175160)), (3, n6 (i + 1))] (inK_i64 (by omega)) ?_
      refine (lM (((n / 2) ^^^ 2197175160, i + 1)) (show ByteInv n0 ((n / 2) ^^^ 2197175160) (i + 1) by first | exact hI.odd (by omega) (by omega) | exact hI.even (by omega) (by omega)) (show (8 - (i + 1)) < (8 - i) by first | omega | (simp; omega)))
    · have h2p : ¬ (((n % 2 : Nat) : Int) = 1) := by simpa using h2
      refine cd_skip (block_n (then_n ?_))
      refine cQ0 [] ((inKind .i64 ((i : Int) + 1))) [(0, u3 (n / 2)), (3, n6 (i + 1))] (inK_i64 (by omega)) ?_
      refine (lM ((n / 2, i + 1)) (show ByteInv n0 (n / 2) (i + 1) by first | exact hI.odd (by omega) (by omega) | exact hI.even (by omega) (by omega)) (show (8 - (i + 1)) < (8 - i) by first | omega | (simp; omega)))
  · have h1p : ¬ ((i : Int) < 8) := by simpa using h1
    refine cd_exit (then_exit (then_exit (block_hit (then_n ?_))))
    refine cQ [] (True) [(2, u3 n)] (trivial) ?_
    refine cd_ret (bot_ret (rv [u3 n] (u3 n) ?_))
    refine ⟨?_, rfl⟩
    all_goals first | with_reducible rfl | (rw [hI.done (by omega)]; done) | with_reducible assumption | omega | rfl | (simp_all; done) | (simp_all; omega)

set_option maxRecDepth 100000 in
theorem refAdd_any (C : Ctx) (c0 : Nat) (s : List UInt8) (h0 : Ok (c0 < 4294967296)) (hs : Ok (s.length ≤ 9223372036854775806)) :
    FnT Tryz.prog C 165 #[u3 c0, str s] [] (fun rv_ rL_ => rv_ = u3 (4294967295 - crcAdd (4294967295 - c0) s) ∧ rL_ = []) := by
  replace h0 := h0.h
  replace hs := hs.h
  refine fE 27 Tryz.func165 rfl ?_
  refine cQ [] (True) [(0, u3 c0), (1, str s)] (trivial) ?_
  refine cQ [(1, .nat)] ((0 ≤ (c0 : Int) ∧ (c0 : Int) ≤ (4294967295 : Int) ∧ (4294967295 : Int) ≤ IntKind.max .u32)) [(0, u3 (4294967295 - c0)), (1, str s)] (⟨by omega, by omega, by have := (show IntKind.max .u32 = 4294967295 from rfl); omega⟩) ?_
  refine cd_seq ?_
  refine cQ [] (True) [(0, u3 (4294967295 - c0)), (1, str s), (5, z6 0)] (trivial) ?_
  refine cd_block ?_
  refine lp (fun x : Nat × Nat => [(0, u3 x.1), (1, str s), (5, n6 x.2)]) (fun x : Nat × Nat => []) (fun x : Nat × Nat => AddInv (4294967295 - c0) s x.1 x.2) (fun x : Nat × Nat => s.length - x.2) ((4294967295 - c0, 0)) (show AddInv (4294967295 - c0) s (4294967295 - c0) 0 from ⟨by omega, by omega, rfl⟩) ?_
  rintro ⟨c, i⟩ hI
  replace hI : AddInv (4294967295 - c0) s c i := hI
  have hb := hI.2.1
  have hx : (c % 256) ^^^ (s.getD i 0).toNat < 256 := xor8 (by omega) (UInt8.toNat_lt _)
  have hy := crcB_lt (n := (c % 256) ^^^ (s.getD i 0).toNat) (by omega)
  refine cd_seq ?_
  refine cQ [] (True) [(0, u3 c), (1, str s), (5, n6 i), (11, .bool (decide ((i : Int) < (s.length : Int))))] (trivial) ?_
  refine cI (decide ((i : Int) < (s.length : Int))) (fun h1 => ?_) (fun h1 => ?_)
  · have h1p : (i : Int) < (s.length : Int) := by simpa using h1
    refine cd_skip (then_n ?_)
    refine cd_seq ?_
    refine cd_block ?_
    refine cd_region ?_
    refine rQ [(6, .nat)] [0, 1, 2, 3, 4, 5, 6] [7, 8, 9, 10, 11] ((0 ≤ (c : Int) ∧ (0 : Int) < (256 : Int)) ∧ (0 ≤ (i : Int) ∧ (i : Int) < (s.length : Int)) ∧ (inKind .u32 (((s.getD i 0).toNat : Nat) : Int)) ∧ (natK .u32 ((c % 256 : Nat) : Int) ∧ natK .u32 (((s.getD i 0).toNat : Nat) : Int))) [(0, u3 c), (1, str s), (5, n6 i), (20, u3 ((c % 256) ^^^ ((s.getD i 0).toNat)))] (⟨⟨by omega, by omega⟩, ⟨by omega, by omega⟩, inK_u32 (by have hu1 := UInt8.toNat_lt (s.getD i 0); omega), ⟨natK_u32 (by have hu1 := UInt8.toNat_lt (s.getD i 0); omega), natK_u32 (by have hu1 := UInt8.toNat_lt (s.getD i 0); omega)⟩⟩) ?_
    refine rC 7 [8, 9, 10, 11] [] [] (byte_any C ((c % 256) ^^^ ((s.getD i 0).toNat)) {}) ?_
    rintro _ _ ⟨rfl, rfl⟩
    refine rQ [(10, .nat)] [8, 9, 10, 11] [] ((0 ≤ (c : Int) ∧ (0 : Int) < (256 : Int) ∧ (c : Int) ≤ IntKind.max .u32) ∧ (natK .u32 ((crcB ((c % 256) ^^^ ((s.getD i 0).toNat)) : Nat) : Int) ∧ natK .u32 ((c / 256 : Nat) : Int))) [(0, u3 ((crcB ((c % 256) ^^^ ((s.getD i 0).toNat))) ^^^ (c / 256))), (1, str s), (5, n6 i)] (⟨⟨by omega, by omega, by have := (show IntKind.max .u32 = 4294967295 from rfl); omega⟩, ⟨natK_u32 (by have hu1 := UInt8.toNat_lt (s.getD i 0); omega), natK_u32 (by have hu1 := UInt8.toNat_lt (s.getD i 0); omega)⟩⟩) ?_
    refine rg_nil ?_
    refine (block_n (then_n ?_))
    refine cQ0 [] ((inKind .i64 ((i : Int) + 1))) [(0, u3 ((crcB ((c % 256) ^^^ ((s.getD i 0).toNat))) ^^^ (c / 256))), (1, str s), (5, n6 (i + 1))] (inK_i64 (by omega)) ?_
    refine (lM (((crcB ((c % 256) ^^^ ((s.getD i 0).toNat))) ^^^ (c / 256), i + 1)) (show AddInv (4294967295 - c0) s ((crcB ((c % 256) ^^^ ((s.getD i 0).toNat))) ^^^ (c / 256)) (i + 1) from hI.next (by omega)) (show (s.length - (i + 1)) < (s.length - i) by first | omega | (simp; omega)))
  · have h1p : ¬ ((i : Int) < (s.length : Int)) := by simpa using h1
    refine cd_exit (then_exit (then_exit (block_hit (then_n ?_))))
    refine cQ [(1, .nat)] ((0 ≤ (c : Int) ∧ (c : Int) ≤ (4294967295 : Int) ∧ (4294967295 : Int) ≤ IntKind.max .u32)) [(4, u3 (4294967295 - c))] (⟨by omega, by omega, by have := (show IntKind.max .u32 = 4294967295 from rfl); omega⟩) ?_
    refine cd_ret (bot_ret (rv [u3 (4294967295 - c)] (u3 (4294967295 - c)) ?_))
    refine ⟨?_, rfl⟩
    all_goals first | with_reducible rfl | (rw [hI.done (by omega)]; done) | with_reducible assumption | omega | rfl | (simp_all; done) | (simp_all; omega)

set_option maxRecDepth 100000 in
theorem refOf_any (C : Ctx) (s : List UInt8) (hs : Ok (s.length ≤ 9223372036854775806)) :
    FnT Tryz.prog C 120 #[str s] [] (fun rv_ rL_ => rv_ = u3 (crcOf s) ∧ rL_ = []) := by
  replace hs := hs.h
  refine fE 5 Tryz.func120 rfl ?_
  refine cQ [] (True) [(0, str s)] (trivial) ?_
  refine cd_rg ?_
  refine rQ [] [0] [1, 2] (True) [(3, str s)] (trivial) ?_
  refine rC 1 [2] [] [] (refAdd_any C 0 s {} {}) ?_
  rintro _ _ ⟨rfl, rfl⟩
  refine rQ [] [2] [] (True) [(2, u3 (4294967295 - crcAdd (4294967295 - 0) s))] (trivial) ?_
  refine rF ?_
  refine cd_ret (bot_ret (rv [u3 (4294967295 - crcAdd (4294967295 - 0) s)] (u3 (4294967295 - crcAdd (4294967295 - 0) s)) ?_))
  refine ⟨?_, rfl⟩
  all_goals first | with_reducible rfl | (simp [crcOf]; done) | with_reducible assumption | omega | rfl | (simp_all; done) | (simp_all; omega)

set_option maxRecDepth 100000 in
theorem refMask_any (C : Ctx) (n : Nat) (h0 : Ok (n < 4294967296)) :
    FnT Tryz.prog C 119 #[u3 n] [] (fun rv_ rL_ => rv_ = u3 (crcMask n) ∧ rL_ = []) := by
  replace h0 := h0.h
  refine fE 14 Tryz.func119 rfl ?_
  refine cQ [] (True) [(0, u3 n)] (trivial) ?_
  refine cQ [] ((0 ≤ (n : Int) ∧ (0 : Int) < (32768 : Int) ∧ (n : Int) ≤ IntKind.max .u32) ∧ (inKind .u64 ((n / 32768 : Nat) : Int)) ∧ (0 ≤ (n : Int) ∧ (0 : Int) < (32768 : Int)) ∧ (inKind .u64 ((n % 32768 : Nat) : Int)) ∧ (inKind .u64 (((n % 32768 : Nat) : Int) * 131072)) ∧ (inKind .u64 (((n / 32768 : Nat) : Int) + (((n % 32768 : Nat) : Int) * 131072))) ∧ (inKind .u64 ((((n / 32768 : Nat) : Int) + (((n % 32768 : Nat) : Int) * 131072)) + 2726488792)) ∧ (0 ≤ ((((n / 32768 : Nat) : Int) + (((n % 32768 : Nat) : Int) * 131072)) + 2726488792) ∧ (0 : Int) < (4294967296 : Int)) ∧ (inKind .u32 (((((n / 32768) + ((n % 32768) * 131072)) + 2726488792) % 4294967296 : Nat) : Int))) [(2, u3 ((((n / 32768) + ((n % 32768) * 131072)) + 2726488792) % 4294967296))] (⟨⟨by omega, by omega, by have := (show IntKind.max .u32 = 4294967295 from rfl); omega⟩, inK_u64 (by omega), ⟨by omega, by omega⟩, inK_u64 (by omega), inK_u64 (by omega), inK_u64 (by omega), inK_u64 (by omega), ⟨by omega, by omega⟩, inK_u32 (by omega)⟩) ?_
  refine cd_ret (bot_ret (rv [u3 ((((n / 32768) + ((n % 32768) * 131072)) + 2726488792) % 4294967296)] (u3 ((((n / 32768) + ((n % 32768) * 131072)) + 2726488792) % 4294967296)) ?_))
  refine ⟨?_, rfl⟩
  all_goals first | with_reducible rfl | (simp [crcMask]; done) | with_reducible assumption | omega | rfl | (simp_all; done) | (simp_all; omega)

set_option maxRecDepth 100000 in
theorem table_any (C : Ctx)  :
    FnT Tryz.prog C 237 #[] [] (fun rv_ rL_ => rv_ = .agg (tbl 256) ∧ rL_ = []) := by
  refine fE 28 Tryz.func237 rfl ?_
  refine cd_rg ?_
  refine rQ [] [] [0] (True) [] (trivial) ?_
  refine rN 0 [] (.cells (Array.replicate 256 (.int .u32 0)) 307 (0, 0)) p0 (fun b1 => ?_)
  refine rD [(0, p0 b1)] ?_
  refine cd_rg ?_
  refine rQ [] [] [0] (True) [(0, p0 b1)] (trivial) ?_
  refine rN 0 [] (.cells (Array.replicate 256 (.int .u32 0)) 307 (0, 0)) p0 (fun b2 => ?_)
  refine rD [(0, p0 b1), (1, p0 b2)] ?_
  refine cd_seq ?_
  refine cQ [] (True) [(0, p0 b1), (1, p0 b2), (6, z6 0)] (trivial) ?_
  refine cd_block ?_
  refine cd_same (show ([bk b1 307 (Array.replicate 256 (.int .u32 0)), bk b2 307 (Array.replicate 256 (.int .u32 0))] : List Blks) = [bk b1 307 (Array.replicate 256 (.int .u32 0)), bk b2 307 (tbl 0)] by rw [tbl_zero]) ?_
  refine lp (fun x : Nat => [(0, p0 b1), (1, p0 b2), (6, n6 x)]) (fun x : Nat => [bk b1 307 (Array.replicate 256 (.int .u32 0)), bk b2 307 (tbl x)]) (fun x : Nat => x ≤ 256) (fun x : Nat => 256 - x) (0) (show 0 ≤ 256 from Nat.zero_le _) ?_
  rintro i hI
  replace hI : i ≤ 256 := hI
  have hand0 : i &&& 1 = i % 2 := Nat.and_one_is_mod i
  refine cQ [] (True) [(0, p0 b1), (1, p0 b2), (6, n6 i), (7, .bool (decide ((i : Int) < 256)))] (trivial) ?_
  refine cd_seq ?_
  refine cI (decide ((i : Int) < 256)) (fun h1 => ?_) (fun h1 => ?_)
  · have h1p : (i : Int) < 256 := by simpa using h1
    refine cd_skip (then_n ?_)
    refine cd_seq ?_
    refine cd_block ?_
    refine cQ [] (True) [(0, p0 b1), (1, p0 b2), (2, n6 i), (6, n6 i)] (trivial) ?_
    refine cd_scope 0 (fun x : Nat × Nat => [(0, p0 b1), (1, p0 b2), (2, n6 i), (3, u3 x.1), (4, n6 x.2), (6, n6 i)]) (fun x : Nat × Nat => [bk b1 307 (Array.replicate 256 (.int .u32 0)), bk b2 307 (tbl i)]) (fun x : Nat × Nat => ByteInv i x.1 x.2 ∧ x.2 < 8) (fun x : Nat × Nat => 8 - x.2) rfl ?_ ?_
    · -- ahead of the label
      refine cQ [] ((inKind .u32 (i : Int))) [(0, p0 b1), (1, p0 b2), (2, n6 i), (3, u3 i), (4, z6 0), (6, n6 i)] (inK_u32 (by omega)) ?_
      refine cd_seq ?_
      refine cd_label (then_n ?_)
      refine cQ [(1, .nat)] ((natK .u32 (i : Int) ∧ natK .u32 (1 : Int))) [(0, p0 b1), (1, p0 b2), (2, n6 i), (3, u3 i), (4, z6 0), (5, .bool (((i &&& 1 : Nat) : Int) == 1)), (6, n6 i)] (⟨natK_u32 (by omega), natK_u32 (by omega)⟩) ?_
      refine cQ [(1, .nat)] ((0 ≤ (i : Int) ∧ 0 ≤ (1 : Int) ∧ (1 : Int) ≤ (IntKind.bits .u32 : Int))) [(0, p0 b1), (1, p0 b2), (2, n6 i), (3, u3 (i / 2 ^ 1)), (4, z6 0), (5, .bool (((i &&& 1 : Nat) : Int) == 1)), (6, n6 i)] (⟨by omega, by omega, by simp only [IntKind.bits]; omega⟩) ?_
      refine cd_seq ?_
      refine cQ [] (True) [(0, p0 b1), (1, p0 b2), (2, n6 i), (3, u3 (i / 2 ^ 1)), (4, z6 0), (6, n6 i), (16, .bool (((i &&& 1 : Nat) : Int) == 1))] (trivial) ?_
      refine cI (((i &&& 1 : Nat) : Int) == 1) (fun h2 => ?_) (fun h2 => ?_)
      · have h2p : ((i &&& 1 : Nat) : Int) = 1 := by simpa using h2
        refine cQ0 [(1, .nat)] ((natK .u32 ((i / 2 ^ 1 : Nat) : Int) ∧ natK .u32 (2197175160 : Int))) [(0, p0 b1), (1, p0 b2), (2, n6 i), (3, u3 ((i / 2 ^ 1) ^^^ 2197175160)), (4, z6 0), (6, n6 i)] (⟨natK_u32 (by omega), natK_u32 (by omega)⟩) ?_
        refine (then_n ?_)
        refine cd_seq ?_
        refine cQ [] ((inKind .i64 ((0 : Int) + (1 : Int)))) [(0, p0 b1), (1, p0 b2), (2, n6 i), (3, u3 ((i / 2 ^ 1) ^^^ 2197175160)), (4, z6 1), (6, n6 i)] (inK_i64 (by omega)) ?_
        refine cQ [] (True) [(0, p0 b1), (1, p0 b2), (2, n6 i), (3, u3 ((i / 2 ^ 1) ^^^ 2197175160)), (4, z6 1), (6, n6 i), (22, .bool true)] (trivial) ?_
        refine cYes ?_
        refine cd_goto (then_goto (jump_hit (sF (((i / 2 ^ 1) ^^^ 2197175160, 1)) (show ByteInv i ((i / 2 ^ 1) ^^^ 2197175160) 1 ∧ 1 < 8 from ⟨by first | exact (show ByteInv i i 0 from ⟨by omega, by omega, rfl⟩).odd (by omega) (by omega) | exact (show ByteInv i i 0 from ⟨by omega, by omega, rfl⟩).even (by omega) (by omega), by omega⟩))))
      · have h2p : ¬ (((i &&& 1 : Nat) : Int) = 1) := by simpa using h2
        refine cd_skip (then_n ?_)
        refine cd_seq ?_
        refine cQ [] ((inKind .i64 ((0 : Int) + (1 : Int)))) [(0, p0 b1), (1, p0 b2), (2, n6 i), (3, u3 (i / 2 ^ 1)), (4, z6 1), (6, n6 i)] (inK_i64 (by omega)) ?_
        refine cQ [] (True) [(0, p0 b1), (1, p0 b2), (2, n6 i), (3, u3 (i / 2 ^ 1)), (4, z6 1), (6, n6 i), (22, .bool true)] (trivial) ?_
        refine cYes ?_
        refine cd_goto (then_goto (jump_hit (sF ((i / 2 ^ 1, 1)) (show ByteInv i (i / 2 ^ 1) 1 ∧ 1 < 8 from ⟨by first | exact (show ByteInv i i 0 from ⟨by omega, by omega, rfl⟩).odd (by omega) (by omega) | exact (show ByteInv i i 0 from ⟨by omega, by omega, rfl⟩).even (by omega) (by omega), by omega⟩))))
    · rintro ⟨n, k⟩ hI
      replace hI : ByteInv i n k ∧ k < 8 := hI
      have hb := hI.1.2.1
      have hand : n &&& 1 = n % 2 := Nat.and_one_is_mod n
      refine cd_seq ?_
      refine cd_skip (then_n ?_)
      refine cQ [(1, .nat)] ((natK .u32 (n : Int) ∧ natK .u32 (1 : Int))) [(0, p0 b1), (1, p0 b2), (2, n6 i), (3, u3 n), (4, n6 k), (5, .bool (((n &&& 1 : Nat) : Int) == 1)), (6, n6 i)] (⟨natK_u32 (by omega), natK_u32 (by omega)⟩) ?_
      refine cQ [(1, .nat)] ((0 ≤ (n : Int) ∧ 0 ≤ (1 : Int) ∧ (1 : Int) ≤ (IntKind.bits .u32 : Int))) [(0, p0 b1), (1, p0 b2), (2, n6 i), (3, u3 (n / 2 ^ 1)), (4, n6 k), (5, .bool (((n &&& 1 : Nat) : Int) == 1)), (6, n6 i)] (⟨by omega, by omega, by simp only [IntKind.bits]; omega⟩) ?_
      refine cd_seq ?_
      refine cQ [] (True) [(0, p0 b1), (1, p0 b2), (2, n6 i), (3, u3 (n / 2 ^ 1)), (4, n6 k), (6, n6 i), (16, .bool (((n &&& 1 : Nat) : Int) == 1))] (trivial) ?_
      refine cI (((n &&& 1 : Nat) : Int) == 1) (fun h3 => ?_) (fun h3 => ?_)
      · have h3p : ((n &&& 1 : Nat) : Int) = 1 := by simpa using h3
        refine cQ0 [(1, .nat)] ((natK .u32 ((n / 2 ^ 1 : Nat) : Int) ∧ natK .u32 (2197175160 : Int))) [(0, p0 b1), (1, p0 b2), (2, n6 i), (3, u3 ((n / 2 ^ 1) ^^^ 2197175160)), (4, n6 k), (6, n6 i)] (⟨natK_u32 (by omega), natK_u32 (by omega)⟩) ?_
        refine (then_n ?_)
        refine cd_seq ?_
        refine cQ [] ((inKind .i64 ((k : Int) + 1))) [(0, p0 b1), (1, p0 b2), (2, n6 i), (3, u3 ((n / 2 ^ 1) ^^^ 2197175160)), (4, n6 (k + 1)), (6, n6 i)] (inK_i64 (by omega)) ?_
        refine cQ [] (True) [(0, p0 b1), (1, p0 b2), (2, n6 i), (3, u3 ((n / 2 ^ 1) ^^^ 2197175160)), (4, n6 (k + 1)), (6, n6 i), (22, .bool (decide (((k : Int) + 1) < 8)))] (trivial) ?_
        refine cI (decide (((k : Int) + 1) < 8)) (fun h4 => ?_) (fun h4 => ?_)
        · have h4p : ((k : Int) + 1) < 8 := by simpa using h4
          refine cd_goto (then_goto (jump_hit (sM (((n / 2 ^ 1) ^^^ 2197175160, k + 1)) (show ByteInv i ((n / 2 ^ 1) ^^^ 2197175160) (k + 1) ∧ (k + 1) < 8 from ⟨by first | exact hI.1.odd (by omega) (by omega) | exact hI.1.even (by omega) (by omega), by omega⟩) (show (8 - (k + 1)) < (8 - k) by first | omega | (simp; omega)))))
        · have h4p : ¬ (((k : Int) + 1) < 8) := by simpa using h4
          refine cd_skip (then_n ?_)
          refine cd_region ?_
          refine rS [(3, .cell 1 undef)] [0, 1, 2, 3] [] ((0 ≤ (i : Int) ∧ (i : Int) < (256 : Int)) ∧ (b2 = b2 ∧ (0 + i * 1) + 1 ≤ (tbl i).size ∧ 0 ≤ (0 + i * 1))) [(0, p0 b1), (1, p0 b2), (6, n6 i)] [bk b1 307 (Array.replicate 256 (.int .u32 0)), bk b2 307 (setCells (tbl i) (0 + i * 1) [u3 ((n / 2 ^ 1) ^^^ 2197175160)])] (⟨⟨by omega, by omega⟩, ⟨rfl, by rw [tbl_size]; omega, by omega⟩⟩) ?_
          refine rg_same (show ([bk b1 307 (Array.replicate 256 (.int .u32 0)), bk b2 307 (setCells (tbl i) (0 + i * 1) [u3 ((n / 2 ^ 1) ^^^ 2197175160)])] : List Blks) = [bk b1 307 (Array.replicate 256 (.int .u32 0)), bk b2 307 (tbl (i + 1))] by first | rw [(hI.1.odd (by omega) (by omega)).done (by omega), tbl_set (by omega)] | rw [(hI.1.even (by omega) (by omega)).done (by omega), tbl_set (by omega)]) ?_
          refine rg_nil ?_
          refine (jump_n (block_n (then_n ?_)))
          refine cQ0 [] ((inKind .i64 ((i : Int) + 1))) [(0, p0 b1), (1, p0 b2), (6, n6 (i + 1))] (inK_i64 (by omega)) ?_
          refine (lM (i + 1) (show (i + 1) ≤ 256 by omega) (show (256 - (i + 1)) < (256 - i) by first | omega | (simp; omega)))
      · have h3p : ¬ (((n &&& 1 : Nat) : Int) = 1) := by simpa using h3
        refine cd_skip (then_n ?_)
        refine cd_seq ?_
        refine cQ [] ((inKind .i64 ((k : Int) + 1))) [(0, p0 b1), (1, p0 b2), (2, n6 i), (3, u3 (n / 2 ^ 1)), (4, n6 (k + 1)), (6, n6 i)] (inK_i64 (by omega)) ?_
        refine cQ [] (True) [(0, p0 b1), (1, p0 b2), (2, n6 i), (3, u3 (n / 2 ^ 1)), (4, n6 (k + 1)), (6, n6 i), (22, .bool (decide (((k : Int) + 1) < 8)))] (trivial) ?_
        refine cI (decide (((k : Int) + 1) < 8)) (fun h5 => ?_) (fun h5 => ?_)
        · have h5p : ((k : Int) + 1) < 8 := by simpa using h5
          refine cd_goto (then_goto (jump_hit (sM ((n / 2 ^ 1, k + 1)) (show ByteInv i (n / 2 ^ 1) (k + 1) ∧ (k + 1) < 8 from ⟨by first | exact hI.1.odd (by omega) (by omega) | exact hI.1.even (by omega) (by omega), by omega⟩) (show (8 - (k + 1)) < (8 - k) by first | omega | (simp; omega)))))
        · have h5p : ¬ (((k : Int) + 1) < 8) := by simpa using h5
          refine cd_skip (then_n ?_)
          refine cd_region ?_
          refine rS [(3, .cell 1 undef)] [0, 1, 2, 3] [] ((0 ≤ (i : Int) ∧ (i : Int) < (256 : Int)) ∧ (b2 = b2 ∧ (0 + i * 1) + 1 ≤ (tbl i).size ∧ 0 ≤ (0 + i * 1))) [(0, p0 b1), (1, p0 b2), (6, n6 i)] [bk b1 307 (Array.replicate 256 (.int .u32 0)), bk b2 307 (setCells (tbl i) (0 + i * 1) [u3 (n / 2 ^ 1)])] (⟨⟨by omega, by omega⟩, ⟨rfl, by rw [tbl_size]; omega, by omega⟩⟩) ?_
          refine rg_same (show ([bk b1 307 (Array.replicate 256 (.int .u32 0)), bk b2 307 (setCells (tbl i) (0 + i * 1) [u3 (n / 2 ^ 1)])] : List Blks) = [bk b1 307 (Array.replicate 256 (.int .u32 0)), bk b2 307 (tbl (i + 1))] by first | rw [(hI.1.odd (by omega) (by omega)).done (by omega), tbl_set (by omega)] | rw [(hI.1.even (by omega) (by omega)).done (by omega), tbl_set (by omega)]) ?_
          refine rg_nil ?_
          refine (jump_n (block_n (then_n ?_)))
          refine cQ0 [] ((inKind .i64 ((i : Int) + 1))) [(0, p0 b1), (1, p0 b2), (6, n6 (i + 1))] (inK_i64 (by omega)) ?_
          refine (lM (i + 1) (show (i + 1) ≤ 256 by omega) (show (256 - (i + 1)) < (256 - i) by first | omega | (simp; omega)))
  · have h1p : ¬ ((i : Int) < 256) := by simpa using h1
    refine cd_exit (then_exit (then_exit (block_hit (then_n ?_))))
    obtain rfl : i = 256 := by omega
    refine cS [(0, .cell 1 (.agg (tbl 256))), (1, .at 0)] ((b2 = b2 ∧ 0 + 256 ≤ (tbl 256).size ∧ Value.agg ((tbl 256).extract 0 (0 + 256)) = .agg (tbl 256)) ∧ (b1 = b1)) [(0, p0 b1)] [bk b1 307 (setCells (Array.replicate 256 (.int .u32 0)) 0 (tbl 256).toList), bk b2 307 (tbl 256)] (⟨⟨rfl, by rw [tbl_size]; omega, by rw [Array.extract_eq_self_of_le (by rw [tbl_size]; omega)]⟩, rfl⟩) ?_
    refine cd_ret (bot_ret (ret_cell 0 307 0 b1 (setCells (Array.replicate 256 (.int .u32 0)) 0 (tbl 256).toList) 307 (0, 0) [] [] [bk b1 307 (setCells (Array.replicate 256 (.int .u32 0)) 0 (tbl 256).toList), bk b2 307 (tbl 256)] rfl (by kernel_rfl) (by kernel_rfl) (by kernel_rfl) (by kernel_rfl) (by rw [setCells_size]; kernel_rfl) (by kernel_rfl) ?_))
    refine ⟨?_, rfl⟩
    all_goals first | (rw [tbl_store]; done)| with_reducible rfl | (rw [tbl_store]; done) | with_reducible assumption | omega | rfl | (simp_all; done) | (simp_all; omega)

set_option maxRecDepth 100000 in
theorem add_any (C : Ctx) (c0 : Nat) (s : List UInt8) (h0 : Ok (c0 < 4294967296)) (hs : Ok (s.length ≤ 9223372036854775806)) :
    FnT Tryz.prog C 199 #[u3 c0, str s] [] (fun rv_ rL_ => rv_ = u3 (4294967295 - crcAdd (4294967295 - c0) s) ∧ rL_ = []) := by
  replace h0 := h0.h
  replace hs := hs.h
  refine fE 29 Tryz.func199 rfl ?_
  refine cQ [] (True) [(0, u3 c0), (1, str s)] (trivial) ?_
  refine cd_rg ?_
  refine rQ [] [] [0, 1, 2] (True) [(0, u3 c0), (1, str s)] (trivial) ?_
  refine rC 0 [1, 2] [] [] (table_any C) ?_
  rintro _ _ ⟨rfl, rfl⟩
  refine rN 1 [2] (.cells (Array.replicate 256 (.int .u32 0)) 307 (0, 0)) p0 (fun b1 => ?_)
  refine rS [(2, .at 0)] [2] [] ((b1 = b1)) [(0, u3 c0), (1, str s), (5, p0 b1)] [bk b1 307 (setCells (Array.replicate 256 (.int .u32 0)) 0 (tbl 256).toList)] (rfl) ?_
  refine rg_same (show ([bk b1 307 (setCells (Array.replicate 256 (.int .u32 0)) 0 (tbl 256).toList)] : List Blks) = [bk b1 307 (tbl 256)] by rw [tbl_store]) ?_
  refine rF ?_
  refine cQ [(1, .nat)] ((natK .u32 (c0 : Int) ∧ IntKind.signed .u32 = false)) [(0, u3 (4294967295 - c0)), (1, str s), (5, p0 b1)] (⟨natK_u32 (by omega), rfl⟩) ?_
  refine cd_seq ?_
  refine cQ [] (True) [(0, u3 (4294967295 - c0)), (1, str s), (5, p0 b1), (11, n6 s.length), (12, z6 0)] (trivial) ?_
  refine cd_block ?_
  refine lp (fun x : Nat × Nat => [(0, u3 x.1), (1, str s), (5, p0 b1), (11, n6 s.length), (12, n6 x.2)]) (fun x : Nat × Nat => [bk b1 307 (tbl 256)]) (fun x : Nat × Nat => AddInv (4294967295 - c0) s x.1 x.2) (fun x : Nat × Nat => s.length - x.2) ((4294967295 - c0, 0)) (show AddInv (4294967295 - c0) s (4294967295 - c0) 0 from ⟨by omega, by omega, rfl⟩) ?_
  rintro ⟨c, i⟩ hI
  replace hI : AddInv (4294967295 - c0) s c i := hI
  have hb := hI.2.1
  have hx : (c % 2 ^ 8) ^^^ (s.getD i 0).toNat < 256 := xor8 (by omega) (UInt8.toNat_lt _)
  have hy := crcB_lt (n := (c % 2 ^ 8) ^^^ (s.getD i 0).toNat) (by omega)
  refine cQ [] (True) [(0, u3 c), (1, str s), (5, p0 b1), (11, n6 s.length), (12, n6 i), (13, .bool (decide ((i : Int) < (s.length : Int))))] (trivial) ?_
  refine cd_seq ?_
  refine cI (decide ((i : Int) < (s.length : Int))) (fun h1 => ?_) (fun h1 => ?_)
  · have h1p : (i : Int) < (s.length : Int) := by simpa using h1
    refine cd_skip (then_n ?_)
    refine cd_seq ?_
    refine cd_block ?_
    refine cQ [] (True) [(0, u3 c), (1, str s), (5, p0 b1), (6, n6 i), (11, n6 s.length), (12, n6 i)] (trivial) ?_
    refine cQ0 [(1, .nat), (5, .nat), (7, .cell 0 (u3 (crcB (c % 2 ^ 8 ^^^ (s.getD i 0).toNat)))), (9, .nat), (10, .nat)] ((0 ≤ (c : Int) ∧ IntKind.signed .u8 = false) ∧ (0 ≤ (i : Int) ∧ (i : Int) < (s.length : Int)) ∧ (natK .u8 ((c % 2 ^ 8 : Nat) : Int) ∧ natK .u8 (((s.getD i 0).toNat : Nat) : Int)) ∧ (0 ≤ (((c % 2 ^ 8) ^^^ ((s.getD i 0).toNat) : Nat) : Int) ∧ (((c % 2 ^ 8) ^^^ ((s.getD i 0).toNat) : Nat) : Int) < (256 : Int)) ∧ (b1 = b1 ∧ (tbl 256)[0 + ((c % 2 ^ 8) ^^^ ((s.getD i 0).toNat)) * 1]? = some (u3 (crcB (c % 2 ^ 8 ^^^ (s.getD i 0).toNat)))) ∧ (0 ≤ (c : Int) ∧ 0 ≤ (8 : Int) ∧ (8 : Int) ≤ (IntKind.bits .u32 : Int)) ∧ (natK .u32 ((crcB (c % 2 ^ 8 ^^^ (s.getD i 0).toNat) : Nat) : Int) ∧ natK .u32 ((c / 2 ^ 8 : Nat) : Int))) [(0, u3 ((crcB (c % 2 ^ 8 ^^^ (s.getD i 0).toNat)) ^^^ (c / 2 ^ 8))), (1, str s), (5, p0 b1), (11, n6 s.length), (12, n6 i)] (⟨⟨Int.natCast_nonneg _, rfl⟩, ⟨by omega, by omega⟩, ⟨natK_u8 (by have hu1 := UInt8.toNat_lt (s.getD i 0); omega), natK_u8 (by have hu1 := UInt8.toNat_lt (s.getD i 0); omega)⟩, ⟨by have hu1 := UInt8.toNat_lt (s.getD i 0); omega, by have hu1 := UInt8.toNat_lt (s.getD i 0); omega⟩, ⟨rfl, by rw [show ∀ k, 0 + k * 1 = k from fun k => by have hu1 := UInt8.toNat_lt (s.getD i 0); omega]; exact tbl_get hx hx⟩, ⟨by omega, by omega, by simp only [IntKind.bits]; omega⟩, ⟨natK_u32 (by have hu1 := UInt8.toNat_lt (s.getD i 0); omega), natK_u32 (by have hu1 := UInt8.toNat_lt (s.getD i 0); omega)⟩⟩) ?_
    refine (block_n (then_n ?_))
    refine cQ0 [] ((inKind .i64 ((i : Int) + 1))) [(0, u3 ((crcB (c % 2 ^ 8 ^^^ (s.getD i 0).toNat)) ^^^ (c / 2 ^ 8))), (1, str s), (5, p0 b1), (11, n6 s.length), (12, n6 (i + 1))] (inK_i64 (by omega)) ?_
    refine (lM (((crcB (c % 2 ^ 8 ^^^ (s.getD i 0).toNat)) ^^^ (c / 2 ^ 8), i + 1)) (show AddInv (4294967295 - c0) s ((crcB (c % 2 ^ 8 ^^^ (s.getD i 0).toNat)) ^^^ (c / 2 ^ 8)) (i + 1) from hI.next2 (by omega)) (show (s.length - (i + 1)) < (s.length - i) by first | omega | (simp; omega)))
  · have h1p : ¬ ((i : Int) < (s.length : Int)) := by simpa using h1
    refine cd_exit (then_exit (then_exit (block_hit (then_n ?_))))
    refine cQ [(1, .nat)] ((natK .u32 (c : Int) ∧ IntKind.signed .u32 = false)) [(4, u3 (4294967295 - c))] (⟨natK_u32 (by omega), rfl⟩) ?_
    refine cT [] [] ?_
    refine cd_ret (bot_ret (rv [u3 (4294967295 - c)] (u3 (4294967295 - c)) ?_))
    refine ⟨?_, rfl⟩
    all_goals first | with_reducible rfl | (rw [hI.done (by omega)]; done) | with_reducible assumption | omega | rfl | (simp_all; done) | (simp_all; omega)

set_option maxRecDepth 100000 in
theorem of_any (C : Ctx) (s : List UInt8) (hs : Ok (s.length ≤ 9223372036854775806)) :
    FnT Tryz.prog C 140 #[str s] [] (fun rv_ rL_ => rv_ = u3 (crcOf s) ∧ rL_ = []) := by
  replace hs := hs.h
  refine fE 5 Tryz.func140 rfl ?_
  refine cQ [] (True) [(0, str s)] (trivial) ?_
  refine cd_rg ?_
  refine rQ [] [0] [1, 2] (True) [(3, str s)] (trivial) ?_
  refine rC 1 [2] [] [] (add_any C 0 s {} {}) ?_
  rintro _ _ ⟨rfl, rfl⟩
  refine rQ [] [2] [] (True) [(2, u3 (4294967295 - crcAdd (4294967295 - 0) s))] (trivial) ?_
  refine rF ?_
  refine cd_ret (bot_ret (rv [u3 (4294967295 - crcAdd (4294967295 - 0) s)] (u3 (4294967295 - crcAdd (4294967295 - 0) s)) ?_))
  refine ⟨?_, rfl⟩
  all_goals first | with_reducible rfl | (simp [crcOf]; done) | with_reducible assumption | omega | rfl | (simp_all; done) | (simp_all; omega)

set_option maxRecDepth 100000 in
theorem mask_any (C : Ctx) (n : Nat) (h0 : Ok (n < 4294967296)) :
    FnT Tryz.prog C 139 #[u3 n] [] (fun rv_ rL_ => rv_ = u3 (crcMask n) ∧ rL_ = []) := by
  replace h0 := h0.h
  refine fE 9 Tryz.func139 rfl ?_
  refine cQ [] (True) [(0, u3 n)] (trivial) ?_
  refine cd_rg ?_
  refine rQ [(1, .nat), (3, .wrap)] [0, 1, 2, 3] [4, 5, 6] ((0 ≤ (n : Int) ∧ 0 ≤ (15 : Int) ∧ (15 : Int) ≤ (IntKind.bits .u32 : Int))) [(4, u3 (n / 2 ^ 15)), (6, .int .u32 (IntKind.wrap .u32 ((n : Int) * 2 ^ 17)))] (⟨by omega, by omega, by simp only [IntKind.bits]; omega⟩) ?_
  refine rP 6 (.int .u32 (IntKind.wrap .u32 ((n : Int) * 2 ^ 17))) (u3 (n % 32768 * 131072)) (by congr 1; simp [IntKind.wrap, IntKind.bits, IntKind.signed]; omega) ?_
  refine rQ [(4, .nat)] [4] [5, 6] ((natK .u32 ((n / 2 ^ 15 : Nat) : Int) ∧ natK .u32 ((n % 32768 * 131072 : Nat) : Int))) [(7, u3 ((n / 2 ^ 15) ||| (n % 32768 * 131072)))] (⟨natK_u32 (by omega), natK_u32 (by omega)⟩) ?_
  refine rP 7 (u3 ((n / 2 ^ 15) ||| (n % 32768 * 131072))) (u3 (n / 32768 + n % 32768 * 131072)) (by rw [mask_or h0]) ?_
  refine rQ [(5, .nat)] [5, 6] [] ((0 ≤ ((n / 32768 + n % 32768 * 131072 : Nat) : Int) ∧ 0 ≤ (2726488792 : Int) ∧ IntKind.signed .u32 = false)) [(2, u3 (((n / 32768 + n % 32768 * 131072) + 2726488792) % 2 ^ 32))] (⟨Int.natCast_nonneg _, by omega, rfl⟩) ?_
  refine rF ?_
  refine cd_ret (bot_ret (rv [u3 (((n / 32768 + n % 32768 * 131072) + 2726488792) % 2 ^ 32)] (u3 (((n / 32768 + n % 32768 * 131072) + 2726488792) % 2 ^ 32)) ?_))
  refine ⟨?_, rfl⟩
  all_goals first | with_reducible rfl | (rfl; done) | with_reducible assumption | omega | rfl | (simp_all; done) | (simp_all; omega)

set_option maxRecDepth 100000 in
theorem refLittle_any (C : Ctx) (n0 : Nat) (k : Nat) (h0 : Ok (n0 < 18446744073709551616)) (hk : Ok (k ≤ 8)) :
    FnT Tryz.prog C 118 #[u6 n0, n6 k] [] (fun rv_ rL_ => rv_ = str (little k n0) ∧ rL_ = []) := by
  replace h0 := h0.h
  replace hk := hk.h
  refine fE 22 Tryz.func118 rfl ?_
  refine cQ [] (True) [(0, u6 n0), (1, n6 k)] (trivial) ?_
  refine cQ [] (True) [(0, u6 n0), (1, n6 k), (5, str [])] (trivial) ?_
  refine cd_seq ?_
  refine cQ [] (True) [(0, u6 n0), (1, n6 k), (5, str []), (6, z6 0)] (trivial) ?_
  refine cd_block ?_
  refine lp (fun x : Nat × Nat × (List UInt8) => [(0, u6 x.1), (1, n6 k), (5, str x.2.2), (6, n6 x.2.1)]) (fun x : Nat × Nat × (List UInt8) => []) (fun x : Nat × Nat × (List UInt8) => x.2.1 ≤ k ∧ x.1 < 18446744073709551616 ∧ (x.2.2).length = x.2.1 ∧ x.2.2 ++ little (k - x.2.1) x.1 = little k n0) (fun x : Nat × Nat × (List UInt8) => k - x.2.1) ((n0, 0, [])) (show 0 ≤ k ∧ n0 < 18446744073709551616 ∧ ([]).length = 0 ∧ [] ++ little (k - 0) n0 = little k n0 from ⟨by omega, h0, rfl, rfl⟩) ?_
  rintro ⟨n, i, t⟩ hI
  replace hI : i ≤ k ∧ n < 18446744073709551616 ∧ (t).length = i ∧ t ++ little (k - i) n = little k n0 := hI
  obtain ⟨hi, hn, hl, hI⟩ := hI
  refine cd_seq ?_
  refine cQ [] (True) [(0, u6 n), (1, n6 k), (5, str t), (6, n6 i), (9, .bool (decide ((i : Int) < (k : Int))))] (trivial) ?_
  refine cI (decide ((i : Int) < (k : Int))) (fun h1 => ?_) (fun h1 => ?_)
  · have h1p : (i : Int) < (k : Int) := by simpa using h1
    refine cd_skip (then_n ?_)
    refine cd_seq ?_
    refine cd_block ?_
    refine cd_rg ?_
    refine rQ [] [0, 1, 2, 3] [4, 5, 6, 7] ((0 ≤ (n : Int) ∧ (0 : Int) < (256 : Int)) ∧ (inKind .u8 ((n % 256 : Nat) : Int))) [(0, u6 n), (1, n6 k), (6, n6 i), (12, str t), (15, u1 (n % 256))] (⟨⟨by omega, by omega⟩, inK_u8 (by omega)⟩) ?_
    refine rN 4 [5, 6, 7] (.cells #[u1 (n % 256)] 5 (0, 0)) (fun b1 => sl b1 1 1) (fun b1 => ?_)
    refine rX 5 [6, 7] (do pure (.value (← convert 189 9 (sl b1 1 1)))) [0] [bk b1 5 #[u1 (n % 256)]] [] (gv_conv (by kernel_rfl) (gv_bytes [((n % 256 : Nat) : Int)] rfl rfl)) ?_
    rintro _ _ ⟨rfl, rfl⟩
    refine rQ [] [6, 7] [] ((t.length + [UInt8.ofNat (n % 256)].length ≤ 9223372036854775807)) [(0, u6 n), (1, n6 k), (5, str (t ++ [UInt8.ofNat (n % 256)])), (6, n6 i)] (by simp; omega) ?_
    refine rF ?_
    refine cQ0 [] ((0 ≤ (n : Int) ∧ (0 : Int) < (256 : Int) ∧ (n : Int) ≤ IntKind.max .u64)) [(0, u6 (n / 256)), (1, n6 k), (5, str (t ++ [UInt8.ofNat (n % 256)])), (6, n6 i)] (⟨by omega, by omega, by have := (show IntKind.max .u64 = 18446744073709551615 from rfl); omega⟩) ?_
    refine (block_n (then_n ?_))
    refine cd_region ?_
    refine rQ [] [0, 1, 2] [] ((inKind .i64 ((i : Int) + 1))) [(0, u6 (n / 256)), (1, n6 k), (5, str (t ++ [UInt8.ofNat (n % 256)])), (6, n6 (i + 1))] (inK_i64 (by omega)) ?_
    refine rT [] [] ?_
    refine rg_nil ?_
    refine (lM ((n / 256, i + 1, t ++ [UInt8.ofNat (n % 256)])) (show i + 1 ≤ k ∧ n / 256 < 18446744073709551616 ∧ (t ++ [UInt8.ofNat (n % 256)]).length = i + 1 ∧ t ++ [UInt8.ofNat (n % 256)] ++ little (k - (i + 1)) (n / 256) = little k n0 from ⟨by omega, by omega, by simp; omega, by rw [show k - i = (k - (i + 1)) + 1 by omega] at hI; simpa [little] using hI⟩) (show (k - (i + 1)) < (k - i) by first | omega | (simp; omega)))
  · have h1p : ¬ ((i : Int) < (k : Int)) := by simpa using h1
    refine cd_exit (then_exit (then_exit (block_hit (then_n ?_))))
    refine cQ [] (True) [(4, str t)] (trivial) ?_
    refine cd_ret (bot_ret (rv [str t] (str t) ?_))
    refine ⟨?_, rfl⟩
    all_goals first | with_reducible rfl | (rw [show k - i = 0 by omega] at hI; simp only [little, List.append_nil] at hI; rw [hI]; done) | with_reducible assumption | omega | rfl | (simp_all; done) | (simp_all; omega)

set_option maxRecDepth 100000 in
theorem refSum_any (C : Ctx) (x : UInt8) (s : List UInt8) (hs : Ok (s.length ≤ 1099511627776)) :
    FnT Tryz.prog C 64 #[u1 x.toNat, str s] [] (fun rv_ rL_ => rv_ = str (little 4 (crcMask (crcOf ([x] ++ s)))) ∧ rL_ = []) := by
  replace hs := hs.h
  have hx := UInt8.toNat_lt x
  have hm := crcMask_lt (crcOf ([x] ++ s))
  have ho := crcOf_lt ([x] ++ s)
  refine fE 14 Tryz.func64 rfl ?_
  refine cQ [] (True) [(0, u1 x.toNat), (1, str s)] (trivial) ?_
  refine cd_rg ?_
  refine rQ [] [0] [1, 2, 3, 4, 5, 6, 7, 8, 9] (True) [(1, str s), (5, u1 x.toNat)] (trivial) ?_
  refine rN 1 [2, 3, 4, 5, 6, 7, 8, 9] (.cells #[u1 x.toNat] 5 (0, 0)) (fun b1 => sl b1 1 1) (fun b1 => ?_)
  refine rX 2 [3, 4, 5, 6, 7, 8, 9] (do pure (.value (← convert 189 9 (sl b1 1 1)))) [0] [bk b1 5 #[u1 x.toNat]] [] (gv_conv (by kernel_rfl) (gv_bytes8 [x] rfl rfl)) ?_
  rintro _ _ ⟨rfl, rfl⟩
  refine rQ [] [3, 4] [5, 6, 7, 8, 9] (([x].length + s.length ≤ 9223372036854775807)) [(9, str ([x] ++ s))] (by first | omega | (simp only [List.length_append, List.length_cons, List.length_nil]; omega) | (simp; omega)) ?_
  refine rC 5 [6, 7, 8, 9] [] [bk b1 5 #[u1 x.toNat]] (refOf_any C ([x] ++ s) {}) ?_
  rintro _ _ ⟨rfl, rfl⟩
  refine rC 6 [7, 8, 9] [] [bk b1 5 #[u1 x.toNat]] (refMask_any C (crcOf ([x] ++ s)) {}) ?_
  rintro _ _ ⟨rfl, rfl⟩
  refine rQ [] [7] [8, 9] ((inKind .u64 ((crcMask (crcOf ([x] ++ s)) : Nat) : Int))) [(12, u6 (crcMask (crcOf ([x] ++ s))))] (inK_u64 (by omega)) ?_
  refine rC 8 [9] [] [bk b1 5 #[u1 x.toNat]] (refLittle_any C (crcMask (crcOf ([x] ++ s))) 4 {} {}) ?_
  rintro _ _ ⟨rfl, rfl⟩
  refine rQ [] [9] [] (True) [(4, str (little 4 (crcMask (crcOf ([x] ++ s)))))] (trivial) ?_
  refine rF ?_
  refine cT [] [] ?_
  refine cd_ret (bot_ret (rv [str (little 4 (crcMask (crcOf ([x] ++ s))))] (str (little 4 (crcMask (crcOf ([x] ++ s))))) ?_))
  refine ⟨?_, rfl⟩
  all_goals first | with_reducible rfl | (skip; done) | with_reducible assumption | omega | rfl | (simp_all; done) | (simp_all; omega)

set_option maxRecDepth 100000 in
theorem little4_any (C : Ctx) (n : Nat) (h0 : Ok (n < 18446744073709551616)) :
    FnT Tryz.prog C 156 #[u6 n, z6 4] [] (fun rv_ rL_ => rv_ = str (little 4 n) ∧ rL_ = []) := by
  replace h0 := h0.h
  refine fE 25 Tryz.func156 rfl ?_
  refine cQ [] (True) [(0, u6 n), (1, z6 4)] (trivial) ?_
  refine cd_rg ?_
  refine rQ [] [0] [1, 2] (True) [(0, u6 n), (7, z6 4)] (trivial) ?_
  refine rN 1 [2] (.cells #[.int .u8 0, .int .u8 0, .int .u8 0, .int .u8 0] 5 (0, 0)) (fun b1 => sl b1 4 4) (fun b1 => ?_)
  refine rQ [] [2] [] (True) [(0, u6 n), (5, sl b1 4 4)] (trivial) ?_
  refine rF ?_
  refine cd_seq ?_
  refine cQ [] (True) [(0, u6 n), (5, sl b1 4 4), (10, z6 4), (11, z6 0)] (trivial) ?_
  refine cd_block ?_
  refine cd_same (show ([bk b1 5 #[.int .u8 0, .int .u8 0, .int .u8 0, .int .u8 0]] : List Blks) = [bk b1 5 (lits 4 0 n)] from rfl) ?_
  refine lp (fun x : Nat => [(0, u6 n), (5, sl b1 4 4), (10, z6 4), (11, n6 x)]) (fun x : Nat => [bk b1 5 (lits 4 x n)]) (fun x : Nat => x ≤ 4) (fun x : Nat => 4 - x) (0) (show 0 ≤ 4 from Nat.zero_le _) ?_
  rintro i hI
  replace hI : i ≤ 4 := hI
  refine cQ [] (True) [(0, u6 n), (5, sl b1 4 4), (10, z6 4), (11, n6 i), (12, .bool (decide ((i : Int) < 4)))] (trivial) ?_
  refine cd_seq ?_
  refine cI (decide ((i : Int) < 4)) (fun h1 => ?_) (fun h1 => ?_)
  · have h1p : (i : Int) < 4 := by simpa using h1
    refine cd_skip (then_n ?_)
    refine cd_seq ?_
    refine cd_block ?_
    refine cQ [] (True) [(0, u6 n), (5, sl b1 4 4), (6, n6 i), (10, z6 4), (11, n6 i)] (trivial) ?_
    refine cd_region ?_
    refine rS [(5, .nat), (6, .nat), (8, .cell 0 undef)] [0, 1, 2, 3, 4, 5, 6, 7, 8] [] ((inKind .i64 (8 * (i : Int))) ∧ (0 ≤ (n : Int) ∧ 0 ≤ (8 * (i : Int)) ∧ (8 * (i : Int)) ≤ (IntKind.bits .u64 : Int)) ∧ (0 ≤ ((n / 2 ^ (8 * i) : Nat) : Int) ∧ IntKind.signed .u8 = false) ∧ (0 ≤ (i : Int) ∧ (i : Int) < (4 : Int)) ∧ (b1 = b1 ∧ (0 + i * 1) + 1 ≤ (lits 4 i n).size ∧ 0 ≤ (0 + i * 1))) [(0, u6 n), (5, sl b1 4 4), (10, z6 4), (11, n6 i)] [bk b1 5 (setCells (lits 4 i n) (0 + i * 1) [u1 ((n / 2 ^ (8 * i)) % 2 ^ 8)])] (⟨inK_i64 (by omega), ⟨by omega, by omega, by simp only [IntKind.bits]; omega⟩, ⟨Int.natCast_nonneg _, rfl⟩, ⟨by omega, by omega⟩, ⟨rfl, by rw [lits_size (by omega)]; omega, by omega⟩⟩) ?_
    refine rg_same (show ([bk b1 5 (setCells (lits 4 i n) (0 + i * 1) [u1 ((n / 2 ^ (8 * i)) % 2 ^ 8)])] : List Blks) = [bk b1 5 (lits 4 (i + 1) n)] by rw [← lits_set (by omega)]) ?_
    refine rg_nil ?_
    refine (block_n (then_n ?_))
    refine cQ0 [] ((inKind .i64 ((i : Int) + 1))) [(0, u6 n), (5, sl b1 4 4), (10, z6 4), (11, n6 (i + 1))] (inK_i64 (by omega)) ?_
    refine (lM (i + 1) (show (i + 1) ≤ 4 by omega) (show (4 - (i + 1)) < (4 - i) by first | omega | (simp; omega)))
  · have h1p : ¬ ((i : Int) < 4) := by simpa using h1
    refine cd_exit (then_exit (then_exit (block_hit (then_n ?_))))
    obtain rfl : i = 4 := by omega
    refine cd_rg ?_
    refine rQ [] [0] [1, 2] (True) [(23, sl b1 4 4)] (trivial) ?_
    refine rX 1 [2] (do pure (.value (← convert 189 9 (sl b1 4 4)))) [0] [bk b1 5 (lits 4 4 n)] [] (gv_conv (by kernel_rfl) (gv_bytes8 (little 4 n) (by simp [lits]) (by simp [little_len]))) ?_
    rintro _ _ ⟨rfl, rfl⟩
    refine rQ [] [2] [] (True) [(4, str (little 4 n))] (trivial) ?_
    refine rF ?_
    refine cT [] [] ?_
    refine cd_ret (bot_ret (rv [str (little 4 n)] (str (little 4 n)) ?_))
    refine ⟨?_, rfl⟩
    all_goals first | with_reducible rfl | (skip; done) | with_reducible assumption | omega | rfl | (simp_all; done) | (simp_all; omega)

set_option maxRecDepth 100000 in
theorem little8_any (C : Ctx) (n : Nat) (h0 : Ok (n < 18446744073709551616)) :
    FnT Tryz.prog C 156 #[u6 n, z6 8] [] (fun rv_ rL_ => rv_ = str (little 8 n) ∧ rL_ = []) := by
  replace h0 := h0.h
  refine fE 25 Tryz.func156 rfl ?_
  refine cQ [] (True) [(0, u6 n), (1, z6 8)] (trivial) ?_
  refine cd_rg ?_
  refine rQ [] [0] [1, 2] (True) [(0, u6 n), (7, z6 8)] (trivial) ?_
  refine rN 1 [2] (.cells #[.int .u8 0, .int .u8 0, .int .u8 0, .int .u8 0, .int .u8 0, .int .u8 0, .int .u8 0, .int .u8 0] 5 (0, 0)) (fun b1 => sl b1 8 8) (fun b1 => ?_)
  refine rQ [] [2] [] (True) [(0, u6 n), (5, sl b1 8 8)] (trivial) ?_
  refine rF ?_
  refine cd_seq ?_
  refine cQ [] (True) [(0, u6 n), (5, sl b1 8 8), (10, z6 8), (11, z6 0)] (trivial) ?_
  refine cd_block ?_
  refine cd_same (show ([bk b1 5 #[.int .u8 0, .int .u8 0, .int .u8 0, .int .u8 0, .int .u8 0, .int .u8 0, .int .u8 0, .int .u8 0]] : List Blks) = [bk b1 5 (lits 8 0 n)] from rfl) ?_
  refine lp (fun x : Nat => [(0, u6 n), (5, sl b1 8 8), (10, z6 8), (11, n6 x)]) (fun x : Nat => [bk b1 5 (lits 8 x n)]) (fun x : Nat => x ≤ 8) (fun x : Nat => 8 - x) (0) (show 0 ≤ 8 from Nat.zero_le _) ?_
  rintro i hI
  replace hI : i ≤ 8 := hI
  refine cQ [] (True) [(0, u6 n), (5, sl b1 8 8), (10, z6 8), (11, n6 i), (12, .bool (decide ((i : Int) < 8)))] (trivial) ?_
  refine cd_seq ?_
  refine cI (decide ((i : Int) < 8)) (fun h1 => ?_) (fun h1 => ?_)
  · have h1p : (i : Int) < 8 := by simpa using h1
    refine cd_skip (then_n ?_)
    refine cd_seq ?_
    refine cd_block ?_
    refine cQ [] (True) [(0, u6 n), (5, sl b1 8 8), (6, n6 i), (10, z6 8), (11, n6 i)] (trivial) ?_
    refine cd_region ?_
    refine rS [(5, .nat), (6, .nat), (8, .cell 0 undef)] [0, 1, 2, 3, 4, 5, 6, 7, 8] [] ((inKind .i64 (8 * (i : Int))) ∧ (0 ≤ (n : Int) ∧ 0 ≤ (8 * (i : Int)) ∧ (8 * (i : Int)) ≤ (IntKind.bits .u64 : Int)) ∧ (0 ≤ ((n / 2 ^ (8 * i) : Nat) : Int) ∧ IntKind.signed .u8 = false) ∧ (0 ≤ (i : Int) ∧ (i : Int) < (8 : Int)) ∧ (b1 = b1 ∧ (0 + i * 1) + 1 ≤ (lits 8 i n).size ∧ 0 ≤ (0 + i * 1))) [(0, u6 n), (5, sl b1 8 8), (10, z6 8), (11, n6 i)] [bk b1 5 (setCells (lits 8 i n) (0 + i * 1) [u1 ((n / 2 ^ (8 * i)) % 2 ^ 8)])] (⟨inK_i64 (by omega), ⟨by omega, by omega, by simp only [IntKind.bits]; omega⟩, ⟨Int.natCast_nonneg _, rfl⟩, ⟨by omega, by omega⟩, ⟨rfl, by rw [lits_size (by omega)]; omega, by omega⟩⟩) ?_
    refine rg_same (show ([bk b1 5 (setCells (lits 8 i n) (0 + i * 1) [u1 ((n / 2 ^ (8 * i)) % 2 ^ 8)])] : List Blks) = [bk b1 5 (lits 8 (i + 1) n)] by rw [← lits_set (by omega)]) ?_
    refine rg_nil ?_
    refine (block_n (then_n ?_))
    refine cQ0 [] ((inKind .i64 ((i : Int) + 1))) [(0, u6 n), (5, sl b1 8 8), (10, z6 8), (11, n6 (i + 1))] (inK_i64 (by omega)) ?_
    refine (lM (i + 1) (show (i + 1) ≤ 8 by omega) (show (8 - (i + 1)) < (8 - i) by first | omega | (simp; omega)))
  · have h1p : ¬ ((i : Int) < 8) := by simpa using h1
    refine cd_exit (then_exit (then_exit (block_hit (then_n ?_))))
    obtain rfl : i = 8 := by omega
    refine cd_rg ?_
    refine rQ [] [0] [1, 2] (True) [(23, sl b1 8 8)] (trivial) ?_
    refine rX 1 [2] (do pure (.value (← convert 189 9 (sl b1 8 8)))) [0] [bk b1 5 (lits 8 8 n)] [] (gv_conv (by kernel_rfl) (gv_bytes8 (little 8 n) (by simp [lits]) (by simp [little_len]))) ?_
    rintro _ _ ⟨rfl, rfl⟩
    refine rQ [] [2] [] (True) [(4, str (little 8 n))] (trivial) ?_
    refine rF ?_
    refine cT [] [] ?_
    refine cd_ret (bot_ret (rv [str (little 8 n)] (str (little 8 n)) ?_))
    refine ⟨?_, rfl⟩
    all_goals first | with_reducible rfl | (skip; done) | with_reducible assumption | omega | rfl | (simp_all; done) | (simp_all; omega)
end Go.Proofs
