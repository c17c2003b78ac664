/- Walks: logs. No condition. -/
import Derived.Test.YtooncojgfdcjeaaGreatDoorSp3
import Derived.Test.YtooncojgfdcjeaaGreatDoorI1
import Derived.Test.YtooncojgfdcjeaaGreatDoorProg
namespace Go.Proofs
open Go Go.Sep
set_option maxRecDepth 100000 in
theorem num_any2 (C : Ctx) (n0 : Nat) (h0 : Ok (n0 < 18446744073709551616)) :
    FnT Tryz.prog C 107 #[u6 n0] [] (fun rv_ rL_ => rv_ = str (numB n0) ∧ rL_ = []) := by
  replace h0 := h0.h
  have hI : NumInv n0 n0 [] := NumInv.start h0
  have hor : n0 % 2 ^ 8 ||| 128 < 256 := Nat.or_lt_two_pow (n := 8) (by omega) (by omega)
  refine fE 20 Tryz.func107 rfl ?_
  refine cQ [] (True) [(0, u6 n0)] (trivial) ?_
  refine cd_scope 0 (fun x : Nat × (List UInt8) × (Option Addr) × Nat × Blks => [(0, u6 x.1), (3, .slice x.2.2.1 x.2.1.length x.2.2.2.1)]) (fun x : Nat × (List UInt8) × (Option Addr) × Nat × Blks => [x.2.2.2.2]) (fun x : Nat × (List UInt8) × (Option Addr) × Nat × Blks => NumInv n0 x.1 x.2.1 ∧ Row 5 1 x.2.2.1 x.2.1.length x.2.2.2.1 (u8s x.2.1) x.2.2.2.2) (fun x : Nat × (List UInt8) × (Option Addr) × Nat × Blks => x.1) rfl ?_ ?_
  · -- ahead of the label
    refine cQ [] (True) [(0, u6 n0), (3, .slice none 0 0)] (trivial) ?_
    refine cd_seq ?_
    refine cd_label (then_n ?_)
    refine cd_seq ?_
    refine cQ [] (True) [(0, u6 n0), (3, .slice none 0 0), (5, .bool (decide ((n0 : Int) ≥ 128)))] (trivial) ?_
    refine cI (decide ((n0 : Int) ≥ 128)) (fun h1 => ?_) (fun h1 => ?_)
    · have h1p : (n0 : Int) ≥ 128 := by simpa using h1
      refine cd_rg ?_
      refine rQ [(2, .nat), (3, .nat)] [0, 1, 2, 3] [4, 5, 6] ((0 ≤ (n0 : Int) ∧ IntKind.signed .u8 = false) ∧ (natK .u8 ((n0 % 2 ^ 8 : Nat) : Int) ∧ natK .u8 (128 : Int))) [(0, u6 n0), (6, .slice none 0 0), (9, u1 ((n0 % 2 ^ 8) ||| 128))] (⟨⟨Int.natCast_nonneg _, rfl⟩, ⟨natK_u8 (by omega), natK_u8 (by omega)⟩⟩) ?_
      refine rN 4 [5, 6] (.cells #[u1 ((n0 % 2 ^ 8) ||| 128)] 5 (0, 0)) (fun b1 => sl b1 1 1) (fun b1 => ?_)
      refine rg_more ?_
      refine rX 5 [6] (do pure (.value (← Builtin.append_ #[189, 189] 189 #[.slice none 0 0, sl b1 1 1]))) [1, 0] [[], bk b1 5 #[u1 ((n0 % 2 ^ 8) ||| 128)]] [] (gv_u8push (l := []) (x := (n0 % 2 ^ 8) ||| 128) 189 (by kernel_rfl) (Row.nil 5 1) (by omega) (by first | omega | simp)) ?_
      rintro _ _ ⟨a1, cap1, L1, rfl, rfl, h2⟩
      refine rQ [] [6] [] (True) [(0, u6 n0), (3, .slice a1 (([] ++ [UInt8.ofNat ((n0 % 2 ^ 8) ||| 128)]).length) cap1)] (trivial) ?_
      refine rF ?_
      refine cQ [(1, .nat)] ((0 ≤ (n0 : Int) ∧ 0 ≤ (7 : Int) ∧ (7 : Int) ≤ (IntKind.bits .u64 : Int))) [(0, u6 (n0 / 2 ^ 7)), (3, .slice a1 (([] ++ [UInt8.ofNat ((n0 % 2 ^ 8) ||| 128)]).length) cap1)] (⟨by omega, by omega, by simp only [IntKind.bits]; omega⟩) ?_
      refine cd_goto (then_goto (jump_hit (sF ((n0 / 2 ^ 7, [] ++ [UInt8.ofNat ((n0 % 2 ^ 8) ||| 128)], a1, cap1, L1)) (show NumInv n0 (n0 / 2 ^ 7) ([] ++ [UInt8.ofNat ((n0 % 2 ^ 8) ||| 128)]) ∧ Row 5 1 a1 ([] ++ [UInt8.ofNat ((n0 % 2 ^ 8) ||| 128)]).length cap1 (u8s ([] ++ [UInt8.ofNat ((n0 % 2 ^ 8) ||| 128)])) L1 from ⟨hI.next (by omega), h2⟩))))
    · have h1p : ¬ ((n0 : Int) ≥ 128) := by simpa using h1
      refine cd_skip (then_n ?_)
      refine cd_rg ?_
      refine rQ [(2, .nat)] [0, 1, 2] [3, 4, 5, 6] ((0 ≤ (n0 : Int) ∧ IntKind.signed .u8 = false)) [(14, .slice none 0 0), (16, u1 (n0 % 2 ^ 8))] (⟨Int.natCast_nonneg _, rfl⟩) ?_
      refine rN 3 [4, 5, 6] (.cells #[u1 (n0 % 2 ^ 8)] 5 (0, 0)) (fun b2 => sl b2 1 1) (fun b2 => ?_)
      refine rg_more ?_
      refine rX 4 [5, 6] (do pure (.value (← Builtin.append_ #[189, 189] 189 #[.slice none 0 0, sl b2 1 1]))) [1, 0] [[], bk b2 5 #[u1 (n0 % 2 ^ 8)]] [] (gv_u8push (l := []) (x := n0 % 2 ^ 8) 189 (by kernel_rfl) (Row.nil 5 1) (by omega) (by first | omega | simp)) ?_
      rintro _ _ ⟨a2, cap2, L2, rfl, rfl, h3⟩
      refine rX 5 [6] (do pure (.value (← convert 189 9 (.slice a2 (([] ++ [UInt8.ofNat (n0 % 2 ^ 8)]).length) cap2)))) [0] [L2] [] (gv_conv (by kernel_rfl) (gv_rowbytes ([] ++ [UInt8.ofNat (n0 % 2 ^ 8)]) h3)) ?_
      rintro _ _ ⟨rfl, rfl⟩
      refine rQ [] [6] [] (True) [(2, str ([] ++ [UInt8.ofNat (n0 % 2 ^ 8)]))] (trivial) ?_
      refine rF ?_
      refine cT [] [] ?_
      refine cd_ret (jump_ret (bot_ret (rv [str ([] ++ [UInt8.ofNat (n0 % 2 ^ 8)])] (str ([] ++ [UInt8.ofNat (n0 % 2 ^ 8)])) ?_)))
      refine ⟨?_, rfl⟩
      all_goals first | with_reducible rfl | (rw [hI.done (by omega)]; done) | with_reducible assumption | omega | rfl | (simp_all; done) | (simp_all; omega)
  · rintro ⟨n, o, a, cap, Lr⟩ hI
    replace hI : NumInv n0 n o ∧ Row 5 1 a o.length cap (u8s o) Lr := hI
    obtain ⟨hI, hR⟩ := hI
    have hn := hI.1
    have hol := hI.2.1
    have hor : n % 2 ^ 8 ||| 128 < 256 := Nat.or_lt_two_pow (n := 8) (by omega) (by omega)
    refine cd_seq ?_
    refine cd_skip (then_n ?_)
    refine cd_seq ?_
    refine cQ [] (True) [(0, u6 n), (3, .slice a o.length cap), (5, .bool (decide ((n : Int) ≥ 128)))] (trivial) ?_
    refine cI (decide ((n : Int) ≥ 128)) (fun h4 => ?_) (fun h4 => ?_)
    · have h4p : (n : Int) ≥ 128 := by simpa using h4
      refine cd_rg ?_
      refine rQ [(2, .nat), (3, .nat)] [0, 1, 2, 3] [4, 5, 6] ((0 ≤ (n : Int) ∧ IntKind.signed .u8 = false) ∧ (natK .u8 ((n % 2 ^ 8 : Nat) : Int) ∧ natK .u8 (128 : Int))) [(0, u6 n), (6, .slice a o.length cap), (9, u1 ((n % 2 ^ 8) ||| 128))] (⟨⟨Int.natCast_nonneg _, rfl⟩, ⟨natK_u8 (by omega), natK_u8 (by omega)⟩⟩) ?_
      refine rN 4 [5, 6] (.cells #[u1 ((n % 2 ^ 8) ||| 128)] 5 (0, 0)) (fun b3 => sl b3 1 1) (fun b3 => ?_)
      refine rX 5 [6] (do pure (.value (← Builtin.append_ #[189, 189] 189 #[.slice a o.length cap, sl b3 1 1]))) [0, 0] [Lr, bk b3 5 #[u1 ((n % 2 ^ 8) ||| 128)]] [] (gv_u8push (l := o) (x := (n % 2 ^ 8) ||| 128) 189 (by kernel_rfl) hR (by omega) (by first | omega | simp)) ?_
      rintro _ _ ⟨a3, cap3, L3, rfl, rfl, h5⟩
      refine rQ [] [6] [] (True) [(0, u6 n), (3, .slice a3 ((o ++ [UInt8.ofNat ((n % 2 ^ 8) ||| 128)]).length) cap3)] (trivial) ?_
      refine rF ?_
      refine cQ [(1, .nat)] ((0 ≤ (n : Int) ∧ 0 ≤ (7 : Int) ∧ (7 : Int) ≤ (IntKind.bits .u64 : Int))) [(0, u6 (n / 2 ^ 7)), (3, .slice a3 ((o ++ [UInt8.ofNat ((n % 2 ^ 8) ||| 128)]).length) cap3)] (⟨by omega, by omega, by simp only [IntKind.bits]; omega⟩) ?_
      refine cd_goto (then_goto (jump_hit (sM ((n / 2 ^ 7, o ++ [UInt8.ofNat ((n % 2 ^ 8) ||| 128)], a3, cap3, L3)) (show NumInv n0 (n / 2 ^ 7) (o ++ [UInt8.ofNat ((n % 2 ^ 8) ||| 128)]) ∧ Row 5 1 a3 (o ++ [UInt8.ofNat ((n % 2 ^ 8) ||| 128)]).length cap3 (u8s (o ++ [UInt8.ofNat ((n % 2 ^ 8) ||| 128)])) L3 from ⟨hI.next (by omega), h5⟩) (show (n / 2 ^ 7) < n by omega))))
    · have h4p : ¬ ((n : Int) ≥ 128) := by simpa using h4
      refine cd_skip (then_n ?_)
      refine cd_rg ?_
      refine rQ [(2, .nat)] [0, 1, 2] [3, 4, 5, 6] ((0 ≤ (n : Int) ∧ IntKind.signed .u8 = false)) [(14, .slice a o.length cap), (16, u1 (n % 2 ^ 8))] (⟨Int.natCast_nonneg _, rfl⟩) ?_
      refine rN 3 [4, 5, 6] (.cells #[u1 (n % 2 ^ 8)] 5 (0, 0)) (fun b4 => sl b4 1 1) (fun b4 => ?_)
      refine rX 4 [5, 6] (do pure (.value (← Builtin.append_ #[189, 189] 189 #[.slice a o.length cap, sl b4 1 1]))) [0, 0] [Lr, bk b4 5 #[u1 (n % 2 ^ 8)]] [] (gv_u8push (l := o) (x := n % 2 ^ 8) 189 (by kernel_rfl) hR (by omega) (by first | omega | simp)) ?_
      rintro _ _ ⟨a4, cap4, L4, rfl, rfl, h6⟩
      refine rX 5 [6] (do pure (.value (← convert 189 9 (.slice a4 ((o ++ [UInt8.ofNat (n % 2 ^ 8)]).length) cap4)))) [0] [L4] [] (gv_conv (by kernel_rfl) (gv_rowbytes (o ++ [UInt8.ofNat (n % 2 ^ 8)]) h6)) ?_
      rintro _ _ ⟨rfl, rfl⟩
      refine rQ [] [6] [] (True) [(2, str (o ++ [UInt8.ofNat (n % 2 ^ 8)]))] (trivial) ?_
      refine rF ?_
      refine cT [] [] ?_
      refine cd_ret (jump_ret (bot_ret (rv [str (o ++ [UInt8.ofNat (n % 2 ^ 8)])] (str (o ++ [UInt8.ofNat (n % 2 ^ 8)])) ?_)))
      refine ⟨?_, rfl⟩
      all_goals first | with_reducible rfl | (rw [hI.done (by omega)]; done) | with_reducible assumption | omega | rfl | (simp_all; done) | (simp_all; omega)

set_option maxRecDepth 100000 in
theorem text_any2 (C : Ctx) (s : List UInt8) (h0 : Ok (s.length ≤ 1099511627776)) :
    FnT Tryz.prog C 108 #[str s] [] (fun rv_ rL_ => rv_ = str (textB s) ∧ rL_ = []) := by
  replace h0 := h0.h
  have hnl := numB_len s.length
  refine fE 9 Tryz.func108 rfl ?_
  refine cQ [] (True) [(0, str s)] (trivial) ?_
  refine cd_rg ?_
  refine rQ [] [0, 1, 2] [3, 4, 5, 6] ((inKind .u64 (s.length : Int))) [(0, str s), (5, u6 s.length)] (inK_u64 (by omega)) ?_
  refine rC 3 [4, 5, 6] [] [] (num_any2 C s.length {}) ?_
  rintro _ _ ⟨rfl, rfl⟩
  refine rQ [] [4, 5, 6] [] (((numB s.length).length + s.length ≤ 9223372036854775807)) [(2, str ((numB s.length) ++ s))] (by first | omega | (simp only [List.length_append, List.length_cons, List.length_nil]; omega) | (simp; omega)) ?_
  refine rF ?_
  refine cd_ret (bot_ret (rv [str ((numB s.length) ++ s)] (str ((numB s.length) ++ s)) ?_))
  refine ⟨?_, rfl⟩
  all_goals first | with_reducible rfl | (rfl; done) | with_reducible assumption | omega | rfl | (simp_all; done) | (simp_all; omega)

set_option maxRecDepth 100000 in
theorem wide_any2 (C : Ctx) (n : Nat) (h0 : Ok (n < 18446744073709551616)) :
    FnT Tryz.prog C 106 #[u6 n] [] (fun rv_ rL_ => rv_ = str (little 8 n) ∧ rL_ = []) := by
  replace h0 := h0.h
  refine fE 5 Tryz.func106 rfl ?_
  refine cQ [] (True) [(0, u6 n)] (trivial) ?_
  refine cd_rg ?_
  refine rQ [] [0] [1, 2] (True) [(3, u6 n)] (trivial) ?_
  refine rC 1 [2] [] [] (little8_any C n {}) ?_
  rintro _ _ ⟨rfl, rfl⟩
  refine rQ [] [2] [] (True) [(2, str (little 8 n))] (trivial) ?_
  refine rF ?_
  refine cd_ret (bot_ret (rv [str (little 8 n)] (str (little 8 n)) ?_))
  refine ⟨?_, rfl⟩
  all_goals first | with_reducible rfl | (skip; done) | with_reducible assumption | omega | rfl | (simp_all; done) | (simp_all; omega)

set_option maxRecDepth 100000 in
theorem fixed_any2 (C : Ctx) (n : Nat) (h0 : Ok (n < 4294967296)) :
    FnT Tryz.prog C 138 #[u3 n] [] (fun rv_ rL_ => rv_ = str (little 4 n) ∧ rL_ = []) := by
  replace h0 := h0.h
  refine fE 6 Tryz.func138 rfl ?_
  refine cQ [] (True) [(0, u3 n)] (trivial) ?_
  refine cd_rg ?_
  refine rQ [] [0, 1] [2, 3] ((inKind .u64 (n : Int))) [(4, u6 n)] (inK_u64 (by omega)) ?_
  refine rC 2 [3] [] [] (little4_any C n {}) ?_
  rintro _ _ ⟨rfl, rfl⟩
  refine rQ [] [3] [] (True) [(2, str (little 4 n))] (trivial) ?_
  refine rF ?_
  refine cd_ret (bot_ret (rv [str (little 4 n)] (str (little 4 n)) ?_))
  refine ⟨?_, rfl⟩
  all_goals first | with_reducible rfl | (skip; done) | with_reducible assumption | omega | rfl | (simp_all; done) | (simp_all; omega)

set_option maxRecDepth 100000 in
theorem mul64_one (C : Ctx) (n : Nat) (hn : Ok (n ≤ 1099511627776 ∧ n < 4294967296)) :
    FnT Tryz.prog C 211 #[.int .u64 1, u6 n] [] (fun rv_ rL_ => rv_ = .tuple #[.int .u64 0, u6 n] ∧ rL_ = []) := by
  replace hn := hn.h
  have hn2 := hn.2
  refine fE 51 Tryz.func211 rfl ?_
  refine cQ [] (True) [(0, .int .u64 1), (1, u6 n)] (trivial) ?_
  refine cd_rg ?_
  refine rQ [(1, .nat)] [0, 1] [2] ((natK .u64 (1 : Int) ∧ natK .u64 (4294967295 : Int))) [(0, .int .u64 1), (1, u6 n), (15, u6 (1 &&& 4294967295))] (⟨natK_u64 (by omega), natK_u64 (by omega)⟩) ?_
  refine rP 15 (u6 (1 &&& 4294967295)) (.int .u64 1) (by rfl) ?_
  refine rQ [] [2] [] (True) [(0, .int .u64 1), (1, u6 n), (6, .int .u64 1)] (trivial) ?_
  refine rF ?_
  refine cd_rg ?_
  refine rQ [(1, .nat)] [0, 1] [2] ((0 ≤ (1 : Int) ∧ 0 ≤ (32 : Int) ∧ (32 : Int) ≤ (IntKind.bits .u64 : Int))) [(0, .int .u64 1), (1, u6 n), (6, .int .u64 1), (17, u6 (1 / 2 ^ 32))] (⟨by omega, by omega, by simp only [IntKind.bits]; omega⟩) ?_
  refine rP 17 (u6 (1 / 2 ^ 32)) (.int .u64 0) (by rfl) ?_
  refine rQ [] [2] [] (True) [(0, .int .u64 1), (1, u6 n), (6, .int .u64 1), (7, .int .u64 0)] (trivial) ?_
  refine rF ?_
  refine cd_rg ?_
  refine rQ [(1, .nat)] [0, 1] [2] ((natK .u64 (n : Int) ∧ natK .u64 (4294967295 : Int))) [(0, .int .u64 1), (1, u6 n), (6, .int .u64 1), (7, .int .u64 0), (19, u6 (n &&& 4294967295))] (⟨natK_u64 (by omega), natK_u64 (by omega)⟩) ?_
  refine rP 19 (u6 (n &&& 4294967295)) (u6 n) (by rw [and32 n (by omega)]) ?_
  refine rQ [] [2] [] (True) [(0, .int .u64 1), (1, u6 n), (6, .int .u64 1), (7, .int .u64 0), (8, u6 n)] (trivial) ?_
  refine rF ?_
  refine cd_rg ?_
  refine rQ [(1, .nat)] [0, 1] [2] ((0 ≤ (n : Int) ∧ 0 ≤ (32 : Int) ∧ (32 : Int) ≤ (IntKind.bits .u64 : Int))) [(0, .int .u64 1), (1, u6 n), (6, .int .u64 1), (7, .int .u64 0), (8, u6 n), (21, u6 (n / 2 ^ 32))] (⟨by omega, by omega, by simp only [IntKind.bits]; omega⟩) ?_
  refine rP 21 (u6 (n / 2 ^ 32)) (.int .u64 0) (by rw [show n / 2 ^ 32 = 0 by omega]; rfl) ?_
  refine rQ [] [2] [] (True) [(0, .int .u64 1), (1, u6 n), (6, .int .u64 1), (7, .int .u64 0), (8, u6 n), (9, .int .u64 0)] (trivial) ?_
  refine rF ?_
  refine cd_rg ?_
  refine rQ [(2, .nat)] [0, 1, 2] [3] ((0 ≤ (1 : Int) ∧ 0 ≤ (n : Int) ∧ IntKind.signed .u64 = false)) [(0, .int .u64 1), (1, u6 n), (6, .int .u64 1), (7, .int .u64 0), (8, u6 n), (9, .int .u64 0), (24, u6 ((1 * n) % 2 ^ 64))] (⟨by omega, Int.natCast_nonneg _, rfl⟩) ?_
  refine rP 24 (u6 ((1 * n) % 2 ^ 64)) (u6 n) (by rw [show 1 * n % 2 ^ 64 = n by omega]) ?_
  refine rQ [] [3] [] (True) [(0, .int .u64 1), (1, u6 n), (6, .int .u64 1), (7, .int .u64 0), (8, u6 n), (9, .int .u64 0), (10, u6 n)] (trivial) ?_
  refine rF ?_
  refine cd_rg ?_
  refine rQ [(2, .nat)] [0, 1, 2] [3, 4, 5, 6] ((0 ≤ (0 : Int) ∧ 0 ≤ (n : Int) ∧ IntKind.signed .u64 = false)) [(0, .int .u64 1), (1, u6 n), (6, .int .u64 1), (7, .int .u64 0), (9, .int .u64 0), (10, u6 n), (27, u6 ((0 * n) % 2 ^ 64))] (⟨by omega, Int.natCast_nonneg _, rfl⟩) ?_
  refine rP 27 (u6 ((0 * n) % 2 ^ 64)) (.int .u64 0) (by rw [show 0 * n % 2 ^ 64 = 0 by omega]; rfl) ?_
  refine rQ [(4, .nat)] [3, 4] [5, 6] ((0 ≤ (n : Int) ∧ 0 ≤ (32 : Int) ∧ (32 : Int) ≤ (IntKind.bits .u64 : Int))) [(0, .int .u64 1), (1, u6 n), (6, .int .u64 1), (7, .int .u64 0), (9, .int .u64 0), (27, .int .u64 0), (29, u6 (n / 2 ^ 32))] (⟨by omega, by omega, by simp only [IntKind.bits]; omega⟩) ?_
  refine rP 29 (u6 (n / 2 ^ 32)) (.int .u64 0) (by rw [show n / 2 ^ 32 = 0 by omega]; rfl) ?_
  refine rQ [(5, .nat)] [5] [6] ((0 ≤ (0 : Int) ∧ 0 ≤ (0 : Int) ∧ IntKind.signed .u64 = false)) [(0, .int .u64 1), (1, u6 n), (6, .int .u64 1), (7, .int .u64 0), (9, .int .u64 0), (30, u6 ((0 + 0) % 2 ^ 64))] (⟨by omega, by omega, rfl⟩) ?_
  refine rP 30 (u6 ((0 + 0) % 2 ^ 64)) (.int .u64 0) (rfl) ?_
  refine rQ [] [6] [] (True) [(0, .int .u64 1), (1, u6 n), (6, .int .u64 1), (7, .int .u64 0), (9, .int .u64 0), (11, .int .u64 0)] (trivial) ?_
  refine rF ?_
  refine cd_rg ?_
  refine rQ [(1, .nat)] [0, 1] [2] ((natK .u64 (0 : Int) ∧ natK .u64 (4294967295 : Int))) [(0, .int .u64 1), (1, u6 n), (6, .int .u64 1), (7, .int .u64 0), (9, .int .u64 0), (11, .int .u64 0), (32, u6 (0 &&& 4294967295))] (⟨natK_u64 (by omega), natK_u64 (by omega)⟩) ?_
  refine rP 32 (u6 (0 &&& 4294967295)) (.int .u64 0) (rfl) ?_
  refine rQ [] [2] [] (True) [(0, .int .u64 1), (1, u6 n), (6, .int .u64 1), (7, .int .u64 0), (9, .int .u64 0), (11, .int .u64 0), (12, .int .u64 0)] (trivial) ?_
  refine rF ?_
  refine cd_rg ?_
  refine rQ [(1, .nat)] [0, 1] [2] ((0 ≤ (0 : Int) ∧ 0 ≤ (32 : Int) ∧ (32 : Int) ≤ (IntKind.bits .u64 : Int))) [(0, .int .u64 1), (1, u6 n), (6, .int .u64 1), (7, .int .u64 0), (9, .int .u64 0), (12, .int .u64 0), (34, u6 (0 / 2 ^ 32))] (⟨by omega, by omega, by simp only [IntKind.bits]; omega⟩) ?_
  refine rP 34 (u6 (0 / 2 ^ 32)) (.int .u64 0) (rfl) ?_
  refine rQ [] [2] [] (True) [(0, .int .u64 1), (1, u6 n), (6, .int .u64 1), (7, .int .u64 0), (9, .int .u64 0), (12, .int .u64 0), (13, .int .u64 0)] (trivial) ?_
  refine rF ?_
  refine cd_rg ?_
  refine rQ [(3, .nat)] [0, 1, 2, 3] [4, 5] ((0 ≤ (1 : Int) ∧ 0 ≤ (0 : Int) ∧ IntKind.signed .u64 = false)) [(0, .int .u64 1), (1, u6 n), (7, .int .u64 0), (9, .int .u64 0), (13, .int .u64 0), (35, .int .u64 0), (38, u6 ((1 * 0) % 2 ^ 64))] (⟨by omega, by omega, rfl⟩) ?_
  refine rP 38 (u6 ((1 * 0) % 2 ^ 64)) (.int .u64 0) (rfl) ?_
  refine rQ [(4, .nat)] [4] [5] ((0 ≤ (0 : Int) ∧ 0 ≤ (0 : Int) ∧ IntKind.signed .u64 = false)) [(0, .int .u64 1), (1, u6 n), (7, .int .u64 0), (9, .int .u64 0), (13, .int .u64 0), (39, u6 ((0 + 0) % 2 ^ 64))] (⟨by omega, by omega, rfl⟩) ?_
  refine rP 39 (u6 ((0 + 0) % 2 ^ 64)) (.int .u64 0) (rfl) ?_
  refine rQ [] [5] [] (True) [(0, .int .u64 1), (1, u6 n), (7, .int .u64 0), (9, .int .u64 0), (12, .int .u64 0), (13, .int .u64 0)] (trivial) ?_
  refine rF ?_
  refine cd_rg ?_
  refine rQ [(2, .nat)] [0, 1, 2] [3, 4, 5, 6, 7, 8] ((0 ≤ (0 : Int) ∧ 0 ≤ (0 : Int) ∧ IntKind.signed .u64 = false)) [(0, .int .u64 1), (1, u6 n), (12, .int .u64 0), (13, .int .u64 0), (42, u6 ((0 * 0) % 2 ^ 64))] (⟨by omega, by omega, rfl⟩) ?_
  refine rP 42 (u6 ((0 * 0) % 2 ^ 64)) (.int .u64 0) (rfl) ?_
  refine rQ [(4, .nat)] [3, 4] [5, 6, 7, 8] ((0 ≤ (0 : Int) ∧ 0 ≤ (0 : Int) ∧ IntKind.signed .u64 = false)) [(0, .int .u64 1), (1, u6 n), (12, .int .u64 0), (44, u6 ((0 + 0) % 2 ^ 64))] (⟨by omega, by omega, rfl⟩) ?_
  refine rP 44 (u6 ((0 + 0) % 2 ^ 64)) (.int .u64 0) (rfl) ?_
  refine rQ [(6, .nat)] [5, 6] [7, 8] ((0 ≤ (0 : Int) ∧ 0 ≤ (32 : Int) ∧ (32 : Int) ≤ (IntKind.bits .u64 : Int))) [(0, .int .u64 1), (1, u6 n), (44, .int .u64 0), (46, u6 (0 / 2 ^ 32))] (⟨by omega, by omega, by simp only [IntKind.bits]; omega⟩) ?_
  refine rP 46 (u6 (0 / 2 ^ 32)) (.int .u64 0) (rfl) ?_
  refine rQ [(7, .nat)] [7] [8] ((0 ≤ (0 : Int) ∧ 0 ≤ (0 : Int) ∧ IntKind.signed .u64 = false)) [(0, .int .u64 1), (1, u6 n), (47, u6 ((0 + 0) % 2 ^ 64))] (⟨by omega, by omega, rfl⟩) ?_
  refine rP 47 (u6 ((0 + 0) % 2 ^ 64)) (.int .u64 0) (rfl) ?_
  refine rQ [] [8] [] (True) [(0, .int .u64 1), (1, u6 n), (4, .int .u64 0)] (trivial) ?_
  refine rF ?_
  refine cd_rg ?_
  refine rQ [(2, .nat)] [0, 1, 2] [3] ((0 ≤ (1 : Int) ∧ 0 ≤ (n : Int) ∧ IntKind.signed .u64 = false)) [(4, .int .u64 0), (50, u6 ((1 * n) % 2 ^ 64))] (⟨by omega, Int.natCast_nonneg _, rfl⟩) ?_
  refine rP 50 (u6 ((1 * n) % 2 ^ 64)) (u6 n) (by rw [show 1 * n % 2 ^ 64 = n by omega]) ?_
  refine rQ [] [3] [] (True) [(4, .int .u64 0), (5, u6 n)] (trivial) ?_
  refine rF ?_
  refine cd_ret (bot_ret (rv [.int .u64 0, u6 n] (.tuple #[.int .u64 0, u6 n]) ?_))
  refine ⟨?_, rfl⟩
  all_goals first | with_reducible rfl | (skip; done) | with_reducible assumption | omega | rfl | (simp_all; done) | (simp_all; omega)

set_option maxRecDepth 100000 in
theorem mul_one (C : Ctx) (n : Nat) (hn : Ok (n ≤ 1099511627776 ∧ n < 4294967296)) :
    FnT Tryz.prog C 157 #[.int .u64 1, u6 n] [] (fun rv_ rL_ => rv_ = .tuple #[.int .u64 0, u6 n] ∧ rL_ = []) := by
  replace hn := hn.h
  refine fE 30 Tryz.func157 rfl ?_
  refine cQ [] (True) [(0, .int .u64 1), (1, u6 n)] (trivial) ?_
  refine cd_seq ?_
  refine cNo ?_
  refine cd_skip (then_n ?_)
  refine cd_rg ?_
  refine rQ [] [0, 1] [2, 3, 4, 5, 6, 7] (True) [(23, .int .u64 1), (24, u6 n)] (trivial) ?_
  refine rC 2 [3, 4, 5, 6, 7] [] [] (mul64_one C n {}) ?_
  rintro _ _ ⟨rfl, rfl⟩
  refine rQ [] [3, 4, 5, 6, 7] [] (True) [(8, .int .u64 0), (9, u6 n)] (trivial) ?_
  refine rF ?_
  refine cQ [] (True) [(4, .int .u64 0), (5, u6 n)] (trivial) ?_
  refine cd_ret (bot_ret (rv [.int .u64 0, u6 n] (.tuple #[.int .u64 0, u6 n]) ?_))
  refine ⟨?_, rfl⟩
  all_goals first | with_reducible rfl | (skip; done) | with_reducible assumption | omega | rfl | (simp_all; done) | (simp_all; omega)

set_option maxRecDepth 100000 in
theorem grow_fresh (C : Ctx) (b : Nat) (v : Value) (n : Nat) (hn : Ok (n ≤ 1099511627776)) :
    FnT Tryz.prog C 213 #[p0 b, n6 n] [bk b 191 #[v, .slice none 0 0]] (fun rv_ rL_ => ∃ b2 : Nat, ∃ cs : Array Value, (n ≤ cs.size) ∧ rv_ = .tuple #[] ∧ rL_ = [bk b 191 #[v, sl b2 0 cs.size], bk b2 5 cs]) := by
  replace hn := hn.h
  refine fE 30 Tryz.func213 rfl ?_
  refine dr [bk b 191 #[v, .slice none 0 0]] [] [] 16 ?_
  refine aS [(3, .at 0), (12, .at 0)] [0, 6, 9, 1, 10, 2, 11, 3, 12, 4, 13, 5, 7] ((b = b) ∧ (b = b) ∧ (inKind .i64 ((2 : Int) * (0 : Int))) ∧ (inKind .i64 (0 + (n : Int)))) [(0, p0 b), (12, n6 (0 + n)), (18, z6 0)] (bm 16 16127) 3 (⟨rfl, rfl, inK_i64 (by omega), inK_i64 (by omega)⟩) ?_
  refine aI (i := 8) ?_
  refine xX (callFunc 250 #[n6 (0 + n)]) [] [] [] [0, 13, 18] (bm 16 16383) (gv_mnz (t := 189) #[3] Tryz.func250 (by kernel_rfl) (by kernel_rfl) (by kernel_rfl) (by kernel_rfl) (by kernel_rfl) (by omega)) ?_
  rintro _ _ ⟨b1, cs1, rfl, h1, rfl⟩
  refine aS [] [14, 15] ((0 ≤ (0 : Int) ∧ (0 : Int) ≤ (cs1.size : Int))) [(0, p0 b), (4, sl b1 0 cs1.size)] (bm 16 65535) 0 (⟨by omega, by omega⟩) ?_
  refine aE [(0, p0 b), (4, sl b1 0 cs1.size)] [bk b 191 #[v, .slice none 0 0], bk b1 5 cs1] ?_
  refine cd_rg ?_
  refine rQ [(4, .at 0)] [0, 1, 2, 3, 4] [5] ((b = b)) [(0, p0 b), (4, sl b1 0 cs1.size), (20, sl b1 0 cs1.size), (24, .slice none 0 0)] (rfl) ?_
  refine rX 5 [] (do pure (.value (← Builtin.copy_ #[189, 189] 3 #[sl b1 0 cs1.size, .slice none 0 0]))) [] [] [bk b 191 #[v, .slice none 0 0], bk b1 5 cs1] (gv_copy0 rfl (by kernel_rfl)) ?_
  rintro _ _ ⟨rfl, rfl⟩
  refine rD [(0, p0 b), (4, sl b1 0 cs1.size)] ?_
  refine cS0 [(4, .at 0)] ((b = b)) [] [bk b 191 #[v, sl b1 0 cs1.size], bk b1 5 cs1] (rfl) ?_
  refine (bot_n (rv [] (.tuple #[]) ?_))
  refine ⟨b1, cs1, ?_, ?_, rfl⟩
  all_goals first | with_reducible rfl | (omega; done) | with_reducible assumption | omega | rfl | (simp_all; done) | (simp_all; omega)

set_option maxRecDepth 100000 in
theorem growB_raw (C : Ctx) (b : Nat) (n : Nat) (hn : Ok (n ≤ 1099511627776)) (h1 : Ok (1 ≤ n)) :
    FnT Tryz.prog C 159 #[p0 b, n6 n] [bk b 191 #[.pointer none, .slice none 0 0]] (fun rv_ rL_ => ∃ b2 : Nat, ∃ cs : Array Value, (n ≤ cs.size) ∧ rv_ = .tuple #[] ∧ rL_ = [bk b 191 #[p0 b, sl b2 0 cs.size], bk b2 5 cs]) := by
  replace hn := hn.h
  replace h1 := h1.h
  refine fE 25 Tryz.func159 rfl ?_
  refine cd_rg ?_
  refine rQ [] [0] [1] (True) [(0, p0 b), (1, n6 n), (4, p0 b)] (trivial) ?_
  refine rC 1 [] [0] [] (copyCheck_any C b (.pointer none) (.slice none 0 0) (Ok.h {})) ?_
  rintro _ _ ⟨rfl, rfl⟩
  refine rD [(0, p0 b), (1, n6 n)] ?_
  refine cd_seq ?_
  refine cQ [] (True) [(0, p0 b), (1, n6 n), (7, .bool (decide ((n : Int) < 0)))] (trivial) ?_
  refine cI (decide ((n : Int) < 0)) (fun h1 => ?_) (fun h1 => ?_)
  · have h1p : (n : Int) < 0 := by simpa using h1
    exfalso; omega
  · have h1p : ¬ ((n : Int) < 0) := by simp
    refine cd_skip (then_n ?_)
    refine dr [bk b 191 #[p0 b, .slice none 0 0]] [] [] 13 ?_
    refine aS [(3, .at 0), (8, .at 0)] [0, 5, 11, 1, 6, 2, 7, 3, 8, 4, 9, 10, 12] ((b = b) ∧ (b = b) ∧ (inKind .i64 ((0 : Int) - (0 : Int)))) [(0, p0 b), (1, n6 n), (21, .bool (decide (0 < (n : Int))))] (bm 13 8191) 0 (⟨rfl, rfl, inK_i64 (by omega)⟩) ?_
    refine aE [(0, p0 b), (1, n6 n), (21, .bool (decide (0 < (n : Int))))] [bk b 191 #[p0 b, .slice none 0 0]] ?_
    refine cI (decide (0 < (n : Int))) (fun h2 => ?_) (fun h2 => ?_)
    · have h2p : 0 < (n : Int) := by simpa using h2
      refine cd_region ?_
      refine rQ [] [0, 1] [2] (True) [(22, p0 b), (23, n6 n)] (trivial) ?_
      refine rC 2 [] [0] [] (grow_fresh C b (p0 b) n {}) ?_
      rintro _ _ ⟨b2_1, cs1, hf1, rfl, rfl⟩
      refine rg_nil ?_
      refine (bot_n (rv [] (.tuple #[]) ?_))
      refine ⟨b2_1, cs1, ?_, ?_, rfl⟩
      all_goals first | with_reducible rfl | (skip; done) | with_reducible assumption | omega | rfl | (simp_all; done) | (simp_all; omega)
    · have h2p : ¬ (0 < (n : Int)) := by simpa using h2
      exfalso; omega

theorem growB_any (C : Ctx) (b n : Nat) (hn : n ≤ 1099511627776) (h1 : 1 ≤ n) :
    FnT Tryz.prog C 159 #[.pointer (some ⟨b, 0, none⟩), .int .i64 (n : Int)] [bk b 191 #[.pointer none, .slice none 0 0]] (fun v L => ∃ L1, BldL b [] L1 ∧ v = .tuple #[] ∧ L = [L1]) := by
  intro w F hw
  refine (growB_raw C b n ⟨hn⟩ ⟨h1⟩ w F hw).mono ?_
  rintro e w' ⟨v, L', rfl, ho, b2, cs, hcs, rfl, rfl⟩
  refine ⟨_, [(b, .cells #[p0 b, .slice (some ⟨b2, 0, none⟩) 0 cs.size] 191 (0, 0)) :: [(b2, .cells cs 5 (0, 0))]], rfl, by simpa using ho, _, ⟨_, some ⟨b2, 0, none⟩, cs.size, [(b2, .cells cs 5 (0, 0))], .inr rfl, .inr ⟨b2, cs.toList, (0, 0), rfl, by omega, rfl, by simp [u8s], by simp, by simp [u8s]⟩, rfl⟩, rfl, rfl⟩

set_option maxRecDepth 100000 in
theorem repeat_zero (C : Ctx) (n : Nat) (hn : Ok (n ≤ 6)) :
    FnT Tryz.prog C 111 #[str [0], n6 n] [] (fun rv_ rL_ => rv_ = str (List.replicate n (0 : UInt8)) ∧ rL_ = []) := by
  replace hn := hn.h
  refine fE 125 Tryz.func111 rfl ?_
  refine cQ [] (True) [(0, str [0]), (1, n6 n)] (trivial) ?_
  refine cd_seq ?_
  refine cQ [] (True) [(0, str [0]), (1, n6 n), (11, n6 n)] (trivial) ?_
  refine cd_block ?_
  refine cQ [] (True) [(0, str [0]), (1, n6 n), (11, n6 n), (12, .bool ((n : Int) == 0))] (trivial) ?_
  refine cI ((n : Int) == 0) (fun h1 => ?_) (fun h1 => ?_)
  · have h1p : (n : Int) = 0 := by simpa using h1
    refine cQ [] (True) [(4, str [])] (trivial) ?_
    refine cd_ret (block_ret (then_ret (bot_ret (rv [str []] (str []) ?_))))
    refine ⟨?_, rfl⟩
    all_goals first | with_reducible rfl | (rw [show n = 0 by omega]; rfl; done) | (rw [show n = 1 by omega]; rfl; done) | (rw [show k = n by omega]; done) | with_reducible assumption | omega | rfl | (simp_all; done) | (simp_all; omega)
  · have h1p : ¬ ((n : Int) = 0) := by simpa using h1
    refine cQ [] (True) [(0, str [0]), (1, n6 n), (14, .bool ((n : Int) == 1))] (trivial) ?_
    refine cI ((n : Int) == 1) (fun h2 => ?_) (fun h2 => ?_)
    · have h2p : (n : Int) = 1 := by simpa using h2
      refine cQ [] (True) [(4, str [0])] (trivial) ?_
      refine cd_ret (block_ret (then_ret (bot_ret (rv [str [0]] (str [0]) ?_))))
      refine ⟨?_, rfl⟩
      all_goals first | with_reducible rfl | (rw [show n = 0 by omega]; rfl; done) | (rw [show n = 1 by omega]; rfl; done) | (rw [show k = n by omega]; done) | with_reducible assumption | omega | rfl | (simp_all; done) | (simp_all; omega)
    · have h2p : ¬ ((n : Int) = 1) := by simpa using h2
      refine cd_skip (block_n (then_n ?_))
      refine cd_seq ?_
      refine cQ [] (True) [(0, str [0]), (1, n6 n), (18, .bool (decide ((n : Int) < 0)))] (trivial) ?_
      refine cI (decide ((n : Int) < 0)) (fun h3 => ?_) (fun h3 => ?_)
      · have h3p : (n : Int) < 0 := by simpa using h3
        exfalso; omega
      · have h3p : ¬ ((n : Int) < 0) := by simp
        refine cd_skip (then_n ?_)
        refine cd_rg ?_
        refine rQ [] [0, 1, 2, 3, 4] [5, 6, 7, 8, 9, 10] ((inKind .u64 (1 : Int)) ∧ (inKind .u64 (n : Int))) [(0, str [0]), (23, .int .u64 1), (25, u6 n)] (⟨inK_u64 (by omega), inK_u64 (by omega)⟩) ?_
        refine rC 5 [6, 7, 8, 9, 10] [] [] (mul_one C n ⟨by first | ((simp only [List.length_append, List.length_drop, List.length_take, List.length_replicate]; omega); done) | exact Ok.h {}⟩) ?_
        rintro _ _ ⟨rfl, rfl⟩
        refine rQ [] [6, 7, 8, 9, 10] [] (True) [(0, str [0]), (5, .int .u64 0), (6, u6 n)] (trivial) ?_
        refine rF ?_
        refine cd_seq ?_
        refine cQ [] (True) [(0, str [0]), (6, u6 n), (34, .bool (decide ((n : Int) > 9223372036854775807)))] (trivial) ?_
        refine cI (decide ((n : Int) > 9223372036854775807)) (fun h4 => ?_) (fun h4 => ?_)
        · have h4p : (n : Int) > 9223372036854775807 := by simpa using h4
          exfalso; omega
        · have h4p : ¬ ((n : Int) > 9223372036854775807) := by simpa using h4
          refine cd_skip (then_n ?_)
          refine cQ [] ((inKind .i64 (n : Int))) [(0, str [0]), (7, n6 n)] (inK_i64 (by omega)) ?_
          refine cd_seq ?_
          refine cQ [] (True) [(0, str [0]), (7, n6 n), (40, .bool false)] (trivial) ?_
          refine cNo ?_
          refine cd_skip (then_n ?_)
          refine cd_seq ?_
          refine cQ [] ((0 ≤ (0 : Int) ∧ (0 : Int) < ([0].length : Int))) [(0, str [0]), (7, n6 n), (42, .int .u8 0)] (⟨by decide, by decide⟩) ?_
          refine cd_block ?_
          refine cd_seq ?_
          refine cQ [] (True) [(0, str [0]), (7, n6 n), (42, .int .u8 0), (43, .bool false)] (trivial) ?_
          refine cNo ?_
          refine cQ [] (True) [(0, str [0]), (7, n6 n), (42, .int .u8 0), (43, .bool false)] (trivial) ?_
          refine cNo ?_
          refine cQ [] (True) [(0, str [0]), (7, n6 n), (42, .int .u8 0), (43, .bool false)] (trivial) ?_
          refine cNo ?_
          refine cQ [] (True) [(0, str [0]), (7, n6 n), (42, .int .u8 0), (43, .bool false)] (trivial) ?_
          refine cNo ?_
          refine cQ0 [] (True) [(0, str [0]), (7, n6 n), (43, .bool false)] (trivial) ?_
          refine (then_n ?_)
          refine cNo ?_
          refine cd_skip (block_n (then_n ?_))
          refine cQ [] (True) [(0, str [0]), (7, n6 n), (8, n6 n)] (trivial) ?_
          refine cd_seq ?_
          refine cQ [] (True) [(0, str [0]), (7, n6 n), (8, n6 n), (96, .bool (decide ((n : Int) > 8192)))] (trivial) ?_
          refine cI (decide ((n : Int) > 8192)) (fun h5 => ?_) (fun h5 => ?_)
          · have h5p : (n : Int) > 8192 := by simpa using h5
            exfalso; omega
          · have h5p : ¬ ((n : Int) > 8192) := by simpa using h5
            refine cd_skip (then_n ?_)
            refine cd_rg ?_
            refine rQ [] [] [0] (True) [(0, str [0]), (7, n6 n), (8, n6 n)] (trivial) ?_
            refine rN 0 [] (.cells #[.pointer none, .slice none 0 0] 191 (0, 0)) p0 (fun b1 => ?_)
            refine rD [(0, str [0]), (7, n6 n), (8, n6 n), (9, p0 b1)] ?_
            refine cd_rg ?_
            refine rQ [] [0] [1] (True) [(0, str [0]), (7, n6 n), (8, n6 n), (9, p0 b1), (107, n6 n)] (trivial) ?_
            refine rC 1 [] [0] [] (growB_any C b1 n (by first | ((simp only [List.length_append, List.length_drop, List.length_take, List.length_replicate]; omega); done) | exact Ok.h {}) (by first | ((simp only [List.length_append, List.length_drop, List.length_take, List.length_replicate]; omega); done) | exact Ok.h {})) ?_
            rintro _ _ ⟨L1_1, h6, rfl, rfl⟩
            refine rD [(0, str [0]), (7, n6 n), (8, n6 n), (9, p0 b1)] ?_
            refine cd_rg ?_
            refine rQ [] [0] [1] (True) [(7, n6 n), (8, n6 n), (9, p0 b1), (109, str [0])] (trivial) ?_
            refine rC 1 [] [0] [] (writeString_any C b1 [] [0] L1_1 h6 (by first | ((simp only [List.length_append, List.length_drop, List.length_take, List.length_replicate]; omega); done) | exact Ok.h {})) ?_
            rintro _ _ ⟨L1_2, h7, rfl, rfl⟩
            refine rD [(7, n6 n), (8, n6 n), (9, p0 b1)] ?_
            refine cd_seq ?_
            refine cd_block ?_
            refine lp (fun x : Nat × Blks => [(7, n6 n), (8, n6 n), (9, p0 b1)]) (fun x : Nat × Blks => [x.2]) (fun x : Nat × Blks => BldL b1 (List.replicate x.1 (0 : UInt8)) x.2 ∧ 1 ≤ x.1 ∧ x.1 ≤ n) (fun x : Nat × Blks => n - x.1) ((1, L1_2)) (show BldL b1 (List.replicate 1 (0 : UInt8)) L1_2 ∧ 1 ≤ 1 ∧ 1 ≤ n from ⟨h7, by omega, by omega⟩) ?_
            rintro ⟨k, Lr⟩ hI
            replace hI : BldL b1 (List.replicate k (0 : UInt8)) Lr ∧ 1 ≤ k ∧ k ≤ n := hI
            obtain ⟨hB, h1k, hkn⟩ := hI
            have hrl : (List.replicate k (0 : UInt8)).length = k := by simp
            refine cd_seq ?_
            refine cd_rg ?_
            refine rQ [] [] [0, 1, 2] (True) [(7, n6 n), (8, n6 n), (9, p0 b1)] (trivial) ?_
            refine rC 0 [1, 2] [0] [] (blen_any C b1 (List.replicate k (0 : UInt8)) Lr hB) ?_
            rintro _ _ ⟨rfl, rfl⟩
            refine rQ [] [1, 2] [] (True) [(7, n6 n), (8, n6 n), (9, p0 b1), (113, .bool (decide ((((List.replicate k (0 : UInt8)).length : Nat) : Int) < (n : Int))))] (trivial) ?_
            refine rF ?_
            refine cI (decide ((((List.replicate k (0 : UInt8)).length : Nat) : Int) < (n : Int))) (fun h8 => ?_) (fun h8 => ?_)
            · have h8p : (((List.replicate k (0 : UInt8)).length : Nat) : Int) < (n : Int) := by simpa using h8
              refine cd_skip (then_n ?_)
              refine cd_block ?_
              refine cd_rg ?_
              refine rQ [] [0] [1, 2, 3, 4, 5, 6] (True) [(7, n6 n), (8, n6 n), (9, p0 b1), (114, n6 n)] (trivial) ?_
              refine rC 1 [2, 3, 4, 5, 6] [0] [] (blen_any C b1 (List.replicate k (0 : UInt8)) Lr hB) ?_
              rintro _ _ ⟨rfl, rfl⟩
              refine rQ [(2, .nat)] [2] [3, 4, 5, 6] ((0 ≤ (((List.replicate k (0 : UInt8)).length : Nat) : Int) ∧ (((List.replicate k (0 : UInt8)).length : Nat) : Int) ≤ (n : Int) ∧ (n : Int) ≤ IntKind.max .i64)) [(7, n6 n), (8, n6 n), (9, p0 b1), (116, n6 (n - ((List.replicate k (0 : UInt8)).length)))] (⟨by omega, by omega, by have := (show IntKind.max .i64 = 9223372036854775807 from rfl); omega⟩) ?_
              refine rC 3 [4, 5, 6] [0] [] (blen_any C b1 (List.replicate k (0 : UInt8)) Lr hB) ?_
              rintro _ _ ⟨rfl, rfl⟩
              refine rQ [] [4, 5, 6] [] (True) [(7, n6 n), (8, n6 n), (9, p0 b1), (10, z6 (if (n : Int) < (if (((List.replicate k (0 : UInt8)).length : Nat) : Int) < ((n - ((List.replicate k (0 : UInt8)).length) : Nat) : Int) then (((List.replicate k (0 : UInt8)).length : Nat) : Int) else ((n - ((List.replicate k (0 : UInt8)).length) : Nat) : Int)) then (n : Int) else if (((List.replicate k (0 : UInt8)).length : Nat) : Int) < ((n - ((List.replicate k (0 : UInt8)).length) : Nat) : Int) then (((List.replicate k (0 : UInt8)).length : Nat) : Int) else ((n - ((List.replicate k (0 : UInt8)).length) : Nat) : Int)))] (trivial) ?_
              refine rF ?_
              obtain ⟨m, hm⟩ : ∃ m : Nat, (if (n : Int) < (if (((List.replicate k (0 : UInt8)).length : Nat) : Int) < ((n - ((List.replicate k (0 : UInt8)).length) : Nat) : Int) then (((List.replicate k (0 : UInt8)).length : Nat) : Int) else ((n - ((List.replicate k (0 : UInt8)).length) : Nat) : Int)) then (n : Int) else if (((List.replicate k (0 : UInt8)).length : Nat) : Int) < ((n - ((List.replicate k (0 : UInt8)).length) : Nat) : Int) then (((List.replicate k (0 : UInt8)).length : Nat) : Int) else ((n - ((List.replicate k (0 : UInt8)).length) : Nat) : Int)) = (m : Int) := ⟨(if (n : Int) < (if (((List.replicate k (0 : UInt8)).length : Nat) : Int) < ((n - ((List.replicate k (0 : UInt8)).length) : Nat) : Int) then (((List.replicate k (0 : UInt8)).length : Nat) : Int) else ((n - ((List.replicate k (0 : UInt8)).length) : Nat) : Int)) then (n : Int) else if (((List.replicate k (0 : UInt8)).length : Nat) : Int) < ((n - ((List.replicate k (0 : UInt8)).length) : Nat) : Int) then (((List.replicate k (0 : UInt8)).length : Nat) : Int) else ((n - ((List.replicate k (0 : UInt8)).length) : Nat) : Int)).toNat, by rw [hrl]; (repeat' split) <;> omega⟩
              have hm1 : m ≤ k ∧ m ≤ n - k ∧ 1 ≤ m := by rw [hrl] at hm; (repeat' split at hm) <;> omega
              rw [hm]
              refine cd_region ?_
              refine rQ [] [] [0, 1, 2, 3] (True) [(7, n6 n), (8, n6 n), (9, p0 b1), (10, n6 m)] (trivial) ?_
              refine rC 0 [1, 2, 3] [0] [] (string_any C b1 (List.replicate k (0 : UInt8)) Lr hB (by first | ((simp only [List.length_append, List.length_drop, List.length_take, List.length_replicate]; omega); done) | exact Ok.h {})) ?_
              rintro _ _ ⟨L1_3, h9, rfl, rfl⟩
              refine rQ [] [1, 2] [3] ((0 ≤ (0 : Int) ∧ (0 : Int) ≤ (m : Int) ∧ (m : Int) ≤ ((List.replicate k (0 : UInt8)).length : Int))) [(7, n6 n), (8, n6 n), (9, p0 b1), (122, str (((List.replicate k (0 : UInt8)).take m).drop 0))] (⟨by omega, by omega, by omega⟩) ?_
              refine rC 3 [] [0] [] (writeString_any C b1 (List.replicate k (0 : UInt8)) (((List.replicate k (0 : UInt8)).take m).drop 0) L1_3 h9 (by first | ((simp only [List.length_append, List.length_drop, List.length_take, List.length_replicate]; omega); done) | exact Ok.h {})) ?_
              rintro _ _ ⟨L1_4, h10, rfl, rfl⟩
              refine rg_nil ?_
              refine (block_n (lM ((k + m, L1_4)) (show BldL b1 (List.replicate (k + m) (0 : UInt8)) L1_4 ∧ 1 ≤ (k + m) ∧ (k + m) ≤ n from ⟨by rw [← rep_write (k := k) (m := m) (by omega)]; exact h10, by omega, by omega⟩) (show (n - (k + m)) < (n - k) by omega)))
            · have h8p : ¬ ((((List.replicate k (0 : UInt8)).length : Nat) : Int) < (n : Int)) := by simpa using h8
              refine cd_exit (then_exit (then_exit (block_hit (then_n ?_))))
              refine cd_rg ?_
              refine rQ [] [] [0, 1] (True) [(9, p0 b1)] (trivial) ?_
              refine rC 0 [1] [0] [] (string_any C b1 (List.replicate k (0 : UInt8)) Lr hB (by first | ((simp only [List.length_append, List.length_drop, List.length_take, List.length_replicate]; omega); done) | exact Ok.h {})) ?_
              rintro _ _ ⟨L1_5, h11, rfl, rfl⟩
              refine rQ [] [1] [] (True) [(4, str (List.replicate k (0 : UInt8)))] (trivial) ?_
              refine rF ?_
              refine cT [] [] ?_
              refine cd_ret (bot_ret (rv [str (List.replicate k (0 : UInt8))] (str (List.replicate k (0 : UInt8))) ?_))
              refine ⟨?_, rfl⟩
              all_goals first | with_reducible rfl | (rw [show n = 0 by omega]; rfl; done) | (rw [show n = 1 by omega]; rfl; done) | (rw [show k = n by omega]; done) | with_reducible assumption | omega | rfl | (simp_all; done) | (simp_all; omega)
end Go.Proofs
