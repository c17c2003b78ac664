/- Walks of small functions. No condition. -/
import Derived.Test.YtooncojgfdcjeaaGreatDoorRl
import Derived.Test.YtooncojgfdcjeaaGreatDoorProg
namespace Go.Proofs
open Go Go.Sep
set_option maxRecDepth 100000 in
theorem left_any (C : Ctx) (at_ : Nat) (h0 : Ok (at_ ≤ 1099511627776)) :
    FnT Tryz.prog C 112 #[n6 at_] [] (fun rv_ rL_ => rv_ = n6 (512 - at_ % 512) ∧ rL_ = []) := by
  replace h0 := h0.h
  refine fE 6 Tryz.func112 rfl ?_
  refine cQ [] (True) [(0, n6 at_)] (trivial) ?_
  refine cQ [(2, .nat)] ((0 ≤ (at_ : Int) ∧ (0 : Int) < (512 : Int)) ∧ (0 ≤ ((at_ % 512 : Nat) : Int) ∧ ((at_ % 512 : Nat) : Int) ≤ (512 : Int) ∧ (512 : Int) ≤ IntKind.max .i64)) [(2, n6 (512 - (at_ % 512)))] (⟨⟨by omega, by omega⟩, ⟨by omega, by omega, by have := (show IntKind.max .i64 = 9223372036854775807 from rfl); omega⟩⟩) ?_
  refine cd_ret (bot_ret (rv [n6 (512 - (at_ % 512))] (n6 (512 - (at_ % 512))) ?_))
  refine ⟨?_, rfl⟩
  all_goals first | with_reducible rfl | (skip; done) | with_reducible assumption | omega | rfl | (simp_all; done) | (simp_all; omega)

set_option maxRecDepth 100000 in
theorem room_any (C : Ctx) (at_ : Nat) (h0 : Ok (at_ ≤ 1099511627776)) :
    FnT Tryz.prog C 63 #[n6 at_] [] (fun rv_ rL_ => rv_ = n6 (512 - at_ % 512) ∧ rL_ = []) := by
  replace h0 := h0.h
  refine fE 6 Tryz.func63 rfl ?_
  refine cQ [] (True) [(0, n6 at_)] (trivial) ?_
  refine cQ [(2, .nat)] ((0 ≤ (at_ : Int) ∧ (0 : Int) < (512 : Int)) ∧ (0 ≤ ((at_ % 512 : Nat) : Int) ∧ ((at_ % 512 : Nat) : Int) ≤ (512 : Int) ∧ (512 : Int) ≤ IntKind.max .i64)) [(2, n6 (512 - (at_ % 512)))] (⟨⟨by omega, by omega⟩, ⟨by omega, by omega, by have := (show IntKind.max .i64 = 9223372036854775807 from rfl); omega⟩⟩) ?_
  refine cd_ret (bot_ret (rv [n6 (512 - (at_ % 512))] (n6 (512 - (at_ % 512))) ?_))
  refine ⟨?_, rfl⟩
  all_goals first | with_reducible rfl | (skip; done) | with_reducible assumption | omega | rfl | (simp_all; done) | (simp_all; omega)

set_option maxRecDepth 100000 in
theorem pad_any (C : Ctx) (at_ : Nat) (h0 : Ok (at_ ≤ 1099511627776)) :
    FnT Tryz.prog C 110 #[n6 at_] [] (fun rv_ rL_ => rv_ = n6 (padN at_) ∧ rL_ = []) := by
  replace h0 := h0.h
  refine fE 9 Tryz.func110 rfl ?_
  refine cQ [] (True) [(0, n6 at_)] (trivial) ?_
  refine cd_seq ?_
  refine cd_rg ?_
  refine rQ [] [0] [1, 2] (True) [(4, n6 at_)] (trivial) ?_
  refine rC 1 [2] [] [] (left_any C at_ {}) ?_
  rintro _ _ ⟨rfl, rfl⟩
  refine rQ [] [2] [] (True) [(3, n6 (512 - at_ % 512))] (trivial) ?_
  refine rF ?_
  refine cQ [] (True) [(3, n6 (512 - at_ % 512)), (7, .bool (decide (((512 - at_ % 512 : Nat) : Int) < 7)))] (trivial) ?_
  refine cI (decide (((512 - at_ % 512 : Nat) : Int) < 7)) (fun h1 => ?_) (fun h1 => ?_)
  · have h1p : ((512 - at_ % 512 : Nat) : Int) < 7 := by simpa using h1
    refine cQ [] (True) [(2, n6 (512 - at_ % 512))] (trivial) ?_
    refine cd_ret (then_ret (bot_ret (rv [n6 (512 - at_ % 512)] (n6 (512 - at_ % 512)) ?_)))
    refine ⟨?_, rfl⟩
    all_goals first | with_reducible rfl | (rw [padN, if_pos (by omega)]; done) | (rw [padN, if_neg (by omega)]; rfl; done) | with_reducible assumption | omega | rfl | (simp_all; done) | (simp_all; omega)
  · have h1p : ¬ (((512 - at_ % 512 : Nat) : Int) < 7) := by simpa using h1
    refine cd_skip (then_n ?_)
    refine cQ [] (True) [(2, z6 0)] (trivial) ?_
    refine cd_ret (bot_ret (rv [z6 0] (z6 0) ?_))
    refine ⟨?_, rfl⟩
    all_goals first | with_reducible rfl | (rw [padN, if_pos (by omega)]; done) | (rw [padN, if_neg (by omega)]; rfl; done) | with_reducible assumption | omega | rfl | (simp_all; done) | (simp_all; omega)

set_option maxRecDepth 100000 in
theorem kind_any (C : Ctx) (x : Bool) (y : Bool) :
    FnT Tryz.prog C 114 #[.bool x, .bool y] [] (fun rv_ rL_ => rv_ = u1 (if x && y then 1 else if x then 2 else if y then 4 else 3) ∧ rL_ = []) := by
  refine fE 14 Tryz.func114 rfl ?_
  refine cQ [] (True) [(0, .bool x), (1, .bool y)] (trivial) ?_
  refine cd_seq ?_
  refine cd_block ?_
  refine cd_rg ?_
  refine rQ [] [0, 1] [2, 3, 4] (True) [(0, .bool x), (1, .bool y), (7, .bool x)] (trivial) ?_
  refine rg_join2 [4] [(0, .bool x), (1, .bool y), (9, .bool (x && y))] [] (fun hj => ?_) ?_
  · refine rI 7 x (fun g1 => ?_) (fun g1 => ?_)
    · skip
      refine rQ [] [2, 3] [4] (True) [(0, .bool x), (1, .bool y), (9, .bool y)] (trivial) ?_
      refine rP 9 (.bool y) (.bool (x && y)) (by first | (rw [show x = true from g1]; done) | (rw [show x = true from g1]; rfl)) ?_
      exact rM hj
    · skip
      refine rQ [] [2, 3] [4] (True) [(0, .bool x), (1, .bool y), (9, .bool false)] (trivial) ?_
      refine rP 9 (.bool false) (.bool (x && y)) (by first | (rw [show x = false from g1]; done) | (rw [show x = false from g1]; rfl)) ?_
      exact rM hj
  refine rQ [] [4] [] (True) [(0, .bool x), (1, .bool y), (5, .bool (x && y))] (trivial) ?_
  refine rF ?_
  refine cI (x && y) (fun h1 => ?_) (fun h1 => ?_)
  · have h1p : (x = true) ∧ (y = true) := by first | (simpa using h1; done) | (intro hx; rw [hx] at h1; simp at h1) | (intro hx; rw [Bool.not_eq_true] at hx; rw [hx] at h1; simp at h1)
    refine cQ [] (True) [(4, .int .u8 1)] (trivial) ?_
    refine cd_ret (block_ret (then_ret (bot_ret (rv [.int .u8 1] (.int .u8 1) ?_))))
    refine ⟨?_, rfl⟩
    all_goals first | with_reducible rfl | (skip; done) | with_reducible assumption | omega | rfl | (simp_all; done) | (simp_all; omega)
  · have h1p : ¬ ((x = true) ∧ (y = true)) := by first | (simpa using h1; done) | (intro hx; rw [hx] at h1; simp at h1) | (intro hx; rw [Bool.not_eq_true] at hx; rw [hx] at h1; simp at h1)
    refine cQ [] (True) [(1, .bool y), (10, .bool x)] (trivial) ?_
    refine cI x (fun h2 => ?_) (fun h2 => ?_)
    · have h2p : x = true := by first | (simpa using h2; done) | (intro hx; rw [hx] at h2; simp at h2) | (intro hx; rw [Bool.not_eq_true] at hx; rw [hx] at h2; simp at h2)
      refine cQ [] (True) [(4, .int .u8 2)] (trivial) ?_
      refine cd_ret (block_ret (then_ret (bot_ret (rv [.int .u8 2] (.int .u8 2) ?_))))
      refine ⟨?_, rfl⟩
      all_goals first | with_reducible rfl | (skip; done) | with_reducible assumption | omega | rfl | (simp_all; done) | (simp_all; omega)
    · have h2p : ¬ (x = true) := by first | (simpa using h2; done) | (intro hx; rw [hx] at h2; simp at h2) | (intro hx; rw [Bool.not_eq_true] at hx; rw [hx] at h2; simp at h2)
      refine cQ [] (True) [(12, .bool y)] (trivial) ?_
      refine cI y (fun h3 => ?_) (fun h3 => ?_)
      · have h3p : y = true := by first | (simpa using h3; done) | (intro hx; rw [hx] at h3; simp at h3) | (intro hx; rw [Bool.not_eq_true] at hx; rw [hx] at h3; simp at h3)
        refine cQ [] (True) [(4, .int .u8 4)] (trivial) ?_
        refine cd_ret (block_ret (then_ret (bot_ret (rv [.int .u8 4] (.int .u8 4) ?_))))
        refine ⟨?_, rfl⟩
        all_goals first | with_reducible rfl | (skip; done) | with_reducible assumption | omega | rfl | (simp_all; done) | (simp_all; omega)
      · have h3p : ¬ (y = true) := by first | (simpa using h3; done) | (intro hx; rw [hx] at h3; simp at h3) | (intro hx; rw [Bool.not_eq_true] at hx; rw [hx] at h3; simp at h3)
        refine cd_skip (block_n (then_n ?_))
        refine cQ [] (True) [(4, .int .u8 3)] (trivial) ?_
        refine cd_ret (bot_ret (rv [.int .u8 3] (.int .u8 3) ?_))
        refine ⟨?_, rfl⟩
        all_goals first | with_reducible rfl | (skip; done) | with_reducible assumption | omega | rfl | (simp_all; done) | (simp_all; omega)

set_option maxRecDepth 100000 in
theorem copyCheck_new (C : Ctx) (b : Nat) (v : Value) :
    FnT Tryz.prog C 155 #[p0 b] [bk b 191 #[.pointer none, v]] (fun rv_ rL_ => rv_ = .tuple #[] ∧ rL_ = [bk b 191 #[p0 b, v]]) := by
  refine fE 20 Tryz.func155 rfl ?_
  refine cQ [(3, .at 0)] ((b = b)) [(0, p0 b), (6, .bool true)] (rfl) ?_
  refine cYes ?_
  refine cd_region ?_
  refine rQ [] [0, 1] [2, 3, 4, 5, 6, 7] (True) [(7, p0 b), (8, p0 b)] (trivial) ?_
  refine rX 2 [3, 4, 5, 6, 7] (do pure (.value (← convert 188 281 (p0 b)))) [0] [bk b 191 #[.pointer none, v]] [] (gv_to_unsafe (by kernel_rfl) (by simp)) ?_
  rintro _ _ ⟨rfl, rfl⟩
  refine rQ [] [3] [4, 5, 6, 7] (True) [(7, p0 b), (10, p0 b)] (trivial) ?_
  refine rX 4 [5, 6, 7] (do pure (.value (← convert 281 188 (p0 b)))) [0] [bk b 191 #[.pointer none, v]] [] (gv_from_unsafe (n := 2) rfl (by kernel_rfl)) ?_
  rintro _ _ ⟨rfl, rfl⟩
  refine rS [(7, .at 0)] [5, 6, 7] [] ((b = b)) [] [bk b 191 #[p0 b, v]] (rfl) ?_
  refine rg_nil ?_
  refine (bot_n (rv [] (.tuple #[]) ?_))
  refine ⟨?_, rfl⟩
  all_goals first | with_reducible rfl | (skip; done) | with_reducible assumption | omega | rfl | (simp_all; done) | (simp_all; omega)

set_option maxRecDepth 100000 in
theorem copyCheck_old (C : Ctx) (b : Nat) (v : Value) :
    FnT Tryz.prog C 155 #[p0 b] [bk b 191 #[p0 b, v]] (fun rv_ rL_ => rv_ = .tuple #[] ∧ rL_ = [bk b 191 #[p0 b, v]]) := by
  refine fE 20 Tryz.func155 rfl ?_
  refine cQ [(3, .at 0)] ((b = b)) [(0, p0 b), (6, .bool false)] (rfl) ?_
  refine cNo ?_
  refine cd_rg ?_
  refine rQ [(3, .at 0)] [0, 1, 2, 3, 4] [5] ((b = b)) [(17, p0 b), (18, p0 b)] (rfl) ?_
  refine rX 5 [] (do pure (.value (← binOp .neq 188 (p0 b) (p0 b)))) [] [] [bk b 191 #[p0 b, v]] (gv_neq_same (by kernel_rfl)) ?_
  rintro _ _ ⟨rfl, rfl⟩
  refine rD [(19, .bool false)] ?_
  refine cNo ?_
  refine cd_skip (bot_n (rv [] (.tuple #[]) ?_))
  refine ⟨?_, rfl⟩
  all_goals first | with_reducible rfl | (skip; done) | with_reducible assumption | omega | rfl | (simp_all; done) | (simp_all; omega)

theorem copyCheck_any (C : Ctx) (b : Nat) (p v : Value) (hp : p = .pointer none ∨ p = .pointer (some ⟨b, 0, none⟩)) :
    FnT Tryz.prog C 155 #[.pointer (some ⟨b, 0, none⟩)] [[(b, .cells #[p, v] 191 (0, 0))]] (fun r L => r = .tuple #[] ∧ L = [[(b, .cells #[.pointer (some ⟨b, 0, none⟩), v] 191 (0, 0))]]) := by
  rcases hp with rfl | rfl
  · exact copyCheck_new C b v
  · exact copyCheck_old C b v

set_option maxRecDepth 100000 in
theorem writeString_raw (C : Ctx) (b : Nat) (p : Value) (a : Option Addr) (cap : Nat) (l : List UInt8) (s : List UInt8) (L : Blks) (hL : Row 5 1 a l.length cap (u8s l) L) (hp : Ok (p = .pointer none ∨ p = .pointer (some ⟨b, 0, none⟩))) (h47 : Ok (l.length + s.length ≤ 140737488355328)) :
    FnT Tryz.prog C 105 #[p0 b, str s] [bk b 191 #[p, .slice a l.length cap], L] (fun rv_ rL_ => ∃ a1 : Option Addr, ∃ cap1 : Nat, ∃ L1 : Blks, (Row 5 1 a1 (l.length + s.length) cap1 (u8s l ++ u8s s) L1) ∧ rv_ = .tuple #[n6 s.length, .nilIface] ∧ rL_ = [bk b 191 #[p0 b, .slice a1 (l.length + s.length) cap1], L1]) := by
  replace hp := hp.h
  replace h47 := h47.h
  refine fE 19 Tryz.func105 rfl ?_
  refine cQ [] (True) [(0, p0 b), (1, str s)] (trivial) ?_
  refine cd_rg ?_
  refine rQ [] [0] [1] (True) [(0, p0 b), (1, str s), (6, p0 b)] (trivial) ?_
  refine rC 1 [] [0] [L] (copyCheck_any C b p (.slice a l.length cap) (Ok.h {})) ?_
  rintro _ _ ⟨rfl, rfl⟩
  refine rD [(0, p0 b), (1, str s)] ?_
  refine cd_rg ?_
  refine rQ [(4, .at 0)] [0, 1, 2, 3, 4, 5] [6, 7, 8, 9] ((b = b)) [(1, str s), (8, p0 b), (12, .slice a l.length cap), (13, str s)] (rfl) ?_
  refine rX 6 [7, 8, 9] (do pure (.value (← Builtin.append_ #[189, 9] 189 #[.slice a l.length cap, str s]))) [1] [L] [bk b 191 #[p0 b, .slice a l.length cap]] (gv_appends (bytes := 1) s 189 (by kernel_rfl) hL (by first | omega | (simp at *; omega)) (by first | omega | (simp at *; omega))) ?_
  rintro _ _ ⟨a1, cap1, L1, rfl, rfl, (h1 : Row 5 1 a1 (l.length + s.length) cap1 ((u8s l) ++ u8s s) L1)⟩
  refine rS [(9, .at 1)] [7, 8, 9] [] ((b = b)) [(1, str s)] [L1, bk b 191 #[p0 b, .slice a1 (l.length + s.length) cap1]] (rfl) ?_
  refine rF ?_
  refine cQ [] (True) [(4, n6 s.length), (5, .nilIface)] (trivial) ?_
  refine cT [1, 0] [bk b 191 #[p0 b, .slice a1 (l.length + s.length) cap1], L1] ?_
  refine cd_ret (bot_ret (rv [n6 s.length, .nilIface] (.tuple #[n6 s.length, .nilIface]) ?_))
  refine ⟨a1, cap1, L1, h1, ?_, rfl⟩
  all_goals first | with_reducible rfl | (skip; done) | with_reducible assumption | omega | rfl | (simp_all; done) | (simp_all; omega)

theorem writeString_any (C : Ctx) (b : Nat) (l s : List UInt8) (L : Blks) (hL : BldL b l L) (h47 : l.length + s.length ≤ 140737488355328) :
    FnT Tryz.prog C 105 #[.pointer (some ⟨b, 0, none⟩), str s] [L] (fun v L' => ∃ L1, BldL b (l ++ s) L1 ∧ v = .tuple #[.int .i64 (s.length : Int), .nilIface] ∧ L' = [L1]) := by
  obtain ⟨p, a, cap, Lr, hp, hr, rfl⟩ := hL
  intro w F hw
  refine (writeString_raw C b p a cap l s Lr hr ⟨hp⟩ ⟨h47⟩ w F (by simpa using hw)).mono ?_
  rintro e w' ⟨v, L', rfl, ho, a1, cap1, L1, h1, rfl, rfl⟩
  refine ⟨_, [(b, .cells #[.pointer (some ⟨b, 0, none⟩), .slice a1 (l ++ s).length cap1] 191 (0, 0)) :: L1], rfl, ?_, _, ⟨_, a1, cap1, L1, .inr rfl, ?_, rfl⟩, rfl, rfl⟩
  · simpa using ho
  · rw [u8s_append, List.length_append]; exact h1

set_option maxRecDepth 100000 in
theorem string_raw (C : Ctx) (b : Nat) (p : Value) (a : Option Addr) (cap : Nat) (l : List UInt8) (L : Blks) (hL : Row 5 1 a l.length cap (u8s l) L) (h63 : Ok (l.length ≤ 9223372036854775807)) :
    FnT Tryz.prog C 109 #[p0 b] [bk b 191 #[p, .slice a l.length cap], L] (fun rv_ rL_ => ∃ L1 : Blks, (Row 5 1 a l.length cap (u8s l) L1) ∧ rv_ = str l ∧ rL_ = [bk b 191 #[p, .slice a l.length cap], L1]) := by
  replace h63 := h63.h
  refine fE 14 Tryz.func109 rfl ?_
  refine cQ [] (True) [(0, p0 b)] (trivial) ?_
  refine dr [bk b 191 #[p, .slice a l.length cap]] [L] [1] 12 ?_
  refine aS [(3, .at 0), (8, .at 0)] [0, 5, 1, 6, 2, 7, 3, 8, 9] ((b = b) ∧ (b = b)) [(6, .slice a l.length cap), (12, n6 l.length)] (bm 12 1007) 3 (⟨rfl, rfl⟩) ?_
  refine aI (i := 4) ?_
  refine xX (do pure (.value (← Builtin.unsafeSliceData_ #[189] 234 #[.slice a l.length cap]))) [0] [L] [] [7, 12] (bm 12 1023) (gv_data _ _ hL) ?_
  rintro _ _ ⟨rfl, rfl⟩
  refine aI (i := 10) ?_
  refine xX (do pure (.value (← Builtin.unsafeString_ #[234, 3] 9 #[.pointer a, n6 l.length]))) [0] [L] [] [13] (bm 12 2047) (gv_string l _ (by kernel_rfl) (by kernel_rfl) hL (by omega)) ?_
  rintro _ _ ⟨L1, rfl, rfl, h1⟩
  refine aS [] [11] (True) [(2, str l)] (bm 12 4095) 0 (trivial) ?_
  refine aE [(2, str l)] [bk b 191 #[p, .slice a l.length cap], L1] ?_
  refine cd_ret (bot_ret (rv [str l] (str l) ?_))
  refine ⟨L1, h1, ?_, rfl⟩
  all_goals first | with_reducible rfl | (skip; done) | with_reducible assumption | omega | rfl | (simp_all; done) | (simp_all; omega)

theorem string_any (C : Ctx) (b : Nat) (l : List UInt8) (L : Blks) (hL : BldL b l L) (h63 : l.length ≤ 9223372036854775807) :
    FnT Tryz.prog C 109 #[.pointer (some ⟨b, 0, none⟩)] [L] (fun v L' => ∃ L1, BldL b l L1 ∧ v = str l ∧ L' = [L1]) := by
  obtain ⟨p, a, cap, Lr, hp, hr, rfl⟩ := hL
  intro w F hw
  refine (string_raw C b p a cap l Lr hr ⟨h63⟩ w F (by simpa using hw)).mono ?_
  rintro e w' ⟨v, L', rfl, ho, L1, h1, rfl, rfl⟩
  exact ⟨_, [(b, .cells #[p, .slice a l.length cap] 191 (0, 0)) :: L1], rfl, by simpa using ho, _, ⟨_, a, cap, L1, hp, h1, rfl⟩, rfl, rfl⟩

set_option maxRecDepth 100000 in
theorem blen_raw (C : Ctx) (b : Nat) (p : Value) (a : Option Addr) (cap : Nat) (l : List UInt8) (L : Blks) (hL : Row 5 1 a l.length cap (u8s l) L) :
    FnT Tryz.prog C 160 #[p0 b] [bk b 191 #[p, .slice a l.length cap], L] (fun rv_ rL_ => rv_ = n6 l.length ∧ rL_ = [bk b 191 #[p, .slice a l.length cap], L]) := by
  refine fE 8 Tryz.func160 rfl ?_
  refine cQ [] (True) [(0, p0 b)] (trivial) ?_
  refine cQ [(3, .at 0)] ((b = b)) [(2, n6 l.length)] (rfl) ?_
  refine cd_ret (bot_ret (rv [n6 l.length] (n6 l.length) ?_))
  refine ⟨?_, rfl⟩
  all_goals first | with_reducible rfl | (skip; done) | with_reducible assumption | omega | rfl | (simp_all; done) | (simp_all; omega)

theorem blen_any (C : Ctx) (b : Nat) (l : List UInt8) (L : Blks) (hL : BldL b l L) :
    FnT Tryz.prog C 160 #[.pointer (some ⟨b, 0, none⟩)] [L] (fun v L' => v = .int .i64 (l.length : Int) ∧ L' = [L]) := by
  obtain ⟨p, a, cap, Lr, hp, hr, rfl⟩ := hL
  intro w F hw
  refine (blen_raw C b p a cap l Lr hr w F (by simpa using hw)).mono ?_
  rintro e w' ⟨v, L', rfl, ho, rfl, rfl⟩
  exact ⟨_, [(b, .cells #[p, .slice a l.length cap] 191 (0, 0)) :: Lr], rfl, by simpa using ho, rfl, rfl⟩
end Go.Proofs
