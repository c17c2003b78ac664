/- Walks: WalReads. No condition. -/
import Derived.Test.YtooncojgfdcjeaaGreatDoorL1
import Derived.Test.YtooncojgfdcjeaaGreatDoorProg
namespace Go.Proofs
open Go Go.Sep
theorem ex_name : nameF [108] 3 = [108, 45, 51] := by kernel_rfl
theorem ex_row (b : Nat) : Row 107 3 (some ⟨b, 0, none⟩) exChg.length 1 (exChg.flatMap chg) (bk b 107 #[z6 1, str [97], str []]) :=
  .inr ⟨b, [], (0, 0), rfl, by decide, rfl, rfl, Nat.zero_le _, rfl⟩
theorem ex_key : ∀ x ∈ exChg, x.key.length ≤ 1099511627776 ∧ x.val.length ≤ 1099511627776 := by
  intro x hx; simp only [exChg, List.mem_singleton] at hx; subst hx; decide
theorem ex_used : usedF [([108, 45, 51], ⟨[], 0⟩)] ≤ 1099511627776 := by decide
theorem ex_rec : exRec.length = 20 := by kernel_rfl
theorem ex_load {bs : List Bt} {e : Nat} (h1 : bs.map Bt.bat = if e = 0 then batches (Dsk.read ⟨[([108, 45, 51], ⟨exRec, 20⟩)], 1000, 3, -1, -1, false⟩ (nameF [108] 3)).1 else []) (h2 : (Dsk.read ⟨[([108, 45, 51], ⟨exRec, 20⟩)], 1000, 3, -1, -1, false⟩ (nameF [108] 3)).2 = e) : e = 0 ∧ ∃ x : Bt, bs = [x] ∧ x.seq = 1 := by
  rw [ex_read] at h1 h2
  have he : e = 0 := h2.symm
  rw [if_pos he, ex_batches] at h1
  exact ⟨he, ex_one h1⟩

set_option maxRecDepth 100000 in
theorem awake16_any (C : Ctx)  :
    FnT Tryz.prog C 9 #[] [] (fun rv_ rL_ => rv_ = .bool true ∧ rL_ = []) := by
  refine fE 60 Tryz.func9 rfl ?_
  refine cQ [] (True) [] (trivial) ?_
  refine cd_rg ?_
  refine rQ [] [] [0, 1, 2, 3, 4, 5] (True) [] (trivial) ?_
  refine rC 0 [1, 2, 3, 4, 5] [] [] (dnew_any C 1000 ⟨by first | (exact ex_key; done) | (exact ex_used; done) | (exact fun k => one_file k (by decide); done) | (exact fun k => one_file k (by rw [ex_rec]; decide); done) | (kernel_rfl; done) | (decide; done) | exact Ok.h {}⟩) ?_
  rintro _ _ ⟨d1, m1, L1_1, h1, rfl, rfl⟩
  refine rQ [] [1, 2, 3, 4, 5] [] (True) [(1, p0 d1)] (trivial) ?_
  refine rF ?_
  refine cd_rg ?_
  refine rQ [] [0] [1, 2, 3, 4, 5, 6] (True) [(1, p0 d1), (13, p0 d1)] (trivial) ?_
  refine rC 1 [2, 3, 4, 5, 6] [0, 0] [] (walCreate_any C d1 m1 [] 1000 0 (-1) (-1) false 3 L1_1 h1 ⟨by first | (exact ex_key; done) | (exact ex_used; done) | (exact fun k => one_file k (by decide); done) | (exact fun k => one_file k (by rw [ex_rec]; decide); done) | (kernel_rfl; done) | (decide; done) | exact Ok.h {}⟩ ⟨by first | (exact ex_key; done) | (exact ex_used; done) | (exact fun k => one_file k (by decide); done) | (exact fun k => one_file k (by rw [ex_rec]; decide); done) | (kernel_rfl; done) | (decide; done) | exact Ok.h {}⟩ ⟨by first | (exact ex_key; done) | (exact ex_used; done) | (exact fun k => one_file k (by decide); done) | (exact fun k => one_file k (by rw [ex_rec]; decide); done) | (kernel_rfl; done) | (decide; done) | exact Ok.h {}⟩ ⟨by first | (exact ex_key; done) | (exact ex_used; done) | (exact fun k => one_file k (by decide); done) | (exact fun k => one_file k (by rw [ex_rec]; decide); done) | (kernel_rfl; done) | (decide; done) | exact Ok.h {}⟩ ⟨by first | (exact ex_key; done) | (exact ex_used; done) | (exact fun k => one_file k (by decide); done) | (exact fun k => one_file k (by rw [ex_rec]; decide); done) | (kernel_rfl; done) | (decide; done) | exact Ok.h {}⟩ ⟨by first | (exact ex_key; done) | (exact ex_used; done) | (exact fun k => one_file k (by decide); done) | (exact fun k => one_file k (by rw [ex_rec]; decide); done) | (kernel_rfl; done) | (decide; done) | exact Ok.h {}⟩) ?_
  rintro _ _ ⟨lb1, fs1_1, st1_1, fu1_1, fa1_1, dn1_1, L1_2, h2, hf1, rfl, rfl⟩
  refine rQ [] [2, 3, 4, 5, 6] [] (True) [(1, p0 d1), (3, p0 lb1), (4, z6 0)] (trivial) ?_
  refine rF ?_
  refine cd_seq ?_
  obtain ⟨-, rfl, rfl, rfl, rfl, rfl⟩ := dk_eq hf1 ex_create
  refine cd_rg ?_
  refine rQ [] [0, 1, 2, 3, 4, 5, 6] [7, 8, 9] (True) [(1, p0 d1), (3, p0 lb1), (23, .bool false)] (trivial) ?_
  refine rC 7 [8, 9] [] [bk lb1 126 #[p0 d1, str (nameF [108] 3), z6 0, .int .u64 0, .bool false], bk d1 123 #[.map (some m1), z6 1000, z6 1, z6 (-1), z6 (-1), .bool false], L1_2] (awake05 C) ?_
  rintro _ _ ⟨rfl, rfl⟩
  refine rQ [] [8, 9] [] (True) [(1, p0 d1), (3, p0 lb1), (26, .bool false)] (trivial) ?_
  refine rF ?_
  refine cNo ?_
  refine cd_skip (then_n ?_)
  refine cd_rg ?_
  refine rQ [] [0, 1] [2, 3, 4, 5] (True) [(1, p0 d1), (3, p0 lb1), (27, p0 lb1), (28, .agg #[z6 1, str [97], str []])] (trivial) ?_
  refine rN 2 [3, 4, 5] (.cells #[z6 1, str [97], str []] 107 (0, 0)) (fun b1 => .slice (some ⟨b1, 0, none⟩) exChg.length 1) (fun b1 => ?_)
  refine rQ [] [3] [4, 5] (True) [(1, p0 d1), (3, p0 lb1), (27, p0 lb1), (30, .agg #[.int .u64 1, .slice (some ⟨b1, 0, none⟩) exChg.length 1])] (trivial) ?_
  refine rC 4 [5] [0, 0, 0, 0] [] (walAdd_any C lb1 (nameF [108] 3) 0 0 false d1 m1 [([108, 45, 51], ⟨[], 0⟩)] 1000 1 (-1) (-1) false 1 1 L1_2 (bk b1 107 #[z6 1, str [97], str []]) (some ⟨b1, 0, none⟩) exChg h2 (SeesL.mono (Row.seesL (C := C) (l := exChg) (enc := chg) (ex_row b1) rfl rfl (fun _ => rfl) (by decide)) (by intro p hp; first | exact hp | simp [hp])) ⟨by first | (exact ex_key; done) | (exact ex_used; done) | (exact fun k => one_file k (by decide); done) | (exact fun k => one_file k (by rw [ex_rec]; decide); done) | (kernel_rfl; done) | (decide; done) | exact Ok.h {}⟩ ⟨by first | (exact ex_key; done) | (exact ex_used; done) | (exact fun k => one_file k (by decide); done) | (exact fun k => one_file k (by rw [ex_rec]; decide); done) | (kernel_rfl; done) | (decide; done) | exact Ok.h {}⟩ ⟨by first | (exact ex_key; done) | (exact ex_used; done) | (exact fun k => one_file k (by decide); done) | (exact fun k => one_file k (by rw [ex_rec]; decide); done) | (kernel_rfl; done) | (decide; done) | exact Ok.h {}⟩ ⟨by first | (exact ex_key; done) | (exact ex_used; done) | (exact fun k => one_file k (by decide); done) | (exact fun k => one_file k (by rw [ex_rec]; decide); done) | (kernel_rfl; done) | (decide; done) | exact Ok.h {}⟩ ⟨by first | (exact ex_key; done) | (exact ex_used; done) | (exact fun k => one_file k (by decide); done) | (exact fun k => one_file k (by rw [ex_rec]; decide); done) | (kernel_rfl; done) | (decide; done) | exact Ok.h {}⟩ ⟨by first | (exact ex_key; done) | (exact ex_used; done) | (exact fun k => one_file k (by decide); done) | (exact fun k => one_file k (by rw [ex_rec]; decide); done) | (kernel_rfl; done) | (decide; done) | exact Ok.h {}⟩ ⟨by first | (exact ex_key; done) | (exact ex_used; done) | (exact fun k => one_file k (by decide); done) | (exact fun k => one_file k (by rw [ex_rec]; decide); done) | (kernel_rfl; done) | (decide; done) | exact Ok.h {}⟩ ⟨by first | (exact ex_key; done) | (exact ex_used; done) | (exact fun k => one_file k (by decide); done) | (exact fun k => one_file k (by rw [ex_rec]; decide); done) | (kernel_rfl; done) | (decide; done) | exact Ok.h {}⟩ ⟨by first | (exact ex_key; done) | (exact ex_used; done) | (exact fun k => one_file k (by decide); done) | (exact fun k => one_file k (by rw [ex_rec]; decide); done) | (kernel_rfl; done) | (decide; done) | exact Ok.h {}⟩ ⟨by first | (exact ex_key; done) | (exact ex_used; done) | (exact fun k => one_file k (by decide); done) | (exact fun k => one_file k (by rw [ex_rec]; decide); done) | (kernel_rfl; done) | (decide; done) | exact Ok.h {}⟩) ?_
  rintro _ _ ⟨e1, long1_1, nx1_1, br1_1, fs1_2, st1_2, fu1_2, fa1_2, dn1_2, L1_3, h3, hf2, rfl, rfl⟩
  refine rQ [] [5] [] (True) [(1, p0 d1), (3, p0 lb1), (5, n6 e1)] (trivial) ?_
  refine rF ?_
  obtain ⟨rfl, rfl, rfl, rfl, rfl, rfl, rfl, rfl, rfl⟩ := lg_eq hf2 ex_add
  refine cd_rg ?_
  refine rQ [] [0] [1, 2, 3, 4, 5, 6] (True) [(3, p0 lb1), (5, z6 0), (33, p0 d1)] (trivial) ?_
  refine rC 1 [2, 3, 4, 5, 6] [1, 1] [bk lb1 126 #[p0 d1, str (nameF [108] 3), z6 20, .int .u64 2, .bool false], bk b1 107 #[z6 1, str [97], str []]] (walLoad_any C d1 m1 [([108, 45, 51], ⟨exRec, 20⟩)] 1000 3 (-1) (-1) false 3 L1_3 h3 ⟨by first | (exact ex_key; done) | (exact ex_used; done) | (exact fun k => one_file k (by decide); done) | (exact fun k => one_file k (by rw [ex_rec]; decide); done) | (kernel_rfl; done) | (decide; done) | exact Ok.h {}⟩ ⟨by first | (exact ex_key; done) | (exact ex_used; done) | (exact fun k => one_file k (by decide); done) | (exact fun k => one_file k (by rw [ex_rec]; decide); done) | (kernel_rfl; done) | (decide; done) | exact Ok.h {}⟩) ?_
  rintro _ _ ⟨bs1, a1, cap1, Lr1, LB1_1, e2, h4, h5, hf3, hf4, rfl, rfl⟩
  refine rQ [] [2, 3, 4, 5, 6] [] (True) [(3, p0 lb1), (5, z6 0), (6, .slice a1 bs1.length cap1), (7, n6 e2)] (trivial) ?_
  refine rF ?_
  obtain ⟨rfl, x9, rfl, hx9⟩ := ex_load hf3 hf4
  refine cd_rg ?_
  refine rQ [] [0] [1, 2, 3, 4, 5, 6, 7, 8, 9, 10, 11, 12, 13, 14, 15, 16, 17, 18, 19, 20, 21, 22, 23] (True) [(5, z6 0), (6, .slice a1 ([x9].length) cap1), (7, z6 0), (37, p0 lb1)] (trivial) ?_
  refine rC 1 [2, 3, 4, 5, 6, 7, 8, 9, 10, 11, 12, 13, 14, 15, 16, 17, 18, 19, 20, 21, 22, 23] [4] [Lr1, LB1_1, bk d1 123 #[.map (some m1), z6 1000, z6 3, z6 (-1), z6 (-1), .bool false], L1_3, bk b1 107 #[z6 1, str [97], str []]] (walName_any C lb1 d1 (nameF [108] 3) (z6 20) (.int .u64 2) (.bool false)) ?_
  rintro _ _ ⟨rfl, rfl⟩
  refine rQ [] [2, 3] [4, 5, 6, 7, 8, 9, 10, 11, 12, 13, 14, 15, 16, 17, 18, 19, 20, 21, 22, 23] (True) [(5, z6 0), (6, .slice a1 ([x9].length) cap1), (7, z6 0), (40, .bool ((nameF [108] 3) == [108, 45, 51]))] (trivial) ?_
  refine rg_join2 [7, 8, 9, 10, 11, 12, 13, 14, 15, 16, 17, 18, 19, 20, 21, 22, 23] [(6, .slice a1 ([x9].length) cap1), (7, z6 0), (43, .bool ((nameF [108] 3) == [108, 45, 51]))] [bk lb1 126 #[p0 d1, str (nameF [108] 3), z6 20, .int .u64 2, .bool false], Lr1, LB1_1, bk d1 123 #[.map (some m1), z6 1000, z6 3, z6 (-1), z6 (-1), .bool false], L1_3, bk b1 107 #[z6 1, str [97], str []]] (fun hj => ?_) ?_
  · refine rI 40 ((nameF [108] 3) == [108, 45, 51]) (fun g1 => ?_) (fun g1 => ?_)
    · have g1p : (nameF [108] 3) = [108, 45, 51] := by simpa using g1
      refine rQ [] [4, 5, 6] [7, 8, 9, 10, 11, 12, 13, 14, 15, 16, 17, 18, 19, 20, 21, 22, 23] (True) [(6, .slice a1 ([x9].length) cap1), (7, z6 0), (43, .bool true)] (trivial) ?_
      refine rP 43 (.bool true) (.bool ((nameF [108] 3) == [108, 45, 51])) (by first | (rw [show ((nameF [108] 3) == [108, 45, 51]) = true from g1]; done) | (rw [show ((nameF [108] 3) == [108, 45, 51]) = true from g1]; rfl)) ?_
      exact rM hj
    · have g1p : ¬ ((nameF [108] 3) = [108, 45, 51]) := by simpa using g1
      refine rQ [] [4, 5, 6] [7, 8, 9, 10, 11, 12, 13, 14, 15, 16, 17, 18, 19, 20, 21, 22, 23] (True) [(6, .slice a1 ([x9].length) cap1), (7, z6 0), (43, .bool false)] (trivial) ?_
      refine rP 43 (.bool false) (.bool ((nameF [108] 3) == [108, 45, 51])) (by first | (rw [show ((nameF [108] 3) == [108, 45, 51]) = false from g1]; done) | (rw [show ((nameF [108] 3) == [108, 45, 51]) = false from g1]; rfl)) ?_
      exact rM hj
  refine rQ [] [7] [8, 9, 10, 11, 12, 13, 14, 15, 16, 17, 18, 19, 20, 21, 22, 23] (True) [(6, .slice a1 ([x9].length) cap1), (7, z6 0), (44, .bool ((nameF [108] 3) == [108, 45, 51]))] (trivial) ?_
  refine rg_join2 [11, 12, 13, 14, 15, 16, 17, 18, 19, 20, 21, 22, 23] [(6, .slice a1 ([x9].length) cap1), (47, .bool ((nameF [108] 3) == [108, 45, 51]))] [bk lb1 126 #[p0 d1, str (nameF [108] 3), z6 20, .int .u64 2, .bool false], Lr1, LB1_1, bk d1 123 #[.map (some m1), z6 1000, z6 3, z6 (-1), z6 (-1), .bool false], L1_3, bk b1 107 #[z6 1, str [97], str []]] (fun hj => ?_) ?_
  · refine rI 44 ((nameF [108] 3) == [108, 45, 51]) (fun g2 => ?_) (fun g2 => ?_)
    · have g2p : (nameF [108] 3) = [108, 45, 51] := by simpa using g2
      refine rQ [] [8, 9, 10] [11, 12, 13, 14, 15, 16, 17, 18, 19, 20, 21, 22, 23] (True) [(6, .slice a1 ([x9].length) cap1), (47, .bool true)] (trivial) ?_
      refine rP 47 (.bool true) (.bool ((nameF [108] 3) == [108, 45, 51])) (by first | (rw [show ((nameF [108] 3) == [108, 45, 51]) = true from g2]; done) | (rw [show ((nameF [108] 3) == [108, 45, 51]) = true from g2]; rfl)) ?_
      exact rM hj
    · have g2p : ¬ ((nameF [108] 3) = [108, 45, 51]) := by simpa using g2
      refine rQ [] [8, 9, 10] [11, 12, 13, 14, 15, 16, 17, 18, 19, 20, 21, 22, 23] (True) [(6, .slice a1 ([x9].length) cap1), (47, .bool false)] (trivial) ?_
      refine rP 47 (.bool false) (.bool ((nameF [108] 3) == [108, 45, 51])) (by first | (rw [show ((nameF [108] 3) == [108, 45, 51]) = false from g2]; done) | (rw [show ((nameF [108] 3) == [108, 45, 51]) = false from g2]; rfl)) ?_
      exact rM hj
  refine rQ [] [11] [12, 13, 14, 15, 16, 17, 18, 19, 20, 21, 22, 23] (True) [(6, .slice a1 ([x9].length) cap1), (48, .bool ((nameF [108] 3) == [108, 45, 51]))] (trivial) ?_
  refine rg_join2 [16, 17, 18, 19, 20, 21, 22, 23] [(6, .slice a1 ([x9].length) cap1), (52, .bool (((nameF [108] 3) == [108, 45, 51]) && ((([x9].length : Nat) : Int) == 1)))] [bk lb1 126 #[p0 d1, str (nameF [108] 3), z6 20, .int .u64 2, .bool false], Lr1, LB1_1, bk d1 123 #[.map (some m1), z6 1000, z6 3, z6 (-1), z6 (-1), .bool false], L1_3, bk b1 107 #[z6 1, str [97], str []]] (fun hj => ?_) ?_
  · refine rI 48 ((nameF [108] 3) == [108, 45, 51]) (fun g3 => ?_) (fun g3 => ?_)
    · have g3p : (nameF [108] 3) = [108, 45, 51] := by simpa using g3
      refine rQ [] [12, 13, 14, 15] [16, 17, 18, 19, 20, 21, 22, 23] (True) [(6, .slice a1 ([x9].length) cap1), (52, .bool ((([x9].length : Nat) : Int) == 1))] (trivial) ?_
      refine rP 52 (.bool ((([x9].length : Nat) : Int) == 1)) (.bool (((nameF [108] 3) == [108, 45, 51]) && ((([x9].length : Nat) : Int) == 1))) (by first | (rw [show ((nameF [108] 3) == [108, 45, 51]) = true from g3]; done) | (rw [show ((nameF [108] 3) == [108, 45, 51]) = true from g3]; rfl)) ?_
      exact rM hj
    · have g3p : ¬ ((nameF [108] 3) = [108, 45, 51]) := by simpa using g3
      refine rQ [] [12, 13, 14, 15] [16, 17, 18, 19, 20, 21, 22, 23] (True) [(6, .slice a1 ([x9].length) cap1), (52, .bool false)] (trivial) ?_
      refine rP 52 (.bool false) (.bool (((nameF [108] 3) == [108, 45, 51]) && ((([x9].length : Nat) : Int) == 1))) (by first | (rw [show ((nameF [108] 3) == [108, 45, 51]) = false from g3]; done) | (rw [show ((nameF [108] 3) == [108, 45, 51]) = false from g3]; rfl)) ?_
      exact rM hj
  refine rQ [] [16] [17, 18, 19, 20, 21, 22, 23] (True) [(6, .slice a1 ([x9].length) cap1), (53, .bool (((nameF [108] 3) == [108, 45, 51]) && ((([x9].length : Nat) : Int) == 1)))] (trivial) ?_
  refine rI 53 (((nameF [108] 3) == [108, 45, 51]) && ((([x9].length : Nat) : Int) == 1)) (fun g4 => ?_) (fun g4 => ?_)
  · have g4p : ((nameF [108] 3) = [108, 45, 51]) ∧ ((([x9].length : Nat) : Int) = 1) := by simpa using g4
    obtain ⟨b2, o1, ha1⟩ := ((Row.seesL (C := C) (l := [x9]) (enc := btv) h4 rfl rfl (fun _ => rfl) (by decide))).addr (by first | omega | (simp at *; omega))
    subst ha1
    obtain ⟨x1, hx1⟩ : ∃ x, [x9][0]? = some x := ⟨_, List.getElem?_eq_getElem (by first | omega | (simp at *; omega))⟩
    refine rQ [(20, .fact (u6 x1.seq))] [17, 18, 19, 20, 21, 22, 23] [] ((0 ≤ (0 : Int) ∧ (0 : Int) < ([x9].length : Int)) ∧ (HasLoad Tryz.prog C [bk lb1 126 #[p0 d1, str (nameF [108] 3), z6 20, .int .u64 2, .bool false], Lr1, LB1_1, bk d1 123 #[.map (some m1), z6 1000, z6 3, z6 (-1), z6 (-1), .bool false], L1_3, bk b1 107 #[z6 1, str [97], str []]] 29 ⟨b2, o1 + 0 * 2, none⟩ (u6 x1.seq))) [(0, .bool ((x1.seq : Int) == 1))] (⟨⟨by omega, by simp⟩, ((Row.seesL (C := C) (l := [x9]) (enc := btv) h4 rfl rfl (fun _ => rfl) (by decide))).cell (P := Tryz.prog) (by intro p hp; simp [hp]) 29 0 0 hx1 (by kernel_rfl) rfl⟩) ?_
    refine rF ?_
    refine cT [] [] ?_
    refine cd_ret (bot_ret (rv [.bool ((x1.seq : Int) == 1)] (.bool ((x1.seq : Int) == 1)) ?_))
    refine ⟨?_, rfl⟩
    all_goals first | with_reducible rfl | (exact absurd ⟨ex_name, by simp⟩ g4p; done) | with_reducible assumption | omega | rfl | (simp_all; done) | (simp_all; omega)
  · have g4p : ¬ (((nameF [108] 3) = [108, 45, 51]) ∧ ((([x9].length : Nat) : Int) = 1)) := by simpa using g4
    refine rQ [] [17, 18, 19, 20, 21, 22, 23] [] (True) [(0, .bool false)] (trivial) ?_
    refine rF ?_
    refine cT [] [] ?_
    refine cd_ret (bot_ret (rv [.bool false] (.bool false) ?_))
    refine ⟨?_, rfl⟩
    all_goals first | with_reducible rfl | (exact absurd ⟨ex_name, by simp⟩ g4p; done) | with_reducible assumption | omega | rfl | (simp_all; done) | (simp_all; omega)

theorem parse_small (s : List UInt8) : (parse s).2.2.length ≤ 2000 := by
  unfold parse
  dsimp only
  generalize parseGo _ _ = p4
  generalize he : (if p4.2.stop = 0 then _ else _ : Nat) = e2
  by_cases h : e2 ≠ 0
  · rw [if_pos h]; simp
  · rw [if_neg h]
    have h0 : e2 = 0 := Decidable.of_not_not h
    subst h0
    split at he
    · exact check_len he
    · omega
theorem readB_small : ∀ (rs : List (List UInt8 × Nat)) (n : Nat), ∀ x ∈ readB n rs, x.2.length ≤ 2000
  | [], _, x, h => by simp [readB] at h
  | r :: rs, n, x, h => by
    simp only [readB] at h
    split at h
    · simp at h
    · rcases List.mem_cons.1 h with rfl | h
      · exact parse_small _
      · exact readB_small rs _ x h
theorem bt_small {bs : List Bt} {s : List UInt8} {k : Nat} (h : bs.map Bt.bat = (batches s).take k) : ∀ b ∈ bs, b.l.length ≤ 1099511627776 := by
  intro b hb
  have h1 : b.bat ∈ batches s := List.mem_of_mem_take (h ▸ List.mem_map_of_mem hb)
  have := readB_small _ _ _ h1
  simp only [Bt.bat] at this
  omega
theorem bt_len {bs : List Bt} {s : List UInt8} {k : Nat} (h : bs.map Bt.bat = (batches s).take k) : bs.length ≤ s.length := by
  have h1 := congrArg List.length h
  have h2 := batches_count s
  simp only [List.length_map, List.length_take] at h1
  omega
theorem BtsIn.takeM {C : Ctx} {H H' : Blks} {bs : List Bt} {k : Nat} (h : BtsIn C H bs) (hs : ∀ p ∈ H, p ∈ H') : BtsIn C H' (bs.take k) := fun b hb => (h b (List.mem_of_mem_take hb)).mono hs
theorem most_next {most : Nat} {bs : List Bt} {y : Bt} {pre : List Bat} {x : Bat} (h : most = 0 ∨ pre.length < most) (hm : bs.map Bt.bat = pre) (hg : ¬ (((bs ++ [y]).length : Nat) : Int) = (most : Int)) : most = 0 ∨ (pre ++ [x]).length < most := by
  subst hm
  simp only [List.length_append, List.length_map, List.length_cons, List.length_nil] at h hg ⊢
  omega
theorem most_exit {s : List UInt8} {most : Nat} {bs : List Bt} {y : Bt} {pre : List Bat} {x : Bat} (hN : Tells (batches s) pre x) (hm : bs.map Bt.bat = pre) (hg : (((bs ++ [y]).length : Nat) : Int) = (most : Int)) : pre ++ [x] = (batches s).take most ∧ 0 < most := by
  subst hm
  have h1 := hN.take
  simp only [List.length_append, List.length_map, List.length_cons, List.length_nil] at h1 hg ⊢
  refine ⟨?_, by omega⟩
  rw [h1]; congr 1; omega
theorem most_all {s : List UInt8} {most : Nat} {bs : List Bt} {pre : List Bat} (hm : bs.map Bt.bat = pre) (hZ : pre = batches s) : bs.map Bt.bat = (batches s).take (batches s).length := by
  rw [hm, hZ, List.take_length]
theorem most_cut {s : List UInt8} {most : Nat} {bs : List Bt} {pre : List Bat} (hm : bs.map Bt.bat = pre) (hZ : pre = batches s) (h : most = 0 ∨ pre.length < most) (hg : most ≠ 0) : bs.map Bt.bat = (batches s).take most := by
  subst hm
  rw [hZ] at h ⊢
  rw [List.take_of_length_le (by omega)]
theorem wr_all {s : List UInt8} {bs bs1 : List Bt} (h : bs.map Bt.bat = (batches s).take (batches s).length) (h1 : bs1.map Bt.bat = batches s) : decide (bs.map Bt.bat = bs1.map Bt.bat) = true := by
  rw [h, h1, List.take_length]; simp
theorem wr_cut {s : List UInt8} {most : Nat} {bs bs1 : List Bt} (h : bs.map Bt.bat = (batches s).take most) (h1 : bs1.map Bt.bat = batches s) : decide (bs.map Bt.bat = (bs1.take most).map Bt.bat) = true := by
  rw [h, ← h1, List.map_take]; simp
theorem cut_slice {a : Option Addr} {most cap : Nat} {bs : List Bt} : Value.slice a ((if (most : Int) < (bs.length : Int) then (most : Int) else (bs.length : Int)).toNat) cap = .slice a (bs.take most).length cap := by
  rw [List.length_take]; congr 1; split <;> omega
theorem RowG.capLe {lim e sz n cap : Nat} {a : Option Addr} {xs : List Value} {L : Blks} (h : RowG lim e sz a n cap xs L) (hs : 0 < sz) : n ≤ cap := by
  rcases h with ⟨_, rfl, rfl, _⟩ | ⟨b, spare, fz, _, _, h1, h2, _⟩
  · omega
  · rw [List.length_append, h1] at h2
    exact Nat.le_of_mul_le_mul_right (by omega) hs

end Go.Proofs
