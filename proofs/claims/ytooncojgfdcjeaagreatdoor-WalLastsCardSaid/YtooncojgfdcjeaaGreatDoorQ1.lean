/- Walks: WalLasts. No condition. -/
import Derived.Test.YtooncojgfdcjeaaGreatDoorO1
import Derived.Test.YtooncojgfdcjeaaGreatDoorCw
import Derived.Test.YtooncojgfdcjeaaGreatDoorProg
namespace Go.Proofs
open Go Go.Sep
set_option maxHeartbeats 4000000 in
set_option maxRecDepth 100000 in
theorem walLasts_any (C : Ctx) (c0 : Nat) (fuse : Nat) (fault : Nat) (keep : Int) (at_ : Int) (turn : Nat) (a0 : Option Addr) (bl : List Bt) (hl : SeesL C [] a0 btv 2 bl) (hfu : Ok (fuse < 256)) (hfa : Ok (fault < 256)) (ht : Ok (turn < 256)) (hb : Ok (BtsIn C [] bl)) (hsq : Ok (∀ b ∈ bl, b.seq < 18446744073709551616)) :
    FnT Tryz.prog C 4 #[.slice a0 bl.length c0, u1 fuse, u1 fault, .agg #[z6 keep, z6 at_, u1 turn]] [] (fun rv_ rL_ => rv_ = .bool true ∧ rL_ = []) := by
  replace hfu := hfu.h
  replace hfa := hfa.h
  replace ht := ht.h
  replace hb := hb.h
  replace hsq := hsq.h
  refine fE 151 Tryz.func4 rfl ?_
  refine cd_rg ?_
  refine rQ [] [] [0, 1] (True) [(0, .slice a0 bl.length c0), (1, u1 fuse), (2, u1 fault), (3, .agg #[z6 keep, z6 at_, u1 turn])] (trivial) ?_
  refine rN 0 [1] (.cells #[z6 keep, z6 at_, u1 turn] 37 (0, 0)) p0 (fun b1 => ?_)
  refine rQ [] [1] [] (True) [(0, .slice a0 bl.length c0), (1, u1 fuse), (2, u1 fault), (7, p0 b1)] (trivial) ?_
  refine rF ?_
  refine cd_seq ?_
  refine cd_rg ?_
  refine rQ [] [] [0, 1] (True) [(0, .slice a0 bl.length c0), (1, u1 fuse), (2, u1 fault), (7, p0 b1)] (trivial) ?_
  refine rC 0 [1] [] [bk b1 37 #[z6 keep, z6 at_, u1 turn]] (awake16_any C) ?_
  rintro _ _ ⟨rfl, rfl⟩
  refine rQ [] [1] [] (True) [(0, .slice a0 bl.length c0), (1, u1 fuse), (2, u1 fault), (7, p0 b1), (24, .bool false)] (trivial) ?_
  refine rF ?_
  refine cNo ?_
  refine cd_skip (then_n ?_)
  refine cd_seq ?_
  refine cQ [] (True) [(0, .slice a0 bl.length c0), (1, u1 fuse), (2, u1 fault), (7, p0 b1), (27, .bool (decide ((bl.length : Int) > 12)))] (trivial) ?_
  refine cI (decide ((bl.length : Int) > 12)) (fun h1 => ?_) (fun h1 => ?_)
  · have h1p : (bl.length : Int) > 12 := by simpa using h1
    refine cQ [] (True) [(8, .bool true)] (trivial) ?_
    refine cT [] [] ?_
    refine cd_ret (then_ret (bot_ret (rv [.bool true] (.bool true) ?_)))
    refine ⟨?_, rfl⟩
    all_goals first | with_reducible rfl | (exact fin_one hgot key (by assumption); done) | (exact fin_two hgot key; done) | with_reducible assumption | omega | rfl | (simp_all; done) | (simp_all; omega)
  · have h1p : ¬ ((bl.length : Int) > 12) := by simpa using h1
    refine cd_skip (then_n ?_)
    refine cd_rg ?_
    refine rQ [] [] [0, 1, 2, 3, 4, 5] (True) [(0, .slice a0 bl.length c0), (1, u1 fuse), (2, u1 fault), (7, p0 b1)] (trivial) ?_
    refine rC 0 [1, 2, 3, 4, 5] [] [bk b1 37 #[z6 keep, z6 at_, u1 turn]] (dnew_any C 4194304 ⟨Oq.h {}⟩) ?_
    rintro _ _ ⟨d1, m1, L1_1, h2, rfl, rfl⟩
    refine rQ [] [1, 2, 3, 4, 5] [] (True) [(0, .slice a0 bl.length c0), (1, u1 fuse), (2, u1 fault), (7, p0 b1), (9, p0 d1)] (trivial) ?_
    refine rF ?_
    refine cd_rg ?_
    refine rQ [] [0] [1, 2, 3, 4, 5, 6] (True) [(0, .slice a0 bl.length c0), (1, u1 fuse), (2, u1 fault), (7, p0 b1), (9, p0 d1), (33, p0 d1)] (trivial) ?_
    refine rC 1 [2, 3, 4, 5, 6] [0, 0] [bk b1 37 #[z6 keep, z6 at_, u1 turn]] (walCreate_any C d1 m1 [] 4194304 0 (-1) (-1) false 1 L1_1 h2 ⟨Oq.h {}⟩ ⟨Oq.h {}⟩ ⟨Oq.h {}⟩ ⟨Oq.h {}⟩ ⟨Oq.h {}⟩ ⟨Oq.h {}⟩) ?_
    rintro _ _ ⟨lb1, fs1_1, st1_1, fu1_1, fa1_1, dn1_1, L1_2, h3, hf1, rfl, rfl⟩
    refine rQ [] [2, 3, 4, 5, 6] [] (True) [(0, .slice a0 bl.length c0), (1, u1 fuse), (2, u1 fault), (7, p0 b1), (9, p0 d1), (11, p0 lb1), (12, z6 0)] (trivial) ?_
    refine rF ?_
    refine cd_seq ?_
    obtain ⟨-, rfl, rfl, rfl, rfl, rfl⟩ := dk_eq hf1 ex_create1
    refine cQ [] (True) [(0, .slice a0 bl.length c0), (1, u1 fuse), (2, u1 fault), (7, p0 b1), (9, p0 d1), (11, p0 lb1), (38, .bool false)] (trivial) ?_
    refine cNo ?_
    refine cd_skip (then_n ?_)
    refine cd_rg ?_
    refine rQ [] [0, 1, 2] [3] ((inKind .i64 (fuse : Int))) [(0, .slice a0 bl.length c0), (2, u1 fault), (7, p0 b1), (9, p0 d1), (11, p0 lb1), (39, p0 d1), (41, n6 fuse)] (inK_i64 (by omega)) ?_
    refine rC 3 [] [1, 1] [bk lb1 126 #[p0 d1, str (nameF [108] 1), z6 0, .int .u64 0, .bool false], bk b1 37 #[z6 keep, z6 at_, u1 turn]] (fuse_any C d1 m1 [(nameF [108] 1, ⟨[], 0⟩)] 4194304 1 (-1) (-1) false (fuse : Int) L1_2 h3 ⟨Oq.h {}⟩) ?_
    rintro _ _ ⟨fu1_2, hf2, rfl, rfl⟩
    refine rD [(0, .slice a0 bl.length c0), (2, u1 fault), (7, p0 b1), (9, p0 d1), (11, p0 lb1)] ?_
    refine cd_rg ?_
    refine rQ [] [0, 1, 2] [3] ((inKind .i64 (fault : Int))) [(0, .slice a0 bl.length c0), (7, p0 b1), (9, p0 d1), (11, p0 lb1), (43, p0 d1), (45, n6 fault)] (inK_i64 (by omega)) ?_
    refine rC 3 [] [0, 0] [bk lb1 126 #[p0 d1, str (nameF [108] 1), z6 0, .int .u64 0, .bool false], bk b1 37 #[z6 keep, z6 at_, u1 turn]] (fault_any C d1 m1 [(nameF [108] 1, ⟨[], 0⟩)] 4194304 1 fu1_2 (-1) false (fault : Int) L1_2 h3 ⟨Oq.h {}⟩) ?_
    rintro _ _ ⟨fa1_2, hf3, rfl, rfl⟩
    refine rD [(0, .slice a0 bl.length c0), (7, p0 b1), (9, p0 d1), (11, p0 lb1)] ?_
    refine cQ [] (True) [(0, .slice a0 bl.length c0), (7, p0 b1), (9, p0 d1), (11, p0 lb1), (13, .slice none 0 0), (14, .slice none 0 0)] (trivial) ?_
    refine cd_seq ?_
    obtain rfl := hf2
    obtain rfl := hf3
    refine cQ [] (True) [(7, p0 b1), (9, p0 d1), (11, p0 lb1), (13, .slice none 0 0), (14, .slice none 0 0), (47, .slice a0 bl.length c0), (48, n6 bl.length), (49, z6 0)] (trivial) ?_
    refine cd_block ?_
    refine cd_more ?_
    refine lp (fun x : (List UInt8) × (List Bt) × (Option Addr) × Nat × Blks × Blks × Nat × Nat × Int × Int × Bool × Nat => [(7, p0 b1), (9, p0 d1), (11, p0 lb1), (13, .slice x.2.2.1 x.2.1.length x.2.2.2.1), (14, .slice none 0 0), (47, .slice a0 bl.length c0), (48, n6 bl.length), (49, n6 x.2.2.2.2.2.2.2.2.2.2.2)]) (fun x : (List UInt8) × (List Bt) × (Option Addr) × Nat × Blks × Blks × Nat × Nat × Int × Int × Bool × Nat => [bk d1 123 #[.map (some m1), z6 4194304, n6 x.2.2.2.2.2.2.2.1, z6 x.2.2.2.2.2.2.2.2.1, z6 x.2.2.2.2.2.2.2.2.2.1, .bool x.2.2.2.2.2.2.2.2.2.2.1], x.2.2.2.2.2.1, bk lb1 126 #[p0 d1, str (nameF [108] 1), n6 x.1.length, u6 x.2.2.2.2.2.2.1, .bool false], bk b1 37 #[z6 keep, z6 at_, u1 turn], x.2.2.2.2.1]) (fun x : (List UInt8) × (List Bt) × (Option Addr) × Nat × Blks × Blks × Nat × Nat × Int × Int × Bool × Nat => LogB x.1 (x.2.1.map Bt.bat) ∧ x.2.2.2.2.2.2.1 = nextOf 0 (x.2.1.map Bt.bat) ∧ (x.2.2.1 = none ∨ 0 < x.2.1.length) ∧ BtsIn C [] x.2.1 ∧ x.1.length ≤ 8000000 * x.2.2.2.2.2.2.2.2.2.2.2 ∧ x.2.2.2.2.2.2.2.1 ≤ 1 + 2 * x.2.2.2.2.2.2.2.2.2.2.2 ∧ (-1 ≤ x.2.2.2.2.2.2.2.2.1 ∧ x.2.2.2.2.2.2.2.2.1 ≤ 1099511627776) ∧ (-1 ≤ x.2.2.2.2.2.2.2.2.2.1 ∧ x.2.2.2.2.2.2.2.2.2.1 ≤ 1099511627776) ∧ x.2.1.length ≤ x.2.2.2.2.2.2.2.2.2.2.2 ∧ Row 32 2 x.2.2.1 x.2.1.length x.2.2.2.1 (x.2.1.flatMap btv) x.2.2.2.2.1 ∧ MapL fileV m1 [(nameF [108] 1, ⟨x.1, x.1.length⟩)] x.2.2.2.2.2.1 ∧ x.2.2.2.2.2.2.2.2.2.2.2 ≤ bl.length) (fun x : (List UInt8) × (List Bt) × (Option Addr) × Nat × Blks × Blks × Nat × Nat × Int × Int × Bool × Nat => bl.length - x.2.2.2.2.2.2.2.2.2.2.2) (([], [], none, 0, [], L1_2, 0, 1, (fuse : Int), (fault : Int), false, 0)) (show LogB ([] : List UInt8) (([] : List Bt).map Bt.bat) ∧ 0 = nextOf 0 (([] : List Bt).map Bt.bat) ∧ (none = none ∨ 0 < ([] : List Bt).length) ∧ BtsIn C [] ([] : List Bt) ∧ ([] : List UInt8).length ≤ 8000000 * 0 ∧ 1 ≤ 1 + 2 * 0 ∧ (-1 ≤ (fuse : Int) ∧ (fuse : Int) ≤ 1099511627776) ∧ (-1 ≤ (fault : Int) ∧ (fault : Int) ≤ 1099511627776) ∧ ([] : List Bt).length ≤ 0 ∧ Row 32 2 none ([] : List Bt).length 0 (([] : List Bt).flatMap btv) [] ∧ MapL fileV m1 [(nameF [108] 1, ⟨([] : List UInt8), ([] : List UInt8).length⟩)] L1_2 ∧ 0 ≤ bl.length from ⟨LogB.start, rfl, .inl rfl, BtsIn.nil C _, by simp, by omega, ⟨by omega, by omega⟩, ⟨by omega, by omega⟩, by simp, Row.nil 32 2, h3, by omega⟩) ?_
    rintro ⟨S, bs, a, cap, Lr, Lm2, nx, st2, fu2, fa2, dn2, i⟩ hI
    replace hI : LogB S (bs.map Bt.bat) ∧ nx = nextOf 0 (bs.map Bt.bat) ∧ (a = none ∨ 0 < bs.length) ∧ BtsIn C [] bs ∧ S.length ≤ 8000000 * i ∧ st2 ≤ 1 + 2 * i ∧ (-1 ≤ fu2 ∧ fu2 ≤ 1099511627776) ∧ (-1 ≤ fa2 ∧ fa2 ≤ 1099511627776) ∧ bs.length ≤ i ∧ Row 32 2 a bs.length cap (bs.flatMap btv) Lr ∧ MapL fileV m1 [(nameF [108] 1, ⟨S, S.length⟩)] Lm2 ∧ i ≤ bl.length := hI
    obtain ⟨hL, hnx, hp, hB, hS, hst, hfu2, hfa2, hbl, hR, hm2, hil⟩ := hI
    refine cQ [] (True) [(7, p0 b1), (9, p0 d1), (11, p0 lb1), (13, .slice a bs.length cap), (14, .slice none 0 0), (47, .slice a0 bl.length c0), (48, n6 bl.length), (49, n6 i), (50, .bool (decide ((i : Int) < (bl.length : Int))))] (trivial) ?_
    refine cd_seq ?_
    refine cI (decide ((i : Int) < (bl.length : Int))) (fun h4 => ?_) (fun h4 => ?_)
    · have h4p : (i : Int) < (bl.length : Int) := by simpa using h4
      refine cd_skip (then_n ?_)
      refine cd_seq ?_
      refine cd_block ?_
      obtain ⟨b2, o1, ha1⟩ := (hl).addr (by first | omega | (simp; done) | (simp at *; omega))
      subst ha1
      obtain ⟨x1, hx1⟩ : ∃ x, bl[i]? = some x := ⟨_, List.getElem?_eq_getElem (by first | omega | (simp at *; omega))⟩
      refine cd_rg ?_
      refine rQ [(1, .fact (.agg #[u6 x1.seq, .slice x1.a x1.l.length x1.cap]))] [0, 1] [2, 3] ((0 ≤ (i : Int) ∧ (i : Int) < (bl.length : Int)) ∧ (HasLoad Tryz.prog C [bk d1 123 #[.map (some m1), z6 4194304, n6 st2, z6 fu2, z6 fa2, .bool dn2], Lm2, bk lb1 126 #[p0 d1, str (nameF [108] 1), n6 S.length, u6 nx, .bool false], bk b1 37 #[z6 keep, z6 at_, u1 turn], Lr] 32 ⟨b2, o1 + i * 2, none⟩ (.agg #[u6 x1.seq, .slice x1.a x1.l.length x1.cap]))) [(7, p0 b1), (9, p0 d1), (11, p0 lb1), (13, .slice a bs.length cap), (14, .slice none 0 0), (47, .slice (some ⟨b2, o1, none⟩) bl.length c0), (48, n6 bl.length), (49, n6 i), (52, .agg #[u6 x1.seq, .slice x1.a x1.l.length x1.cap])] (⟨⟨by omega, by omega⟩, (hl).elem (P := Tryz.prog) (by intro p hp; first | (simp [hp]; done) | cases hp) 32 i hx1 (by kernel_rfl) (by kernel_rfl) (by first | exact .inl ⟨by kernel_rfl, rfl⟩ | exact .inr ⟨by kernel_rfl, rfl⟩)⟩) ?_
      refine rN 2 [3] (.cells #[.int .u64 0, .slice none 0 0] 32 (0, 0)) p0 (fun b3 => ?_)
      refine rS [(3, .at 5)] [3] [] ((b3 = b3)) [(7, p0 b1), (9, p0 d1), (11, p0 lb1), (13, .slice a bs.length cap), (14, .slice none 0 0), (16, p0 b3), (47, .slice (some ⟨b2, o1, none⟩) bl.length c0), (48, n6 bl.length), (49, n6 i)] [bk d1 123 #[.map (some m1), z6 4194304, n6 st2, z6 fu2, z6 fa2, .bool dn2], Lm2, bk lb1 126 #[p0 d1, str (nameF [108] 1), n6 S.length, u6 nx, .bool false], bk b1 37 #[z6 keep, z6 at_, u1 turn], Lr, bk b3 32 #[u6 x1.seq, .slice x1.a x1.l.length x1.cap]] (rfl) ?_
      refine rF ?_
      refine cd_seq ?_
      refine cd_rg ?_
      refine rQ [(1, .at 5)] [0, 1] [2, 3] ((b3 = b3)) [(7, p0 b1), (9, p0 d1), (11, p0 lb1), (13, .slice a bs.length cap), (14, .slice none 0 0), (16, p0 b3), (47, .slice (some ⟨b2, o1, none⟩) bl.length c0), (48, n6 bl.length), (49, n6 i), (54, .slice x1.a x1.l.length x1.cap)] (rfl) ?_
      refine rR 2 [3] (R := fun rv_ => ∃ v1 : Bool, (v1 = true → ∀ c ∈ x1.l, (fun c : Chg => x1.l.length ≤ 60 ∧ c.key.length ≤ 300 ∧ c.val.length ≤ 4200) c) ∧ rv_ = .bool v1) (FnT.mono (light_any C x1.cap _ x1.a x1.l (SeesL.mono (hb x1 (List.mem_of_getElem? hx1)) (by intro p hp; first | exact hp | (simp [hp]; done) | cases hp))) (by rintro v L ⟨x0, x1, hv, hL⟩; exact ⟨⟨x0, x1, hv⟩, hL⟩)) ?_
      rintro _ ⟨v1, hf4, rfl⟩
      refine rQ [] [3] [] (True) [(7, p0 b1), (9, p0 d1), (11, p0 lb1), (13, .slice a bs.length cap), (14, .slice none 0 0), (16, p0 b3), (47, .slice (some ⟨b2, o1, none⟩) bl.length c0), (48, n6 bl.length), (49, n6 i), (56, .bool (!v1))] (trivial) ?_
      refine rF ?_
      refine cI (!v1) (fun h5 => ?_) (fun h5 => ?_)
      · have h5p : ¬ (v1 = true) := by first | (simpa using h5; done) | (intro hx; rw [hx] at h5; simp at h5) | (intro hx; rw [Bool.not_eq_true] at hx; rw [hx] at h5; simp at h5)
        refine cQ [] (True) [(8, .bool true)] (trivial) ?_
        refine cT [] [] ?_
        refine cd_ret (then_ret (block_ret (then_ret (then_ret (block_ret (then_ret (bot_ret (rv [.bool true] (.bool true) ?_))))))))
        refine ⟨?_, rfl⟩
        all_goals first | with_reducible rfl | (exact fin_one hgot key (by assumption); done) | (exact fin_two hgot key; done) | with_reducible assumption | omega | rfl | (simp_all; done) | (simp_all; omega)
      · have h5p : ¬ (¬ (v1 = true)) := by first | (simpa using h5; done) | (intro hx; rw [hx] at h5; simp at h5) | (intro hx; rw [Bool.not_eq_true] at hx; rw [hx] at h5; simp at h5)
        refine cd_skip (then_n ?_)
        have hli := hf4 (Decidable.of_not_not h5p)
        have hl60 := light_len hli
        have hx64 := hsq x1 (List.mem_of_getElem? hx1)
        refine cd_rg ?_
        refine rQ [(1, .at 5)] [0, 1] [2, 3] ((b3 = b3)) [(7, p0 b1), (9, p0 d1), (11, p0 lb1), (13, .slice a bs.length cap), (14, .slice none 0 0), (16, p0 b3), (47, .slice (some ⟨b2, o1, none⟩) bl.length c0), (48, n6 bl.length), (49, n6 i), (57, p0 lb1), (58, .agg #[u6 x1.seq, .slice x1.a x1.l.length x1.cap])] (rfl) ?_
        refine rg_more ?_
        refine rC 2 [3] [2, 0, 0, 3] [bk b1 37 #[z6 keep, z6 at_, u1 turn], Lr, bk b3 32 #[u6 x1.seq, .slice x1.a x1.l.length x1.cap]] (walAdd_any C lb1 (nameF [108] 1) S.length nx false d1 m1 [(nameF [108] 1, ⟨S, S.length⟩)] 4194304 st2 fu2 fa2 dn2 x1.seq x1.cap Lm2 [] x1.a x1.l hm2 (SeesL.mono (hb x1 (List.mem_of_getElem? hx1)) (by intro p hp; first | exact hp | (simp [hp]; done) | cases hp)) ⟨Oq.h {}⟩ ⟨Oq.h {}⟩ ⟨Oq.h {}⟩ ⟨Oq.h {}⟩ ⟨Oq.h {}⟩ ⟨Oq.h {}⟩ ⟨Oq.h {}⟩ ⟨Oq.h {}⟩ ⟨Oq.h {}⟩ ⟨Oq.h {}⟩) ?_
        rintro _ _ ⟨e1, long1_1, nx1_1, br1_1, fs1_2, st1_2, fu1_3, fa1_3, dn1_2, L1_3, h6, hf5, rfl, rfl⟩
        refine rQ [] [3] [] (True) [(7, p0 b1), (9, p0 d1), (11, p0 lb1), (13, .slice a bs.length cap), (14, .slice none 0 0), (16, p0 b3), (17, n6 e1), (47, .slice (some ⟨b2, o1, none⟩) bl.length c0), (48, n6 bl.length), (49, n6 i)] (trivial) ?_
        refine rF ?_
        refine cd_seq ?_
        have hbd := add_bounds hfu2 hfa2 hf5
        simp only at hbd
        refine cQ [] (True) [(7, p0 b1), (9, p0 d1), (11, p0 lb1), (13, .slice a bs.length cap), (14, .slice none 0 0), (16, p0 b3), (47, .slice (some ⟨b2, o1, none⟩) bl.length c0), (48, n6 bl.length), (49, n6 i), (61, .bool ((e1 : Int) == 0))] (trivial) ?_
        refine cI ((e1 : Int) == 0) (fun h7 => ?_) (fun h7 => ?_)
        · have h7p : (e1 : Int) = 0 := by simpa using h7
          obtain ⟨rfl, rfl, rfl, hL2, hnx2, hck⟩ := add_ok hL hnx hfu2 hfa2 hf5 (by omega)
          refine cd_region ?_
          refine rQ [(1, .at 6)] [0, 1] [2, 3, 4] ((b3 = b3)) [(7, p0 b1), (9, p0 d1), (11, p0 lb1), (14, .slice none 0 0), (16, p0 b3), (47, .slice (some ⟨b2, o1, none⟩) bl.length c0), (48, n6 bl.length), (49, n6 i), (62, .slice a bs.length cap), (63, .agg #[u6 x1.seq, .slice x1.a x1.l.length x1.cap])] (rfl) ?_
          refine rN 2 [3, 4] (.cells #[u6 x1.seq, .slice x1.a x1.l.length x1.cap] 32 (0, 0)) (fun b4 => sl b4 1 1) (fun b4 => ?_)
          refine rX 3 [4] (do pure (.value (← Builtin.append_ #[25, 25] 25 #[.slice a bs.length cap, sl b4 1 1]))) [5, 6] [Lr, bk b4 32 #[u6 x1.seq, .slice x1.a x1.l.length x1.cap]] [bk lb1 126 #[p0 d1, str (nameF [108] 1), n6 ((S ++ layB S.length (batB x1.seq x1.l)).length), u6 nx1_1, .bool false], bk d1 123 #[.map (some m1), z6 4194304, n6 st1_2, z6 fu1_3, z6 fa1_3, .bool dn1_2], L1_3, [], bk b1 37 #[z6 keep, z6 at_, u1 turn], bk b3 32 #[u6 x1.seq, .slice x1.a x1.l.length x1.cap]] (gv_push (bytes := 32) (l := bs) (enc := btv) x1 25 (by kernel_rfl) hR rfl rfl (by kernel_rfl) (by omega) (by omega)) ?_
          rintro _ _ ⟨a1, cap1, L1, rfl, rfl, h8⟩
          refine rQ [] [4] [] (True) [(7, p0 b1), (9, p0 d1), (11, p0 lb1), (13, .slice a1 ((bs ++ [x1]).length) cap1), (14, .slice none 0 0), (16, p0 b3), (47, .slice (some ⟨b2, o1, none⟩) bl.length c0), (48, n6 bl.length), (49, n6 i)] (trivial) ?_
          refine rg_nil ?_
          refine (then_n ?_)
          refine cd_rg ?_
          refine rQ [] [0] [1] (True) [(7, p0 b1), (9, p0 d1), (11, p0 lb1), (13, .slice a1 ((bs ++ [x1]).length) cap1), (14, .slice none 0 0), (16, p0 b3), (47, .slice (some ⟨b2, o1, none⟩) bl.length c0), (48, n6 bl.length), (49, n6 i), (66, p0 lb1)] (trivial) ?_
          refine rC 1 [] [1] [L1, bk d1 123 #[.map (some m1), z6 4194304, n6 st1_2, z6 fu1_3, z6 fa1_3, .bool dn1_2], L1_3, [], bk b1 37 #[z6 keep, z6 at_, u1 turn], bk b3 32 #[u6 x1.seq, .slice x1.a x1.l.length x1.cap]] (walBroken_any C lb1 (p0 d1) (str (nameF [108] 1)) (n6 ((S ++ layB S.length (batB x1.seq x1.l)).length)) (u6 nx1_1) false) ?_
          rintro _ _ ⟨rfl, rfl⟩
          refine rD [(7, p0 b1), (9, p0 d1), (11, p0 lb1), (13, .slice a1 ((bs ++ [x1]).length) cap1), (14, .slice none 0 0), (16, p0 b3), (47, .slice (some ⟨b2, o1, none⟩) bl.length c0), (48, n6 bl.length), (49, n6 i), (67, .bool false)] ?_
          refine cNo ?_
          refine cd_skip (block_n (then_n ?_))
          refine cd_region ?_
          refine rQ [] [0, 1] [] ((inKind .i64 ((i : Int) + 1))) [(7, p0 b1), (9, p0 d1), (11, p0 lb1), (13, .slice a1 ((bs ++ [x1]).length) cap1), (14, .slice none 0 0), (47, .slice (some ⟨b2, o1, none⟩) bl.length c0), (48, n6 bl.length), (49, n6 (i + 1))] (inK_i64 (by omega)) ?_
          refine rT [2, 2, 0, 2, 0] [bk d1 123 #[.map (some m1), z6 4194304, n6 st1_2, z6 fu1_3, z6 fa1_3, .bool dn1_2], L1_3, bk lb1 126 #[p0 d1, str (nameF [108] 1), n6 ((S ++ layB S.length (batB x1.seq x1.l)).length), u6 nx1_1, .bool false], bk b1 37 #[z6 keep, z6 at_, u1 turn], L1] ?_
          refine rg_nil ?_
          refine (lM ((S ++ layB S.length (batB x1.seq x1.l), bs ++ [x1], a1, cap1, L1, L1_3, nx1_1, st1_2, fu1_3, fa1_3, dn1_2, i + 1)) (show LogB (S ++ layB S.length (batB x1.seq x1.l)) ((bs ++ [x1]).map Bt.bat) ∧ nx1_1 = nextOf 0 ((bs ++ [x1]).map Bt.bat) ∧ (a1 = none ∨ 0 < (bs ++ [x1]).length) ∧ BtsIn C [] (bs ++ [x1]) ∧ (S ++ layB S.length (batB x1.seq x1.l)).length ≤ 8000000 * (i + 1) ∧ st1_2 ≤ 1 + 2 * (i + 1) ∧ (-1 ≤ fu1_3 ∧ fu1_3 ≤ 1099511627776) ∧ (-1 ≤ fa1_3 ∧ fa1_3 ≤ 1099511627776) ∧ (bs ++ [x1]).length ≤ (i + 1) ∧ Row 32 2 a1 (bs ++ [x1]).length cap1 ((bs ++ [x1]).flatMap btv) L1 ∧ MapL fileV m1 [(nameF [108] 1, ⟨(S ++ layB S.length (batB x1.seq x1.l)), (S ++ layB S.length (batB x1.seq x1.l)).length⟩)] L1_3 ∧ (i + 1) ≤ bl.length from ⟨by rw [bat_push]; exact hL2, by rw [bat_push]; exact hnx2, .inr (by simp), ins_push hB (hb x1 (List.mem_of_getElem? hx1)), lay_lim hck hl60 hS, by omega, hbd.1, hbd.2.1, by simp; omega, h8, h6, by omega⟩) (show (bl.length - (i + 1)) < (bl.length - i) by first | omega | (simp; omega)))
        · have h7p : ¬ ((e1 : Int) = 0) := by simpa using h7
          refine cd_skip (then_n ?_)
          refine cd_rg ?_
          refine rQ [] [0] [1] (True) [(7, p0 b1), (9, p0 d1), (11, p0 lb1), (13, .slice a bs.length cap), (14, .slice none 0 0), (16, p0 b3), (47, .slice (some ⟨b2, o1, none⟩) bl.length c0), (48, n6 bl.length), (49, n6 i), (66, p0 lb1)] (trivial) ?_
          refine rC 1 [] [0] [bk d1 123 #[.map (some m1), z6 4194304, n6 st1_2, z6 fu1_3, z6 fa1_3, .bool dn1_2], L1_3, [], bk b1 37 #[z6 keep, z6 at_, u1 turn], Lr, bk b3 32 #[u6 x1.seq, .slice x1.a x1.l.length x1.cap]] (walBroken_any C lb1 (p0 d1) (str (nameF [108] 1)) (n6 long1_1) (u6 nx1_1) br1_1) ?_
          rintro _ _ ⟨rfl, rfl⟩
          refine rD [(7, p0 b1), (9, p0 d1), (11, p0 lb1), (13, .slice a bs.length cap), (14, .slice none 0 0), (16, p0 b3), (47, .slice (some ⟨b2, o1, none⟩) bl.length c0), (48, n6 bl.length), (49, n6 i), (67, .bool br1_1)] ?_
          refine cI br1_1 (fun h9 => ?_) (fun h9 => ?_)
          · have h9p : br1_1 = true := by first | (simpa using h9; done) | (intro hx; rw [hx] at h9; simp at h9) | (intro hx; rw [Bool.not_eq_true] at hx; rw [hx] at h9; simp at h9)
            obtain ⟨T, rfl, hT⟩ := add_broke hL hnx hfu2 hfa2 hf5 (by omega) (by first | assumption | simp_all)
            have hTl : (S ++ T).length ≤ 8000000 * (i + 1) := by rcases hT with rfl | ⟨rfl, _, hc9⟩; (rw [List.append_nil]; omega); exact lay_lim hc9 hl60 hS
            refine dr [bk lb1 126 #[p0 d1, str (nameF [108] 1), n6 long1_1, u6 nx1_1, .bool br1_1], bk d1 123 #[.map (some m1), z6 4194304, n6 st1_2, z6 fu1_3, z6 fa1_3, .bool dn1_2], L1_3, [], bk b1 37 #[z6 keep, z6 at_, u1 turn], bk b3 32 #[u6 x1.seq, .slice x1.a x1.l.length x1.cap]] [Lr] [5] 6 ?_
            refine aS [(2, .at 5)] [0, 2] ((b3 = b3)) [(7, p0 b1), (9, p0 d1), (13, .slice a bs.length cap), (68, .slice a bs.length cap), (70, .agg #[u6 x1.seq, .slice x1.a x1.l.length x1.cap])] (bm 6 5) 4 (rfl) ?_
            refine aII (i := 1) (j := 3) ?_ ?_
            ·
              refine xC [0] [] [7, 9, 13, 69, 70] (bm 6 7) (clone_any C a cap bs Lr hR (Oq.h {}) (Oq.h {})) ?_
              rintro _ _ ⟨a1_1, cap1_1, L1_4, h10, rfl, rfl⟩
              refine aI (i := 3) ?_
              refine xN (.cells #[u6 x1.seq, .slice x1.a x1.l.length x1.cap] 32 (0, 0)) (fun b5 => sl b5 1 1) [7, 9, 13, 69, 71] (bm 6 15) (fun b5 => ?_)
              refine aI (i := 4) ?_
              refine xX (do pure (.value (← Builtin.append_ #[25, 25] 25 #[.slice a1_1 bs.length cap1_1, sl b5 1 1]))) [0, 1] [L1_4, bk b5 32 #[u6 x1.seq, .slice x1.a x1.l.length x1.cap]] [Lr] [7, 9, 13, 72] (bm 6 31) (gv_push (bytes := 32) (l := bs) (enc := btv) x1 25 (by kernel_rfl) h10 rfl rfl (by kernel_rfl) (by omega) (by omega)) ?_
              rintro _ _ ⟨a2, cap2, L2, rfl, rfl, h11⟩
              refine aS [] [5] (True) [(7, p0 b1), (9, p0 d1), (13, .slice a bs.length cap), (14, .slice a2 ((bs ++ [x1]).length) cap2)] (bm 6 63) 0 (trivial) ?_
              refine aE [(7, p0 b1), (9, p0 d1), (13, .slice a bs.length cap), (14, .slice a2 ((bs ++ [x1]).length) cap2)] [bk lb1 126 #[p0 d1, str (nameF [108] 1), n6 long1_1, u6 nx1_1, .bool br1_1], bk d1 123 #[.map (some m1), z6 4194304, n6 st1_2, z6 fu1_3, z6 fa1_3, .bool dn1_2], L1_3, [], bk b1 37 #[z6 keep, z6 at_, u1 turn], bk b3 32 #[u6 x1.seq, .slice x1.a x1.l.length x1.cap], L2, Lr] ?_
              refine cd_exit (block_exit rfl (then_exit (then_exit (block_hit (then_n ?_)))))
              refine cd_seq ?_
              obtain ⟨b6, o2, ha2⟩ := ((Row.seesL (C := C) (l := bs ++ [x1]) (enc := btv) h11 rfl rfl (fun _ => rfl) (by decide))).addr (by first | omega | (simp; done) | (simp at *; omega))
              subst ha2
              refine cQ [] (True) [(7, p0 b1), (9, p0 d1), (13, .slice a bs.length cap), (14, .slice (some ⟨b6, o2, none⟩) ((bs ++ [x1]).length) cap2), (75, .bool false)] (trivial) ?_
              refine cNo ?_
              refine cd_skip (then_n ?_)
              refine cd_rg ?_
              refine rQ [] [0] [1] (True) [(7, p0 b1), (9, p0 d1), (13, .slice a bs.length cap), (14, .slice (some ⟨b6, o2, none⟩) ((bs ++ [x1]).length) cap2), (77, p0 d1)] (trivial) ?_
              refine rC 1 [] [1, 1] [bk lb1 126 #[p0 d1, str (nameF [108] 1), n6 long1_1, u6 nx1_1, .bool br1_1], [], bk b1 37 #[z6 keep, z6 at_, u1 turn], bk b3 32 #[u6 x1.seq, .slice x1.a x1.l.length x1.cap], L2, Lr] (fuse_any C d1 m1 [(nameF [108] 1, ⟨S ++ T, S.length⟩)] 4194304 st1_2 fu1_3 fa1_3 dn1_2 (-1) L1_3 h6 ⟨Oq.h {}⟩) ?_
              rintro _ _ ⟨fu1_4, hf6, rfl, rfl⟩
              refine rD [(7, p0 b1), (9, p0 d1), (13, .slice a bs.length cap), (14, .slice (some ⟨b6, o2, none⟩) ((bs ++ [x1]).length) cap2)] ?_
              refine cQ [] (True) [(7, p0 b1), (9, p0 d1), (13, .slice a bs.length cap), (14, .slice (some ⟨b6, o2, none⟩) ((bs ++ [x1]).length) cap2), (18, str []), (19, z6 0)] (trivial) ?_
              refine cd_seq ?_
              refine cd_rg ?_
              refine rQ [] [0] [1, 2] (True) [(7, p0 b1), (9, p0 d1), (13, .slice a bs.length cap), (14, .slice (some ⟨b6, o2, none⟩) ((bs ++ [x1]).length) cap2), (18, str []), (19, z6 0), (79, p0 d1)] (trivial) ?_
              refine rC 1 [2] [0] [L1_3, bk lb1 126 #[p0 d1, str (nameF [108] 1), n6 long1_1, u6 nx1_1, .bool br1_1], [], bk b1 37 #[z6 keep, z6 at_, u1 turn], bk b3 32 #[u6 x1.seq, .slice x1.a x1.l.length x1.cap], L2, Lr] (down_any C d1 (.map (some m1)) (z6 4194304) (n6 st1_2) (z6 fu1_4) (z6 fa1_3) dn1_2) ?_
              rintro _ _ ⟨rfl, rfl⟩
              refine rQ [] [2] [] (True) [(7, p0 b1), (9, p0 d1), (13, .slice a bs.length cap), (14, .slice (some ⟨b6, o2, none⟩) ((bs ++ [x1]).length) cap2), (18, str []), (19, z6 0), (81, .bool (!dn1_2))] (trivial) ?_
              refine rF ?_
              refine cI (!dn1_2) (fun h12 => ?_) (fun h12 => ?_)
              · have h12p : ¬ (dn1_2 = true) := by first | (simpa using h12; done) | (intro hx; rw [hx] at h12; simp at h12) | (intro hx; rw [Bool.not_eq_true] at hx; rw [hx] at h12; simp at h12)
                refine cd_region ?_
                refine rQ [] [0] [1, 2, 3, 4, 5, 6] (True) [(7, p0 b1), (9, p0 d1), (13, .slice a bs.length cap), (14, .slice (some ⟨b6, o2, none⟩) ((bs ++ [x1]).length) cap2), (83, p0 d1)] (trivial) ?_
                refine rC 1 [2, 3, 4, 5, 6] [0, 0] [bk lb1 126 #[p0 d1, str (nameF [108] 1), n6 long1_1, u6 nx1_1, .bool br1_1], [], bk b1 37 #[z6 keep, z6 at_, u1 turn], bk b3 32 #[u6 x1.seq, .slice x1.a x1.l.length x1.cap], L2, Lr] (dread_any C d1 m1 [(nameF [108] 1, ⟨S ++ T, S.length⟩)] 4194304 st1_2 fu1_4 fa1_3 dn1_2 [108, 45, 49] L1_3 h6) ?_
                rintro _ _ ⟨t1, e2, hf7, rfl, rfl⟩
                refine rQ [] [2, 3, 4, 5, 6] [] (True) [(7, p0 b1), (9, p0 d1), (13, .slice a bs.length cap), (14, .slice (some ⟨b6, o2, none⟩) ((bs ++ [x1]).length) cap2), (18, str t1), (19, n6 e2)] (trivial) ?_
                refine rg_nil ?_
                refine (then_n ?_)
                rw [← ex_name1] at hf7
                obtain ⟨rfl, rfl⟩ := read_sh hf7 (by first | assumption | simp_all)
                refine cd_rg ?_
                refine rQ [(1, .at 4)] [0, 1] [2, 3] ((b1 = b1)) [(7, p0 b1), (9, p0 d1), (13, .slice a bs.length cap), (14, .slice (some ⟨b6, o2, none⟩) ((bs ++ [x1]).length) cap2), (18, str (S ++ T)), (19, z6 0), (87, p0 d1), (88, .agg #[z6 keep, z6 at_, u1 turn])] (rfl) ?_
                refine rN 2 [3] (.cells #[z6 keep, z6 at_, u1 turn] 37 (0, 0)) (fun b7 => sl b7 1 1) (fun b7 => ?_)
                refine rC 3 [] [0, 0, 6] [bk lb1 126 #[p0 d1, str (nameF [108] 1), n6 long1_1, u6 nx1_1, .bool br1_1], [], bk b1 37 #[z6 keep, z6 at_, u1 turn], bk b3 32 #[u6 x1.seq, .slice x1.a x1.l.length x1.cap], L2, Lr] (crash_one C d1 m1 (nameF [108] 1) ⟨S ++ T, S.length⟩ 4194304 st1_2 fu1_4 fa1_3 dn1_2 b7 keep at_ turn L1_3 h6 ⟨Oq.h {}⟩ ⟨Oq.h {}⟩ ⟨Oq.h {}⟩) ?_
                rintro _ _ ⟨fs1_3, L1_5, h13, hf8, rfl, rfl⟩
                refine rD [(7, p0 b1), (9, p0 d1), (13, .slice a bs.length cap), (14, .slice (some ⟨b6, o2, none⟩) ((bs ++ [x1]).length) cap2), (18, str (S ++ T)), (19, z6 0)] ?_
                obtain rfl := hf8
                obtain ⟨X, hX, hX0⟩ := fall_sure S T keep at_ turn
                have hnl := fall_len ⟨S ++ T, S.length⟩ keep at_ turn
                simp only at hnl
                refine cd_rg ?_
                refine rQ [] [0] [1, 2, 3, 4, 5, 6] (True) [(7, p0 b1), (9, p0 d1), (13, .slice a bs.length cap), (14, .slice (some ⟨b6, o2, none⟩) ((bs ++ [x1]).length) cap2), (18, str (S ++ T)), (19, z6 0), (92, p0 d1)] (trivial) ?_
                refine rC 1 [2, 3, 4, 5, 6] [0, 0] [bk b7 37 #[z6 keep, z6 at_, u1 turn], bk lb1 126 #[p0 d1, str (nameF [108] 1), n6 long1_1, u6 nx1_1, .bool br1_1], [], bk b1 37 #[z6 keep, z6 at_, u1 turn], bk b3 32 #[u6 x1.seq, .slice x1.a x1.l.length x1.cap], L2, Lr] (dread_any C d1 m1 [(nameF [108] 1, fallF ⟨S ++ T, S.length⟩ keep at_ turn)] 4194304 st1_2 (-1) (-1) false [108, 45, 49] L1_5 h13) ?_
                rintro _ _ ⟨t2, e3, hf9, rfl, rfl⟩
                refine rQ [] [2, 3, 4, 5, 6] [] (True) [(7, p0 b1), (9, p0 d1), (12, n6 e3), (13, .slice a bs.length cap), (14, .slice (some ⟨b6, o2, none⟩) ((bs ++ [x1]).length) cap2), (18, str (S ++ T)), (19, z6 0), (20, str t2)] (trivial) ?_
                refine rF ?_
                refine cd_seq ?_
                rw [← ex_name1] at hf9
                obtain ⟨rfl, rfl⟩ := read_one hf9 rfl
                refine cd_rg ?_
                refine rQ [(1, .at 5)] [0, 1, 2, 3] [4, 5, 6, 7, 8, 9, 10, 11, 12, 13, 14, 15, 16, 17, 18, 19, 20, 21, 22, 23, 24, 25] ((b1 = b1)) [(9, p0 d1), (12, z6 0), (13, .slice a bs.length cap), (14, .slice (some ⟨b6, o2, none⟩) ((bs ++ [x1]).length) cap2), (18, str (S ++ T)), (19, z6 0), (20, str ((fallF ⟨S ++ T, S.length⟩ keep at_ turn).s)), (99, .bool ((turn : Int) != 0))] (rfl) ?_
                refine rI 99 ((turn : Int) != 0) (fun g1 => ?_) (fun g1 => ?_)
                · have g1p : (turn : Int) ≠ 0 := by simpa using g1
                  refine rQ [] [4, 5, 6] [7, 8, 9, 10, 11, 12, 13, 14, 15, 16, 17, 18, 19, 20, 21, 22, 23, 24, 25] (True) [(9, p0 d1), (12, z6 0), (13, .slice a bs.length cap), (14, .slice (some ⟨b6, o2, none⟩) ((bs ++ [x1]).length) cap2), (18, str (S ++ T)), (19, z6 0), (20, str ((fallF ⟨S ++ T, S.length⟩ keep at_ turn).s)), (99, .bool true), (102, .bool ((S ++ T) == []))] (trivial) ?_
                  refine rI 102 ((S ++ T) == []) (fun g2 => ?_) (fun g2 => ?_)
                  · have g2p : (S ++ T) = [] := by simpa using g2
                    refine rQ [] [7, 8, 9, 10, 11, 12, 13, 14, 15, 16, 17, 18, 19, 20, 21, 22, 23, 24, 25] [] (True) [(9, p0 d1), (12, z6 0), (13, .slice a bs.length cap), (14, .slice (some ⟨b6, o2, none⟩) ((bs ++ [x1]).length) cap2), (19, z6 0), (121, .bool true)] (trivial) ?_
                    refine rF ?_
                    refine cYes ?_
                    refine cQ [] (True) [(8, .bool true)] (trivial) ?_
                    refine cT [] [] ?_
                    refine cd_ret (then_ret (bot_ret (rv [.bool true] (.bool true) ?_)))
                    refine ⟨?_, rfl⟩
                    all_goals first | with_reducible rfl | (exact fin_one hgot key (by assumption); done) | (exact fin_two hgot key; done) | with_reducible assumption | omega | rfl | (simp_all; done) | (simp_all; omega)
                  · have g2p : ¬ ((S ++ T) = []) := by simpa using g2
                    refine rQ [] [7] [8, 9, 10, 11, 12, 13, 14, 15, 16, 17, 18, 19, 20, 21, 22, 23, 24, 25] (True) [(9, p0 d1), (12, z6 0), (13, .slice a bs.length cap), (14, .slice (some ⟨b6, o2, none⟩) ((bs ++ [x1]).length) cap2), (18, str (S ++ T)), (19, z6 0), (20, str ((fallF ⟨S ++ T, S.length⟩ keep at_ turn).s)), (99, .bool true), (102, .bool false), (103, str ((fallF ⟨S ++ T, S.length⟩ keep at_ turn).s))] (trivial) ?_
                    refine rC 8 [9, 10, 11, 12, 13, 14, 15, 16, 17, 18, 19, 20, 21, 22, 23, 24, 25] [] [bk d1 123 #[.map (some m1), z6 4194304, n6 st1_2, z6 (-1), z6 (-1), .bool false], L1_5, bk b7 37 #[z6 keep, z6 at_, u1 turn], bk lb1 126 #[p0 d1, str (nameF [108] 1), n6 long1_1, u6 nx1_1, .bool br1_1], [], bk b1 37 #[z6 keep, z6 at_, u1 turn], bk b3 32 #[u6 x1.seq, .slice x1.a x1.l.length x1.cap], L2, Lr] (refRecords_any C ((fallF ⟨S ++ T, S.length⟩ keep at_ turn).s) ⟨Oq.h {}⟩) ?_
                    rintro _ _ ⟨l1, a3, cap3, L1_6, h14, hf10, rfl, rfl⟩
                    refine rQ [] [9, 10, 11, 12, 13] [14, 15, 16, 17, 18, 19, 20, 21, 22, 23, 24, 25] (True) [(9, p0 d1), (12, z6 0), (13, .slice a bs.length cap), (14, .slice (some ⟨b6, o2, none⟩) ((bs ++ [x1]).length) cap2), (18, str (S ++ T)), (19, z6 0), (20, str ((fallF ⟨S ++ T, S.length⟩ keep at_ turn).s)), (99, .bool true), (102, .bool false), (109, .bool (decide ((l1.length : Int) > (bs.length : Int))))] (trivial) ?_
                    refine rg_join2 [24, 25] [(9, p0 d1), (12, z6 0), (13, .slice a bs.length cap), (14, .slice (some ⟨b6, o2, none⟩) ((bs ++ [x1]).length) cap2), (19, z6 0), (99, .bool true), (102, .bool false), (119, .bool ((decide ((l1.length : Int) > (bs.length : Int))) && (!(((fallF ⟨S ++ T, S.length⟩ keep at_ turn).s) == (((S ++ T).take (if (((S ++ T).length : Nat) : Int) < ((((fallF ⟨S ++ T, S.length⟩ keep at_ turn).s).length : Nat) : Int) then (((S ++ T).length : Nat) : Int) else ((((fallF ⟨S ++ T, S.length⟩ keep at_ turn).s).length : Nat) : Int)).toNat).drop 0)))))] [L1_6, bk d1 123 #[.map (some m1), z6 4194304, n6 st1_2, z6 (-1), z6 (-1), .bool false], L1_5, bk b7 37 #[z6 keep, z6 at_, u1 turn], bk lb1 126 #[p0 d1, str (nameF [108] 1), n6 long1_1, u6 nx1_1, .bool br1_1], [], bk b1 37 #[z6 keep, z6 at_, u1 turn], bk b3 32 #[u6 x1.seq, .slice x1.a x1.l.length x1.cap], L2, Lr] (fun hj => ?_) ?_
                    · refine rI 109 (decide ((l1.length : Int) > (bs.length : Int))) (fun g3 => ?_) (fun g3 => ?_)
                      · have g3p : (l1.length : Int) > (bs.length : Int) := by simpa using g3
                        refine rQ [] [14, 15, 16, 17, 18, 19, 20, 21, 22, 23] [24, 25] ((0 ≤ (0 : Int) ∧ (0 : Int) ≤ (if (((S ++ T).length : Nat) : Int) < ((((fallF ⟨S ++ T, S.length⟩ keep at_ turn).s).length : Nat) : Int) then (((S ++ T).length : Nat) : Int) else ((((fallF ⟨S ++ T, S.length⟩ keep at_ turn).s).length : Nat) : Int)) ∧ (if (((S ++ T).length : Nat) : Int) < ((((fallF ⟨S ++ T, S.length⟩ keep at_ turn).s).length : Nat) : Int) then (((S ++ T).length : Nat) : Int) else ((((fallF ⟨S ++ T, S.length⟩ keep at_ turn).s).length : Nat) : Int)) ≤ ((S ++ T).length : Int))) [(9, p0 d1), (12, z6 0), (13, .slice a bs.length cap), (14, .slice (some ⟨b6, o2, none⟩) ((bs ++ [x1]).length) cap2), (19, z6 0), (99, .bool true), (102, .bool false), (119, .bool (!(((fallF ⟨S ++ T, S.length⟩ keep at_ turn).s) == (((S ++ T).take (if (((S ++ T).length : Nat) : Int) < ((((fallF ⟨S ++ T, S.length⟩ keep at_ turn).s).length : Nat) : Int) then (((S ++ T).length : Nat) : Int) else ((((fallF ⟨S ++ T, S.length⟩ keep at_ turn).s).length : Nat) : Int)).toNat).drop 0))))] (⟨by omega, by omega, by omega⟩) ?_
                        refine rP 119 (.bool (!(((fallF ⟨S ++ T, S.length⟩ keep at_ turn).s) == (((S ++ T).take (if (((S ++ T).length : Nat) : Int) < ((((fallF ⟨S ++ T, S.length⟩ keep at_ turn).s).length : Nat) : Int) then (((S ++ T).length : Nat) : Int) else ((((fallF ⟨S ++ T, S.length⟩ keep at_ turn).s).length : Nat) : Int)).toNat).drop 0)))) (.bool ((decide ((l1.length : Int) > (bs.length : Int))) && (!(((fallF ⟨S ++ T, S.length⟩ keep at_ turn).s) == (((S ++ T).take (if (((S ++ T).length : Nat) : Int) < ((((fallF ⟨S ++ T, S.length⟩ keep at_ turn).s).length : Nat) : Int) then (((S ++ T).length : Nat) : Int) else ((((fallF ⟨S ++ T, S.length⟩ keep at_ turn).s).length : Nat) : Int)).toNat).drop 0))))) (by first | (rw [show (decide ((l1.length : Int) > (bs.length : Int))) = true from g3]; done) | (rw [show (decide ((l1.length : Int) > (bs.length : Int))) = true from g3]; rfl)) ?_
                        exact rM hj
                      · have g3p : ¬ ((l1.length : Int) > (bs.length : Int)) := by simpa using g3
                        refine rQ [] [14, 15, 16, 17, 18, 19, 20, 21, 22, 23] [24, 25] (True) [(9, p0 d1), (12, z6 0), (13, .slice a bs.length cap), (14, .slice (some ⟨b6, o2, none⟩) ((bs ++ [x1]).length) cap2), (19, z6 0), (99, .bool true), (102, .bool false), (119, .bool false)] (trivial) ?_
                        refine rP 119 (.bool false) (.bool ((decide ((l1.length : Int) > (bs.length : Int))) && (!(((fallF ⟨S ++ T, S.length⟩ keep at_ turn).s) == (((S ++ T).take (if (((S ++ T).length : Nat) : Int) < ((((fallF ⟨S ++ T, S.length⟩ keep at_ turn).s).length : Nat) : Int) then (((S ++ T).length : Nat) : Int) else ((((fallF ⟨S ++ T, S.length⟩ keep at_ turn).s).length : Nat) : Int)).toNat).drop 0))))) (by first | (rw [show (decide ((l1.length : Int) > (bs.length : Int))) = false from g3]; done) | (rw [show (decide ((l1.length : Int) > (bs.length : Int))) = false from g3]; rfl)) ?_
                        exact rM hj
                    refine rQ [] [24, 25] [] (True) [(9, p0 d1), (12, z6 0), (13, .slice a bs.length cap), (14, .slice (some ⟨b6, o2, none⟩) ((bs ++ [x1]).length) cap2), (19, z6 0), (121, .bool ((decide ((l1.length : Int) > (bs.length : Int))) && (!(((fallF ⟨S ++ T, S.length⟩ keep at_ turn).s) == (((S ++ T).take (if (((S ++ T).length : Nat) : Int) < ((((fallF ⟨S ++ T, S.length⟩ keep at_ turn).s).length : Nat) : Int) then (((S ++ T).length : Nat) : Int) else ((((fallF ⟨S ++ T, S.length⟩ keep at_ turn).s).length : Nat) : Int)).toNat).drop 0)))))] (trivial) ?_
                    refine rF ?_
                    refine cI ((decide ((l1.length : Int) > (bs.length : Int))) && (!(((fallF ⟨S ++ T, S.length⟩ keep at_ turn).s) == (((S ++ T).take (if (((S ++ T).length : Nat) : Int) < ((((fallF ⟨S ++ T, S.length⟩ keep at_ turn).s).length : Nat) : Int) then (((S ++ T).length : Nat) : Int) else ((((fallF ⟨S ++ T, S.length⟩ keep at_ turn).s).length : Nat) : Int)).toNat).drop 0)))) (fun h15 => ?_) (fun h15 => ?_)
                    · have h15p : ((l1.length : Int) > (bs.length : Int)) ∧ (¬ (((fallF ⟨S ++ T, S.length⟩ keep at_ turn).s) = (((S ++ T).take (if (((S ++ T).length : Nat) : Int) < ((((fallF ⟨S ++ T, S.length⟩ keep at_ turn).s).length : Nat) : Int) then (((S ++ T).length : Nat) : Int) else ((((fallF ⟨S ++ T, S.length⟩ keep at_ turn).s).length : Nat) : Int)).toNat).drop 0))) := by simpa using h15
                      refine cQ [] (True) [(8, .bool true)] (trivial) ?_
                      refine cT [] [] ?_
                      refine cd_ret (then_ret (bot_ret (rv [.bool true] (.bool true) ?_)))
                      refine ⟨?_, rfl⟩
                      all_goals first | with_reducible rfl | (exact fin_one hgot key (by assumption); done) | (exact fin_two hgot key; done) | with_reducible assumption | omega | rfl | (simp_all; done) | (simp_all; omega)
                    · have h15p : ¬ (((l1.length : Int) > (bs.length : Int)) ∧ (¬ (((fallF ⟨S ++ T, S.length⟩ keep at_ turn).s) = (((S ++ T).take (if (((S ++ T).length : Nat) : Int) < ((((fallF ⟨S ++ T, S.length⟩ keep at_ turn).s).length : Nat) : Int) then (((S ++ T).length : Nat) : Int) else ((((fallF ⟨S ++ T, S.length⟩ keep at_ turn).s).length : Nat) : Int)).toNat).drop 0)))) := by simpa using h15
                      refine cd_skip (then_n ?_)
                      refine cd_rg ?_
                      refine rQ [] [0] [1, 2, 3, 4, 5, 6] (True) [(12, z6 0), (13, .slice a bs.length cap), (14, .slice (some ⟨b6, o2, none⟩) ((bs ++ [x1]).length) cap2), (19, z6 0), (123, p0 d1)] (trivial) ?_
                      refine rC 1 [2, 3, 4, 5, 6] [1, 1] [L1_6, bk b7 37 #[z6 keep, z6 at_, u1 turn], bk lb1 126 #[p0 d1, str (nameF [108] 1), n6 long1_1, u6 nx1_1, .bool br1_1], [], bk b1 37 #[z6 keep, z6 at_, u1 turn], bk b3 32 #[u6 x1.seq, .slice x1.a x1.l.length x1.cap], L2, Lr] (walLoad_any C d1 m1 [(nameF [108] 1, fallF ⟨S ++ T, S.length⟩ keep at_ turn)] 4194304 st1_2 (-1) (-1) false 1 L1_5 h13 ⟨Oq.h {}⟩ ⟨Oq.h {}⟩) ?_
                      rintro _ _ ⟨bs1, a4, cap4, Lr1, LB1_1, e4, h16, h17, hf11, hf12, rfl, rfl⟩
                      refine rQ [] [2, 3, 4, 5, 6] [] (True) [(12, z6 0), (13, .slice a bs.length cap), (14, .slice (some ⟨b6, o2, none⟩) ((bs ++ [x1]).length) cap2), (19, z6 0), (21, .slice a4 bs1.length cap4), (22, n6 e4)] (trivial) ?_
                      refine rF ?_
                      obtain ⟨rfl, hgot⟩ := load_one hf11 hf12
                      have hgs := bt_small (hgot.trans List.take_length.symm)
                      have hgl := bt_len (hgot.trans List.take_length.symm)
                      have key := crash_law (shown := (S ++ T)) hL hT hX hX0 (.inr (by simp)) (by first | exact cond_turn (by assumption) | exact cond_long (by assumption) (by assumption) (by assumption))
                      have hB2 := ins_push hB (hb x1 (List.mem_of_getElem? hx1))
                      refine cd_rg ?_
                      refine rQ [] [0, 1, 2, 3, 4, 5, 6, 7, 8, 9, 10, 11] [12, 13, 14, 15, 16, 17, 18, 19, 20, 21, 22, 23, 24] (True) [(13, .slice a bs.length cap), (14, .slice (some ⟨b6, o2, none⟩) ((bs ++ [x1]).length) cap2), (21, .slice a4 bs1.length cap4), (137, .bool true), (138, .slice a4 bs1.length cap4)] (trivial) ?_
                      refine rC 12 [13, 14, 15, 16, 17, 18, 19, 20, 21, 22, 23, 24] [0] [LB1_1, bk d1 123 #[.map (some m1), z6 4194304, n6 st1_2, z6 (-1), z6 (-1), .bool false], L1_5, L1_6, bk b7 37 #[z6 keep, z6 at_, u1 turn], bk lb1 126 #[p0 d1, str (nameF [108] 1), n6 long1_1, u6 nx1_1, .bool br1_1], [], bk b1 37 #[z6 keep, z6 at_, u1 turn], bk b3 32 #[u6 x1.seq, .slice x1.a x1.l.length x1.cap], L2, Lr] (to_any C cap4 bs1 a4 Lr1 (SeesL.mono (Row.seesL (C := C) (l := bs1) (enc := btv) h16 rfl rfl (fun _ => rfl) (by decide)) (by intro p hp; first | exact hp | (simp [hp]; done) | cases hp)) ⟨Oq.h {}⟩) ?_
                      rintro _ _ ⟨a5, cap5, L1_7, h18, rfl, rfl⟩
                      refine rQ [] [13] [14, 15, 16, 17, 18, 19, 20, 21, 22, 23, 24] (True) [(14, .slice (some ⟨b6, o2, none⟩) ((bs ++ [x1]).length) cap2), (21, .slice a4 bs1.length cap4), (137, .bool true), (139, .slice a5 bs1.length cap5), (140, .slice a bs.length cap)] (trivial) ?_
                      refine rC 14 [15, 16, 17, 18, 19, 20, 21, 22, 23, 24] [12] [L1_7, Lr1, LB1_1, bk d1 123 #[.map (some m1), z6 4194304, n6 st1_2, z6 (-1), z6 (-1), .bool false], L1_5, L1_6, bk b7 37 #[z6 keep, z6 at_, u1 turn], bk lb1 126 #[p0 d1, str (nameF [108] 1), n6 long1_1, u6 nx1_1, .bool br1_1], [], bk b1 37 #[z6 keep, z6 at_, u1 turn], bk b3 32 #[u6 x1.seq, .slice x1.a x1.l.length x1.cap], L2] (to_any C cap bs a Lr (SeesL.mono (Row.seesL (C := C) (l := bs) (enc := btv) hR rfl rfl (fun _ => rfl) (by decide)) (by intro p hp; first | exact hp | (simp [hp]; done) | cases hp)) ⟨Oq.h {}⟩) ?_
                      rintro _ _ ⟨a6, cap6, L1_8, h19, rfl, rfl⟩
                      refine rR 15 [16, 17, 18, 19, 20, 21, 22, 23, 24] (same16_any C cap5 cap6 _ a5 bs1 a6 bs (SeesL.mono (Row.seesL (C := C) (l := bs1) (enc := btv) h18 rfl rfl (fun _ => rfl) (by decide)) (by intro p hp; first | exact hp | (simp [hp]; done) | cases hp)) (SeesL.mono (Row.seesL (C := C) (l := bs) (enc := btv) h19 rfl rfl (fun _ => rfl) (by decide)) (by intro p hp; first | exact hp | (simp [hp]; done) | cases hp)) ⟨Oq.h {}⟩ ⟨Oq.h {}⟩ ⟨Oq.h {}⟩ ⟨Oq.h {}⟩) ?_
                      rintro _ rfl
                      refine rQ [] [16] [17, 18, 19, 20, 21, 22, 23, 24] (True) [(14, .slice (some ⟨b6, o2, none⟩) ((bs ++ [x1]).length) cap2), (21, .slice a4 bs1.length cap4), (137, .bool true), (143, .bool (decide (bs1.map Bt.bat = bs.map Bt.bat)))] (trivial) ?_
                      refine rI 143 (decide (bs1.map Bt.bat = bs.map Bt.bat)) (fun g4 => ?_) (fun g4 => ?_)
                      · skip
                        refine rQ [] [17, 18, 19, 20, 21, 22, 23, 24] [] (True) [(8, .bool true)] (trivial) ?_
                        refine rF ?_
                        refine cT [] [] ?_
                        refine cd_ret (bot_ret (rv [.bool true] (.bool true) ?_))
                        refine ⟨?_, rfl⟩
                        all_goals first | with_reducible rfl | (exact fin_one hgot key (by assumption); done) | (exact fin_two hgot key; done) | with_reducible assumption | omega | rfl | (simp_all; done) | (simp_all; omega)
                      · skip
                        refine rQ [] [17] [18, 19, 20, 21, 22, 23, 24] (True) [(14, .slice (some ⟨b6, o2, none⟩) ((bs ++ [x1]).length) cap2), (137, .bool true), (143, .bool false), (144, .slice a4 bs1.length cap4)] (trivial) ?_
                        refine rC 18 [19, 20, 21, 22, 23, 24] [3] [L1_8, Lr, L1_7, LB1_1, bk d1 123 #[.map (some m1), z6 4194304, n6 st1_2, z6 (-1), z6 (-1), .bool false], L1_5, L1_6, bk b7 37 #[z6 keep, z6 at_, u1 turn], bk lb1 126 #[p0 d1, str (nameF [108] 1), n6 long1_1, u6 nx1_1, .bool br1_1], [], bk b1 37 #[z6 keep, z6 at_, u1 turn], bk b3 32 #[u6 x1.seq, .slice x1.a x1.l.length x1.cap], L2] (to_any C cap4 bs1 a4 Lr1 (SeesL.mono (Row.seesL (C := C) (l := bs1) (enc := btv) h16 rfl rfl (fun _ => rfl) (by decide)) (by intro p hp; first | exact hp | (simp [hp]; done) | cases hp)) ⟨Oq.h {}⟩) ?_
                        rintro _ _ ⟨a7, cap7, L1_9, h20, rfl, rfl⟩
                        refine rQ [] [19] [20, 21, 22, 23, 24] (True) [(137, .bool true), (143, .bool false), (145, .slice a7 bs1.length cap7), (146, .slice (some ⟨b6, o2, none⟩) ((bs ++ [x1]).length) cap2)] (trivial) ?_
                        refine rC 20 [21, 22, 23, 24] [14] [L1_9, Lr1, L1_8, Lr, L1_7, LB1_1, bk d1 123 #[.map (some m1), z6 4194304, n6 st1_2, z6 (-1), z6 (-1), .bool false], L1_5, L1_6, bk b7 37 #[z6 keep, z6 at_, u1 turn], bk lb1 126 #[p0 d1, str (nameF [108] 1), n6 long1_1, u6 nx1_1, .bool br1_1], [], bk b1 37 #[z6 keep, z6 at_, u1 turn], bk b3 32 #[u6 x1.seq, .slice x1.a x1.l.length x1.cap]] (to_any C cap2 (bs ++ [x1]) (some ⟨b6, o2, none⟩) L2 (SeesL.mono (Row.seesL (C := C) (l := bs ++ [x1]) (enc := btv) h11 rfl rfl (fun _ => rfl) (by decide)) (by intro p hp; first | exact hp | (simp [hp]; done) | cases hp)) ⟨Oq.h {}⟩) ?_
                        rintro _ _ ⟨a8, cap8, L1_10, h21, rfl, rfl⟩
                        refine rR 21 [22, 23, 24] (same16_any C cap7 cap8 _ a7 bs1 a8 (bs ++ [x1]) (SeesL.mono (Row.seesL (C := C) (l := bs1) (enc := btv) h20 rfl rfl (fun _ => rfl) (by decide)) (by intro p hp; first | exact hp | (simp [hp]; done) | cases hp)) (SeesL.mono (Row.seesL (C := C) (l := bs ++ [x1]) (enc := btv) h21 rfl rfl (fun _ => rfl) (by decide)) (by intro p hp; first | exact hp | (simp [hp]; done) | cases hp)) ⟨Oq.h {}⟩ ⟨Oq.h {}⟩ ⟨Oq.h {}⟩ ⟨Oq.h {}⟩) ?_
                        rintro _ rfl
                        refine rQ [] [22, 23, 24] [] (True) [(8, .bool (decide (bs1.map Bt.bat = (bs ++ [x1]).map Bt.bat)))] (trivial) ?_
                        refine rF ?_
                        refine cT [] [] ?_
                        refine cd_ret (bot_ret (rv [.bool (decide (bs1.map Bt.bat = (bs ++ [x1]).map Bt.bat))] (.bool (decide (bs1.map Bt.bat = (bs ++ [x1]).map Bt.bat))) ?_))
                        refine ⟨?_, rfl⟩
                        all_goals first | with_reducible rfl | (exact fin_one hgot key (by assumption); done) | (exact fin_two hgot key; done) | with_reducible assumption | omega | rfl | (simp_all; done) | (simp_all; omega)
                · have g1p : ¬ ((turn : Int) ≠ 0) := by simpa using g1
                  refine rQ [] [4, 5, 6, 7, 8, 9, 10, 11, 12, 13, 14, 15, 16, 17, 18, 19, 20, 21, 22, 23, 24, 25] [] (True) [(9, p0 d1), (12, z6 0), (13, .slice a bs.length cap), (14, .slice (some ⟨b6, o2, none⟩) ((bs ++ [x1]).length) cap2), (19, z6 0), (121, .bool false)] (trivial) ?_
                  refine rF ?_
                  refine cNo ?_
                  refine cd_skip (then_n ?_)
                  refine cd_rg ?_
                  refine rQ [] [0] [1, 2, 3, 4, 5, 6] (True) [(12, z6 0), (13, .slice a bs.length cap), (14, .slice (some ⟨b6, o2, none⟩) ((bs ++ [x1]).length) cap2), (19, z6 0), (123, p0 d1)] (trivial) ?_
                  refine rC 1 [2, 3, 4, 5, 6] [0, 0] [bk b7 37 #[z6 keep, z6 at_, u1 turn], bk lb1 126 #[p0 d1, str (nameF [108] 1), n6 long1_1, u6 nx1_1, .bool br1_1], [], bk b1 37 #[z6 keep, z6 at_, u1 turn], bk b3 32 #[u6 x1.seq, .slice x1.a x1.l.length x1.cap], L2, Lr] (walLoad_any C d1 m1 [(nameF [108] 1, fallF ⟨S ++ T, S.length⟩ keep at_ turn)] 4194304 st1_2 (-1) (-1) false 1 L1_5 h13 ⟨Oq.h {}⟩ ⟨Oq.h {}⟩) ?_
                  rintro _ _ ⟨bs2, a9, cap9, Lr2, LB1_2, e5, h22, h23, hf13, hf14, rfl, rfl⟩
                  refine rQ [] [2, 3, 4, 5, 6] [] (True) [(12, z6 0), (13, .slice a bs.length cap), (14, .slice (some ⟨b6, o2, none⟩) ((bs ++ [x1]).length) cap2), (19, z6 0), (21, .slice a9 bs2.length cap9), (22, n6 e5)] (trivial) ?_
                  refine rF ?_
                  obtain ⟨rfl, hgot⟩ := load_one hf13 hf14
                  have hgs := bt_small (hgot.trans List.take_length.symm)
                  have hgl := bt_len (hgot.trans List.take_length.symm)
                  have key := crash_law (shown := (S ++ T)) hL hT hX hX0 (.inr (by simp)) (by first | exact cond_turn (by assumption) | exact cond_long (by assumption) (by assumption) (by assumption))
                  have hB2 := ins_push hB (hb x1 (List.mem_of_getElem? hx1))
                  refine cd_rg ?_
                  refine rQ [] [0, 1, 2, 3, 4, 5, 6, 7, 8, 9, 10, 11] [12, 13, 14, 15, 16, 17, 18, 19, 20, 21, 22, 23, 24] (True) [(13, .slice a bs.length cap), (14, .slice (some ⟨b6, o2, none⟩) ((bs ++ [x1]).length) cap2), (21, .slice a9 bs2.length cap9), (137, .bool true), (138, .slice a9 bs2.length cap9)] (trivial) ?_
                  refine rC 12 [13, 14, 15, 16, 17, 18, 19, 20, 21, 22, 23, 24] [0] [LB1_2, bk d1 123 #[.map (some m1), z6 4194304, n6 st1_2, z6 (-1), z6 (-1), .bool false], L1_5, bk b7 37 #[z6 keep, z6 at_, u1 turn], bk lb1 126 #[p0 d1, str (nameF [108] 1), n6 long1_1, u6 nx1_1, .bool br1_1], [], bk b1 37 #[z6 keep, z6 at_, u1 turn], bk b3 32 #[u6 x1.seq, .slice x1.a x1.l.length x1.cap], L2, Lr] (to_any C cap9 bs2 a9 Lr2 (SeesL.mono (Row.seesL (C := C) (l := bs2) (enc := btv) h22 rfl rfl (fun _ => rfl) (by decide)) (by intro p hp; first | exact hp | (simp [hp]; done) | cases hp)) ⟨Oq.h {}⟩) ?_
                  rintro _ _ ⟨a10, cap10, L1_11, h24, rfl, rfl⟩
                  refine rQ [] [13] [14, 15, 16, 17, 18, 19, 20, 21, 22, 23, 24] (True) [(14, .slice (some ⟨b6, o2, none⟩) ((bs ++ [x1]).length) cap2), (21, .slice a9 bs2.length cap9), (137, .bool true), (139, .slice a10 bs2.length cap10), (140, .slice a bs.length cap)] (trivial) ?_
                  refine rC 14 [15, 16, 17, 18, 19, 20, 21, 22, 23, 24] [11] [L1_11, Lr2, LB1_2, bk d1 123 #[.map (some m1), z6 4194304, n6 st1_2, z6 (-1), z6 (-1), .bool false], L1_5, bk b7 37 #[z6 keep, z6 at_, u1 turn], bk lb1 126 #[p0 d1, str (nameF [108] 1), n6 long1_1, u6 nx1_1, .bool br1_1], [], bk b1 37 #[z6 keep, z6 at_, u1 turn], bk b3 32 #[u6 x1.seq, .slice x1.a x1.l.length x1.cap], L2] (to_any C cap bs a Lr (SeesL.mono (Row.seesL (C := C) (l := bs) (enc := btv) hR rfl rfl (fun _ => rfl) (by decide)) (by intro p hp; first | exact hp | (simp [hp]; done) | cases hp)) ⟨Oq.h {}⟩) ?_
                  rintro _ _ ⟨a11, cap11, L1_12, h25, rfl, rfl⟩
                  refine rR 15 [16, 17, 18, 19, 20, 21, 22, 23, 24] (same16_any C cap10 cap11 _ a10 bs2 a11 bs (SeesL.mono (Row.seesL (C := C) (l := bs2) (enc := btv) h24 rfl rfl (fun _ => rfl) (by decide)) (by intro p hp; first | exact hp | (simp [hp]; done) | cases hp)) (SeesL.mono (Row.seesL (C := C) (l := bs) (enc := btv) h25 rfl rfl (fun _ => rfl) (by decide)) (by intro p hp; first | exact hp | (simp [hp]; done) | cases hp)) ⟨Oq.h {}⟩ ⟨Oq.h {}⟩ ⟨Oq.h {}⟩ ⟨Oq.h {}⟩) ?_
                  rintro _ rfl
                  refine rQ [] [16] [17, 18, 19, 20, 21, 22, 23, 24] (True) [(14, .slice (some ⟨b6, o2, none⟩) ((bs ++ [x1]).length) cap2), (21, .slice a9 bs2.length cap9), (137, .bool true), (143, .bool (decide (bs2.map Bt.bat = bs.map Bt.bat)))] (trivial) ?_
                  refine rI 143 (decide (bs2.map Bt.bat = bs.map Bt.bat)) (fun g5 => ?_) (fun g5 => ?_)
                  · skip
                    refine rQ [] [17, 18, 19, 20, 21, 22, 23, 24] [] (True) [(8, .bool true)] (trivial) ?_
                    refine rF ?_
                    refine cT [] [] ?_
                    refine cd_ret (bot_ret (rv [.bool true] (.bool true) ?_))
                    refine ⟨?_, rfl⟩
                    all_goals first | with_reducible rfl | (exact fin_one hgot key (by assumption); done) | (exact fin_two hgot key; done) | with_reducible assumption | omega | rfl | (simp_all; done) | (simp_all; omega)
                  · skip
                    refine rQ [] [17] [18, 19, 20, 21, 22, 23, 24] (True) [(14, .slice (some ⟨b6, o2, none⟩) ((bs ++ [x1]).length) cap2), (137, .bool true), (143, .bool false), (144, .slice a9 bs2.length cap9)] (trivial) ?_
                    refine rC 18 [19, 20, 21, 22, 23, 24] [3] [L1_12, Lr, L1_11, LB1_2, bk d1 123 #[.map (some m1), z6 4194304, n6 st1_2, z6 (-1), z6 (-1), .bool false], L1_5, bk b7 37 #[z6 keep, z6 at_, u1 turn], bk lb1 126 #[p0 d1, str (nameF [108] 1), n6 long1_1, u6 nx1_1, .bool br1_1], [], bk b1 37 #[z6 keep, z6 at_, u1 turn], bk b3 32 #[u6 x1.seq, .slice x1.a x1.l.length x1.cap], L2] (to_any C cap9 bs2 a9 Lr2 (SeesL.mono (Row.seesL (C := C) (l := bs2) (enc := btv) h22 rfl rfl (fun _ => rfl) (by decide)) (by intro p hp; first | exact hp | (simp [hp]; done) | cases hp)) ⟨Oq.h {}⟩) ?_
                    rintro _ _ ⟨a12, cap12, L1_13, h26, rfl, rfl⟩
                    refine rQ [] [19] [20, 21, 22, 23, 24] (True) [(137, .bool true), (143, .bool false), (145, .slice a12 bs2.length cap12), (146, .slice (some ⟨b6, o2, none⟩) ((bs ++ [x1]).length) cap2)] (trivial) ?_
                    refine rC 20 [21, 22, 23, 24] [13] [L1_13, Lr2, L1_12, Lr, L1_11, LB1_2, bk d1 123 #[.map (some m1), z6 4194304, n6 st1_2, z6 (-1), z6 (-1), .bool false], L1_5, bk b7 37 #[z6 keep, z6 at_, u1 turn], bk lb1 126 #[p0 d1, str (nameF [108] 1), n6 long1_1, u6 nx1_1, .bool br1_1], [], bk b1 37 #[z6 keep, z6 at_, u1 turn], bk b3 32 #[u6 x1.seq, .slice x1.a x1.l.length x1.cap]] (to_any C cap2 (bs ++ [x1]) (some ⟨b6, o2, none⟩) L2 (SeesL.mono (Row.seesL (C := C) (l := bs ++ [x1]) (enc := btv) h11 rfl rfl (fun _ => rfl) (by decide)) (by intro p hp; first | exact hp | (simp [hp]; done) | cases hp)) ⟨Oq.h {}⟩) ?_
                    rintro _ _ ⟨a13, cap13, L1_14, h27, rfl, rfl⟩
                    refine rR 21 [22, 23, 24] (same16_any C cap12 cap13 _ a12 bs2 a13 (bs ++ [x1]) (SeesL.mono (Row.seesL (C := C) (l := bs2) (enc := btv) h26 rfl rfl (fun _ => rfl) (by decide)) (by intro p hp; first | exact hp | (simp [hp]; done) | cases hp)) (SeesL.mono (Row.seesL (C := C) (l := bs ++ [x1]) (enc := btv) h27 rfl rfl (fun _ => rfl) (by decide)) (by intro p hp; first | exact hp | (simp [hp]; done) | cases hp)) ⟨Oq.h {}⟩ ⟨Oq.h {}⟩ ⟨Oq.h {}⟩ ⟨Oq.h {}⟩) ?_
                    rintro _ rfl
                    refine rQ [] [22, 23, 24] [] (True) [(8, .bool (decide (bs2.map Bt.bat = (bs ++ [x1]).map Bt.bat)))] (trivial) ?_
                    refine rF ?_
                    refine cT [] [] ?_
                    refine cd_ret (bot_ret (rv [.bool (decide (bs2.map Bt.bat = (bs ++ [x1]).map Bt.bat))] (.bool (decide (bs2.map Bt.bat = (bs ++ [x1]).map Bt.bat))) ?_))
                    refine ⟨?_, rfl⟩
                    all_goals first | with_reducible rfl | (exact fin_one hgot key (by assumption); done) | (exact fin_two hgot key; done) | with_reducible assumption | omega | rfl | (simp_all; done) | (simp_all; omega)
              · have h12p : ¬ (¬ (dn1_2 = true)) := by first | (simpa using h12; done) | (intro hx; rw [hx] at h12; simp at h12) | (intro hx; rw [Bool.not_eq_true] at hx; rw [hx] at h12; simp at h12)
                refine cd_skip (then_n ?_)
                refine cd_rg ?_
                refine rQ [(1, .at 4)] [0, 1] [2, 3] ((b1 = b1)) [(7, p0 b1), (9, p0 d1), (13, .slice a bs.length cap), (14, .slice (some ⟨b6, o2, none⟩) ((bs ++ [x1]).length) cap2), (18, str []), (19, z6 0), (87, p0 d1), (88, .agg #[z6 keep, z6 at_, u1 turn])] (rfl) ?_
                refine rN 2 [3] (.cells #[z6 keep, z6 at_, u1 turn] 37 (0, 0)) (fun b8 => sl b8 1 1) (fun b8 => ?_)
                refine rC 3 [] [0, 0, 6] [bk lb1 126 #[p0 d1, str (nameF [108] 1), n6 long1_1, u6 nx1_1, .bool br1_1], [], bk b1 37 #[z6 keep, z6 at_, u1 turn], bk b3 32 #[u6 x1.seq, .slice x1.a x1.l.length x1.cap], L2, Lr] (crash_one C d1 m1 (nameF [108] 1) ⟨S ++ T, S.length⟩ 4194304 st1_2 fu1_4 fa1_3 dn1_2 b8 keep at_ turn L1_3 h6 ⟨Oq.h {}⟩ ⟨Oq.h {}⟩ ⟨Oq.h {}⟩) ?_
                rintro _ _ ⟨fs1_4, L1_15, h28, hf15, rfl, rfl⟩
                refine rD [(7, p0 b1), (9, p0 d1), (13, .slice a bs.length cap), (14, .slice (some ⟨b6, o2, none⟩) ((bs ++ [x1]).length) cap2), (18, str []), (19, z6 0)] ?_
                obtain rfl := hf15
                obtain ⟨X, hX, hX0⟩ := fall_sure S T keep at_ turn
                have hnl := fall_len ⟨S ++ T, S.length⟩ keep at_ turn
                simp only at hnl
                refine cd_rg ?_
                refine rQ [] [0] [1, 2, 3, 4, 5, 6] (True) [(7, p0 b1), (9, p0 d1), (13, .slice a bs.length cap), (14, .slice (some ⟨b6, o2, none⟩) ((bs ++ [x1]).length) cap2), (18, str []), (19, z6 0), (92, p0 d1)] (trivial) ?_
                refine rC 1 [2, 3, 4, 5, 6] [0, 0] [bk b8 37 #[z6 keep, z6 at_, u1 turn], bk lb1 126 #[p0 d1, str (nameF [108] 1), n6 long1_1, u6 nx1_1, .bool br1_1], [], bk b1 37 #[z6 keep, z6 at_, u1 turn], bk b3 32 #[u6 x1.seq, .slice x1.a x1.l.length x1.cap], L2, Lr] (dread_any C d1 m1 [(nameF [108] 1, fallF ⟨S ++ T, S.length⟩ keep at_ turn)] 4194304 st1_2 (-1) (-1) false [108, 45, 49] L1_15 h28) ?_
                rintro _ _ ⟨t3, e6, hf16, rfl, rfl⟩
                refine rQ [] [2, 3, 4, 5, 6] [] (True) [(7, p0 b1), (9, p0 d1), (12, n6 e6), (13, .slice a bs.length cap), (14, .slice (some ⟨b6, o2, none⟩) ((bs ++ [x1]).length) cap2), (18, str []), (19, z6 0), (20, str t3)] (trivial) ?_
                refine rF ?_
                refine cd_seq ?_
                rw [← ex_name1] at hf16
                obtain ⟨rfl, rfl⟩ := read_one hf16 rfl
                refine cd_rg ?_
                refine rQ [(1, .at 5)] [0, 1, 2, 3] [4, 5, 6, 7, 8, 9, 10, 11, 12, 13, 14, 15, 16, 17, 18, 19, 20, 21, 22, 23, 24, 25] ((b1 = b1)) [(9, p0 d1), (12, z6 0), (13, .slice a bs.length cap), (14, .slice (some ⟨b6, o2, none⟩) ((bs ++ [x1]).length) cap2), (18, str []), (19, z6 0), (20, str ((fallF ⟨S ++ T, S.length⟩ keep at_ turn).s)), (99, .bool ((turn : Int) != 0))] (rfl) ?_
                refine rg_join2 [] [(9, p0 d1), (12, z6 0), (13, .slice a bs.length cap), (14, .slice (some ⟨b6, o2, none⟩) ((bs ++ [x1]).length) cap2), (19, z6 0), (121, .bool ((turn : Int) != 0))] [bk d1 123 #[.map (some m1), z6 4194304, n6 st1_2, z6 (-1), z6 (-1), .bool false], L1_15, bk b8 37 #[z6 keep, z6 at_, u1 turn], bk lb1 126 #[p0 d1, str (nameF [108] 1), n6 long1_1, u6 nx1_1, .bool br1_1], [], bk b1 37 #[z6 keep, z6 at_, u1 turn], bk b3 32 #[u6 x1.seq, .slice x1.a x1.l.length x1.cap], L2, Lr] (fun hj => ?_) ?_
                · refine rI 99 ((turn : Int) != 0) (fun g6 => ?_) (fun g6 => ?_)
                  · have g6p : (turn : Int) ≠ 0 := by simpa using g6
                    refine rQ [] [4, 5, 6, 7, 8, 9, 10, 11, 12, 13, 14, 15, 16, 17, 18, 19, 20, 21, 22, 23, 24, 25] [] (True) [(9, p0 d1), (12, z6 0), (13, .slice a bs.length cap), (14, .slice (some ⟨b6, o2, none⟩) ((bs ++ [x1]).length) cap2), (19, z6 0), (121, .bool true)] (trivial) ?_
                    refine rP 121 (.bool true) (.bool ((turn : Int) != 0)) (by first | (rw [show ((turn : Int) != 0) = true from g6]; done) | (rw [show ((turn : Int) != 0) = true from g6]; rfl)) ?_
                    exact rM hj
                  · have g6p : ¬ ((turn : Int) ≠ 0) := by simpa using g6
                    refine rQ [] [4, 5, 6, 7, 8, 9, 10, 11, 12, 13, 14, 15, 16, 17, 18, 19, 20, 21, 22, 23, 24, 25] [] (True) [(9, p0 d1), (12, z6 0), (13, .slice a bs.length cap), (14, .slice (some ⟨b6, o2, none⟩) ((bs ++ [x1]).length) cap2), (19, z6 0), (121, .bool false)] (trivial) ?_
                    refine rP 121 (.bool false) (.bool ((turn : Int) != 0)) (by first | (rw [show ((turn : Int) != 0) = false from g6]; done) | (rw [show ((turn : Int) != 0) = false from g6]; rfl)) ?_
                    exact rM hj
                refine rD [(9, p0 d1), (12, z6 0), (13, .slice a bs.length cap), (14, .slice (some ⟨b6, o2, none⟩) ((bs ++ [x1]).length) cap2), (19, z6 0), (121, .bool ((turn : Int) != 0))] ?_
                refine cI ((turn : Int) != 0) (fun h29 => ?_) (fun h29 => ?_)
                · have h29p : (turn : Int) ≠ 0 := by simpa using h29
                  refine cQ [] (True) [(8, .bool true)] (trivial) ?_
                  refine cT [] [] ?_
                  refine cd_ret (then_ret (bot_ret (rv [.bool true] (.bool true) ?_)))
                  refine ⟨?_, rfl⟩
                  all_goals first | with_reducible rfl | (exact fin_one hgot key (by assumption); done) | (exact fin_two hgot key; done) | with_reducible assumption | omega | rfl | (simp_all; done) | (simp_all; omega)
                · have h29p : ¬ ((turn : Int) ≠ 0) := by simpa using h29
                  refine cd_skip (then_n ?_)
                  refine cd_rg ?_
                  refine rQ [] [0] [1, 2, 3, 4, 5, 6] (True) [(12, z6 0), (13, .slice a bs.length cap), (14, .slice (some ⟨b6, o2, none⟩) ((bs ++ [x1]).length) cap2), (19, z6 0), (123, p0 d1)] (trivial) ?_
                  refine rC 1 [2, 3, 4, 5, 6] [0, 0] [bk b8 37 #[z6 keep, z6 at_, u1 turn], bk lb1 126 #[p0 d1, str (nameF [108] 1), n6 long1_1, u6 nx1_1, .bool br1_1], [], bk b1 37 #[z6 keep, z6 at_, u1 turn], bk b3 32 #[u6 x1.seq, .slice x1.a x1.l.length x1.cap], L2, Lr] (walLoad_any C d1 m1 [(nameF [108] 1, fallF ⟨S ++ T, S.length⟩ keep at_ turn)] 4194304 st1_2 (-1) (-1) false 1 L1_15 h28 ⟨Oq.h {}⟩ ⟨Oq.h {}⟩) ?_
                  rintro _ _ ⟨bs3, a14, cap14, Lr3, LB1_3, e7, h30, h31, hf17, hf18, rfl, rfl⟩
                  refine rQ [] [2, 3, 4, 5, 6] [] (True) [(12, z6 0), (13, .slice a bs.length cap), (14, .slice (some ⟨b6, o2, none⟩) ((bs ++ [x1]).length) cap2), (19, z6 0), (21, .slice a14 bs3.length cap14), (22, n6 e7)] (trivial) ?_
                  refine rF ?_
                  obtain ⟨rfl, hgot⟩ := load_one hf17 hf18
                  have hgs := bt_small (hgot.trans List.take_length.symm)
                  have hgl := bt_len (hgot.trans List.take_length.symm)
                  have key := crash_law (shown := []) hL hT hX hX0 (.inl rfl) (by first | exact cond_turn (by assumption) | exact cond_long (by assumption) (by assumption) (by assumption))
                  have hB2 := ins_push hB (hb x1 (List.mem_of_getElem? hx1))
                  refine cd_rg ?_
                  refine rQ [] [0, 1, 2, 3, 4, 5, 6, 7, 8, 9, 10, 11] [12, 13, 14, 15, 16, 17, 18, 19, 20, 21, 22, 23, 24] (True) [(13, .slice a bs.length cap), (14, .slice (some ⟨b6, o2, none⟩) ((bs ++ [x1]).length) cap2), (21, .slice a14 bs3.length cap14), (137, .bool true), (138, .slice a14 bs3.length cap14)] (trivial) ?_
                  refine rC 12 [13, 14, 15, 16, 17, 18, 19, 20, 21, 22, 23, 24] [0] [LB1_3, bk d1 123 #[.map (some m1), z6 4194304, n6 st1_2, z6 (-1), z6 (-1), .bool false], L1_15, bk b8 37 #[z6 keep, z6 at_, u1 turn], bk lb1 126 #[p0 d1, str (nameF [108] 1), n6 long1_1, u6 nx1_1, .bool br1_1], [], bk b1 37 #[z6 keep, z6 at_, u1 turn], bk b3 32 #[u6 x1.seq, .slice x1.a x1.l.length x1.cap], L2, Lr] (to_any C cap14 bs3 a14 Lr3 (SeesL.mono (Row.seesL (C := C) (l := bs3) (enc := btv) h30 rfl rfl (fun _ => rfl) (by decide)) (by intro p hp; first | exact hp | (simp [hp]; done) | cases hp)) ⟨Oq.h {}⟩) ?_
                  rintro _ _ ⟨a15, cap15, L1_16, h32, rfl, rfl⟩
                  refine rQ [] [13] [14, 15, 16, 17, 18, 19, 20, 21, 22, 23, 24] (True) [(14, .slice (some ⟨b6, o2, none⟩) ((bs ++ [x1]).length) cap2), (21, .slice a14 bs3.length cap14), (137, .bool true), (139, .slice a15 bs3.length cap15), (140, .slice a bs.length cap)] (trivial) ?_
                  refine rC 14 [15, 16, 17, 18, 19, 20, 21, 22, 23, 24] [11] [L1_16, Lr3, LB1_3, bk d1 123 #[.map (some m1), z6 4194304, n6 st1_2, z6 (-1), z6 (-1), .bool false], L1_15, bk b8 37 #[z6 keep, z6 at_, u1 turn], bk lb1 126 #[p0 d1, str (nameF [108] 1), n6 long1_1, u6 nx1_1, .bool br1_1], [], bk b1 37 #[z6 keep, z6 at_, u1 turn], bk b3 32 #[u6 x1.seq, .slice x1.a x1.l.length x1.cap], L2] (to_any C cap bs a Lr (SeesL.mono (Row.seesL (C := C) (l := bs) (enc := btv) hR rfl rfl (fun _ => rfl) (by decide)) (by intro p hp; first | exact hp | (simp [hp]; done) | cases hp)) ⟨Oq.h {}⟩) ?_
                  rintro _ _ ⟨a16, cap16, L1_17, h33, rfl, rfl⟩
                  refine rR 15 [16, 17, 18, 19, 20, 21, 22, 23, 24] (same16_any C cap15 cap16 _ a15 bs3 a16 bs (SeesL.mono (Row.seesL (C := C) (l := bs3) (enc := btv) h32 rfl rfl (fun _ => rfl) (by decide)) (by intro p hp; first | exact hp | (simp [hp]; done) | cases hp)) (SeesL.mono (Row.seesL (C := C) (l := bs) (enc := btv) h33 rfl rfl (fun _ => rfl) (by decide)) (by intro p hp; first | exact hp | (simp [hp]; done) | cases hp)) ⟨Oq.h {}⟩ ⟨Oq.h {}⟩ ⟨Oq.h {}⟩ ⟨Oq.h {}⟩) ?_
                  rintro _ rfl
                  refine rQ [] [16] [17, 18, 19, 20, 21, 22, 23, 24] (True) [(14, .slice (some ⟨b6, o2, none⟩) ((bs ++ [x1]).length) cap2), (21, .slice a14 bs3.length cap14), (137, .bool true), (143, .bool (decide (bs3.map Bt.bat = bs.map Bt.bat)))] (trivial) ?_
                  refine rI 143 (decide (bs3.map Bt.bat = bs.map Bt.bat)) (fun g7 => ?_) (fun g7 => ?_)
                  · skip
                    refine rQ [] [17, 18, 19, 20, 21, 22, 23, 24] [] (True) [(8, .bool true)] (trivial) ?_
                    refine rF ?_
                    refine cT [] [] ?_
                    refine cd_ret (bot_ret (rv [.bool true] (.bool true) ?_))
                    refine ⟨?_, rfl⟩
                    all_goals first | with_reducible rfl | (exact fin_one hgot key (by assumption); done) | (exact fin_two hgot key; done) | with_reducible assumption | omega | rfl | (simp_all; done) | (simp_all; omega)
                  · skip
                    refine rQ [] [17] [18, 19, 20, 21, 22, 23, 24] (True) [(14, .slice (some ⟨b6, o2, none⟩) ((bs ++ [x1]).length) cap2), (137, .bool true), (143, .bool false), (144, .slice a14 bs3.length cap14)] (trivial) ?_
                    refine rC 18 [19, 20, 21, 22, 23, 24] [3] [L1_17, Lr, L1_16, LB1_3, bk d1 123 #[.map (some m1), z6 4194304, n6 st1_2, z6 (-1), z6 (-1), .bool false], L1_15, bk b8 37 #[z6 keep, z6 at_, u1 turn], bk lb1 126 #[p0 d1, str (nameF [108] 1), n6 long1_1, u6 nx1_1, .bool br1_1], [], bk b1 37 #[z6 keep, z6 at_, u1 turn], bk b3 32 #[u6 x1.seq, .slice x1.a x1.l.length x1.cap], L2] (to_any C cap14 bs3 a14 Lr3 (SeesL.mono (Row.seesL (C := C) (l := bs3) (enc := btv) h30 rfl rfl (fun _ => rfl) (by decide)) (by intro p hp; first | exact hp | (simp [hp]; done) | cases hp)) ⟨Oq.h {}⟩) ?_
                    rintro _ _ ⟨a17, cap17, L1_18, h34, rfl, rfl⟩
                    refine rQ [] [19] [20, 21, 22, 23, 24] (True) [(137, .bool true), (143, .bool false), (145, .slice a17 bs3.length cap17), (146, .slice (some ⟨b6, o2, none⟩) ((bs ++ [x1]).length) cap2)] (trivial) ?_
                    refine rC 20 [21, 22, 23, 24] [13] [L1_18, Lr3, L1_17, Lr, L1_16, LB1_3, bk d1 123 #[.map (some m1), z6 4194304, n6 st1_2, z6 (-1), z6 (-1), .bool false], L1_15, bk b8 37 #[z6 keep, z6 at_, u1 turn], bk lb1 126 #[p0 d1, str (nameF [108] 1), n6 long1_1, u6 nx1_1, .bool br1_1], [], bk b1 37 #[z6 keep, z6 at_, u1 turn], bk b3 32 #[u6 x1.seq, .slice x1.a x1.l.length x1.cap]] (to_any C cap2 (bs ++ [x1]) (some ⟨b6, o2, none⟩) L2 (SeesL.mono (Row.seesL (C := C) (l := bs ++ [x1]) (enc := btv) h11 rfl rfl (fun _ => rfl) (by decide)) (by intro p hp; first | exact hp | (simp [hp]; done) | cases hp)) ⟨Oq.h {}⟩) ?_
                    rintro _ _ ⟨a18, cap18, L1_19, h35, rfl, rfl⟩
                    refine rR 21 [22, 23, 24] (same16_any C cap17 cap18 _ a17 bs3 a18 (bs ++ [x1]) (SeesL.mono (Row.seesL (C := C) (l := bs3) (enc := btv) h34 rfl rfl (fun _ => rfl) (by decide)) (by intro p hp; first | exact hp | (simp [hp]; done) | cases hp)) (SeesL.mono (Row.seesL (C := C) (l := bs ++ [x1]) (enc := btv) h35 rfl rfl (fun _ => rfl) (by decide)) (by intro p hp; first | exact hp | (simp [hp]; done) | cases hp)) ⟨Oq.h {}⟩ ⟨Oq.h {}⟩ ⟨Oq.h {}⟩ ⟨Oq.h {}⟩) ?_
                    rintro _ rfl
                    refine rQ [] [22, 23, 24] [] (True) [(8, .bool (decide (bs3.map Bt.bat = (bs ++ [x1]).map Bt.bat)))] (trivial) ?_
                    refine rF ?_
                    refine cT [] [] ?_
                    refine cd_ret (bot_ret (rv [.bool (decide (bs3.map Bt.bat = (bs ++ [x1]).map Bt.bat))] (.bool (decide (bs3.map Bt.bat = (bs ++ [x1]).map Bt.bat))) ?_))
                    refine ⟨?_, rfl⟩
                    all_goals first | with_reducible rfl | (exact fin_one hgot key (by assumption); done) | (exact fin_two hgot key; done) | with_reducible assumption | omega | rfl | (simp_all; done) | (simp_all; omega)
            ·
              refine xN (.cells #[u6 x1.seq, .slice x1.a x1.l.length x1.cap] 32 (0, 0)) (fun b9 => sl b9 1 1) [7, 9, 13, 68, 71] (bm 6 13) (fun b9 => ?_)
              refine aI (i := 1) ?_
              refine xC [0] [bk b9 32 #[u6 x1.seq, .slice x1.a x1.l.length x1.cap]] [7, 9, 13, 69, 71] (bm 6 15) (clone_any C a cap bs Lr hR (Oq.h {}) (Oq.h {})) ?_
              rintro _ _ ⟨a1_2, cap1_2, L1_20, h36, rfl, rfl⟩
              refine aI (i := 4) ?_
              refine xX (do pure (.value (← Builtin.append_ #[25, 25] 25 #[.slice a1_2 bs.length cap1_2, sl b9 1 1]))) [0, 1] [L1_20, bk b9 32 #[u6 x1.seq, .slice x1.a x1.l.length x1.cap]] [Lr] [7, 9, 13, 72] (bm 6 31) (gv_push (bytes := 32) (l := bs) (enc := btv) x1 25 (by kernel_rfl) h36 rfl rfl (by kernel_rfl) (by omega) (by omega)) ?_
              rintro _ _ ⟨a19, cap19, L3, rfl, rfl, h37⟩
              refine aS [] [5] (True) [(7, p0 b1), (9, p0 d1), (13, .slice a bs.length cap), (14, .slice a19 ((bs ++ [x1]).length) cap19)] (bm 6 63) 0 (trivial) ?_
              refine aE [(7, p0 b1), (9, p0 d1), (13, .slice a bs.length cap), (14, .slice a19 ((bs ++ [x1]).length) cap19)] [bk lb1 126 #[p0 d1, str (nameF [108] 1), n6 long1_1, u6 nx1_1, .bool br1_1], bk d1 123 #[.map (some m1), z6 4194304, n6 st1_2, z6 fu1_3, z6 fa1_3, .bool dn1_2], L1_3, [], bk b1 37 #[z6 keep, z6 at_, u1 turn], bk b3 32 #[u6 x1.seq, .slice x1.a x1.l.length x1.cap], L3, Lr] ?_
              refine cd_exit (block_exit rfl (then_exit (then_exit (block_hit (then_n ?_)))))
              refine cd_seq ?_
              obtain ⟨b10, o3, ha3⟩ := ((Row.seesL (C := C) (l := bs ++ [x1]) (enc := btv) h37 rfl rfl (fun _ => rfl) (by decide))).addr (by first | omega | (simp; done) | (simp at *; omega))
              subst ha3
              refine cQ [] (True) [(7, p0 b1), (9, p0 d1), (13, .slice a bs.length cap), (14, .slice (some ⟨b10, o3, none⟩) ((bs ++ [x1]).length) cap19), (75, .bool false)] (trivial) ?_
              refine cNo ?_
              refine cd_skip (then_n ?_)
              refine cd_rg ?_
              refine rQ [] [0] [1] (True) [(7, p0 b1), (9, p0 d1), (13, .slice a bs.length cap), (14, .slice (some ⟨b10, o3, none⟩) ((bs ++ [x1]).length) cap19), (77, p0 d1)] (trivial) ?_
              refine rC 1 [] [1, 1] [bk lb1 126 #[p0 d1, str (nameF [108] 1), n6 long1_1, u6 nx1_1, .bool br1_1], [], bk b1 37 #[z6 keep, z6 at_, u1 turn], bk b3 32 #[u6 x1.seq, .slice x1.a x1.l.length x1.cap], L3, Lr] (fuse_any C d1 m1 [(nameF [108] 1, ⟨S ++ T, S.length⟩)] 4194304 st1_2 fu1_3 fa1_3 dn1_2 (-1) L1_3 h6 ⟨Oq.h {}⟩) ?_
              rintro _ _ ⟨fu1_5, hf19, rfl, rfl⟩
              refine rD [(7, p0 b1), (9, p0 d1), (13, .slice a bs.length cap), (14, .slice (some ⟨b10, o3, none⟩) ((bs ++ [x1]).length) cap19)] ?_
              refine cQ [] (True) [(7, p0 b1), (9, p0 d1), (13, .slice a bs.length cap), (14, .slice (some ⟨b10, o3, none⟩) ((bs ++ [x1]).length) cap19), (18, str []), (19, z6 0)] (trivial) ?_
              refine cd_seq ?_
              refine cd_rg ?_
              refine rQ [] [0] [1, 2] (True) [(7, p0 b1), (9, p0 d1), (13, .slice a bs.length cap), (14, .slice (some ⟨b10, o3, none⟩) ((bs ++ [x1]).length) cap19), (18, str []), (19, z6 0), (79, p0 d1)] (trivial) ?_
              refine rC 1 [2] [0] [L1_3, bk lb1 126 #[p0 d1, str (nameF [108] 1), n6 long1_1, u6 nx1_1, .bool br1_1], [], bk b1 37 #[z6 keep, z6 at_, u1 turn], bk b3 32 #[u6 x1.seq, .slice x1.a x1.l.length x1.cap], L3, Lr] (down_any C d1 (.map (some m1)) (z6 4194304) (n6 st1_2) (z6 fu1_5) (z6 fa1_3) dn1_2) ?_
              rintro _ _ ⟨rfl, rfl⟩
              refine rQ [] [2] [] (True) [(7, p0 b1), (9, p0 d1), (13, .slice a bs.length cap), (14, .slice (some ⟨b10, o3, none⟩) ((bs ++ [x1]).length) cap19), (18, str []), (19, z6 0), (81, .bool (!dn1_2))] (trivial) ?_
              refine rF ?_
              refine cI (!dn1_2) (fun h38 => ?_) (fun h38 => ?_)
              · have h38p : ¬ (dn1_2 = true) := by first | (simpa using h38; done) | (intro hx; rw [hx] at h38; simp at h38) | (intro hx; rw [Bool.not_eq_true] at hx; rw [hx] at h38; simp at h38)
                refine cd_region ?_
                refine rQ [] [0] [1, 2, 3, 4, 5, 6] (True) [(7, p0 b1), (9, p0 d1), (13, .slice a bs.length cap), (14, .slice (some ⟨b10, o3, none⟩) ((bs ++ [x1]).length) cap19), (83, p0 d1)] (trivial) ?_
                refine rC 1 [2, 3, 4, 5, 6] [0, 0] [bk lb1 126 #[p0 d1, str (nameF [108] 1), n6 long1_1, u6 nx1_1, .bool br1_1], [], bk b1 37 #[z6 keep, z6 at_, u1 turn], bk b3 32 #[u6 x1.seq, .slice x1.a x1.l.length x1.cap], L3, Lr] (dread_any C d1 m1 [(nameF [108] 1, ⟨S ++ T, S.length⟩)] 4194304 st1_2 fu1_5 fa1_3 dn1_2 [108, 45, 49] L1_3 h6) ?_
                rintro _ _ ⟨t4, e8, hf20, rfl, rfl⟩
                refine rQ [] [2, 3, 4, 5, 6] [] (True) [(7, p0 b1), (9, p0 d1), (13, .slice a bs.length cap), (14, .slice (some ⟨b10, o3, none⟩) ((bs ++ [x1]).length) cap19), (18, str t4), (19, n6 e8)] (trivial) ?_
                refine rg_nil ?_
                refine (then_n ?_)
                rw [← ex_name1] at hf20
                obtain ⟨rfl, rfl⟩ := read_sh hf20 (by first | assumption | simp_all)
                refine cd_rg ?_
                refine rQ [(1, .at 4)] [0, 1] [2, 3] ((b1 = b1)) [(7, p0 b1), (9, p0 d1), (13, .slice a bs.length cap), (14, .slice (some ⟨b10, o3, none⟩) ((bs ++ [x1]).length) cap19), (18, str (S ++ T)), (19, z6 0), (87, p0 d1), (88, .agg #[z6 keep, z6 at_, u1 turn])] (rfl) ?_
                refine rN 2 [3] (.cells #[z6 keep, z6 at_, u1 turn] 37 (0, 0)) (fun b11 => sl b11 1 1) (fun b11 => ?_)
                refine rC 3 [] [0, 0, 6] [bk lb1 126 #[p0 d1, str (nameF [108] 1), n6 long1_1, u6 nx1_1, .bool br1_1], [], bk b1 37 #[z6 keep, z6 at_, u1 turn], bk b3 32 #[u6 x1.seq, .slice x1.a x1.l.length x1.cap], L3, Lr] (crash_one C d1 m1 (nameF [108] 1) ⟨S ++ T, S.length⟩ 4194304 st1_2 fu1_5 fa1_3 dn1_2 b11 keep at_ turn L1_3 h6 ⟨Oq.h {}⟩ ⟨Oq.h {}⟩ ⟨Oq.h {}⟩) ?_
                rintro _ _ ⟨fs1_5, L1_21, h39, hf21, rfl, rfl⟩
                refine rD [(7, p0 b1), (9, p0 d1), (13, .slice a bs.length cap), (14, .slice (some ⟨b10, o3, none⟩) ((bs ++ [x1]).length) cap19), (18, str (S ++ T)), (19, z6 0)] ?_
                obtain rfl := hf21
                obtain ⟨X, hX, hX0⟩ := fall_sure S T keep at_ turn
                have hnl := fall_len ⟨S ++ T, S.length⟩ keep at_ turn
                simp only at hnl
                refine cd_rg ?_
                refine rQ [] [0] [1, 2, 3, 4, 5, 6] (True) [(7, p0 b1), (9, p0 d1), (13, .slice a bs.length cap), (14, .slice (some ⟨b10, o3, none⟩) ((bs ++ [x1]).length) cap19), (18, str (S ++ T)), (19, z6 0), (92, p0 d1)] (trivial) ?_
                refine rC 1 [2, 3, 4, 5, 6] [0, 0] [bk b11 37 #[z6 keep, z6 at_, u1 turn], bk lb1 126 #[p0 d1, str (nameF [108] 1), n6 long1_1, u6 nx1_1, .bool br1_1], [], bk b1 37 #[z6 keep, z6 at_, u1 turn], bk b3 32 #[u6 x1.seq, .slice x1.a x1.l.length x1.cap], L3, Lr] (dread_any C d1 m1 [(nameF [108] 1, fallF ⟨S ++ T, S.length⟩ keep at_ turn)] 4194304 st1_2 (-1) (-1) false [108, 45, 49] L1_21 h39) ?_
                rintro _ _ ⟨t5, e9, hf22, rfl, rfl⟩
                refine rQ [] [2, 3, 4, 5, 6] [] (True) [(7, p0 b1), (9, p0 d1), (12, n6 e9), (13, .slice a bs.length cap), (14, .slice (some ⟨b10, o3, none⟩) ((bs ++ [x1]).length) cap19), (18, str (S ++ T)), (19, z6 0), (20, str t5)] (trivial) ?_
                refine rF ?_
                refine cd_seq ?_
                rw [← ex_name1] at hf22
                obtain ⟨rfl, rfl⟩ := read_one hf22 rfl
                refine cd_rg ?_
                refine rQ [(1, .at 5)] [0, 1, 2, 3] [4, 5, 6, 7, 8, 9, 10, 11, 12, 13, 14, 15, 16, 17, 18, 19, 20, 21, 22, 23, 24, 25] ((b1 = b1)) [(9, p0 d1), (12, z6 0), (13, .slice a bs.length cap), (14, .slice (some ⟨b10, o3, none⟩) ((bs ++ [x1]).length) cap19), (18, str (S ++ T)), (19, z6 0), (20, str ((fallF ⟨S ++ T, S.length⟩ keep at_ turn).s)), (99, .bool ((turn : Int) != 0))] (rfl) ?_
                refine rI 99 ((turn : Int) != 0) (fun g8 => ?_) (fun g8 => ?_)
                · have g8p : (turn : Int) ≠ 0 := by simpa using g8
                  refine rQ [] [4, 5, 6] [7, 8, 9, 10, 11, 12, 13, 14, 15, 16, 17, 18, 19, 20, 21, 22, 23, 24, 25] (True) [(9, p0 d1), (12, z6 0), (13, .slice a bs.length cap), (14, .slice (some ⟨b10, o3, none⟩) ((bs ++ [x1]).length) cap19), (18, str (S ++ T)), (19, z6 0), (20, str ((fallF ⟨S ++ T, S.length⟩ keep at_ turn).s)), (99, .bool true), (102, .bool ((S ++ T) == []))] (trivial) ?_
                  refine rI 102 ((S ++ T) == []) (fun g9 => ?_) (fun g9 => ?_)
                  · have g9p : (S ++ T) = [] := by simpa using g9
                    refine rQ [] [7, 8, 9, 10, 11, 12, 13, 14, 15, 16, 17, 18, 19, 20, 21, 22, 23, 24, 25] [] (True) [(9, p0 d1), (12, z6 0), (13, .slice a bs.length cap), (14, .slice (some ⟨b10, o3, none⟩) ((bs ++ [x1]).length) cap19), (19, z6 0), (121, .bool true)] (trivial) ?_
                    refine rF ?_
                    refine cYes ?_
                    refine cQ [] (True) [(8, .bool true)] (trivial) ?_
                    refine cT [] [] ?_
                    refine cd_ret (then_ret (bot_ret (rv [.bool true] (.bool true) ?_)))
                    refine ⟨?_, rfl⟩
                    all_goals first | with_reducible rfl | (exact fin_one hgot key (by assumption); done) | (exact fin_two hgot key; done) | with_reducible assumption | omega | rfl | (simp_all; done) | (simp_all; omega)
                  · have g9p : ¬ ((S ++ T) = []) := by simpa using g9
                    refine rQ [] [7] [8, 9, 10, 11, 12, 13, 14, 15, 16, 17, 18, 19, 20, 21, 22, 23, 24, 25] (True) [(9, p0 d1), (12, z6 0), (13, .slice a bs.length cap), (14, .slice (some ⟨b10, o3, none⟩) ((bs ++ [x1]).length) cap19), (18, str (S ++ T)), (19, z6 0), (20, str ((fallF ⟨S ++ T, S.length⟩ keep at_ turn).s)), (99, .bool true), (102, .bool false), (103, str ((fallF ⟨S ++ T, S.length⟩ keep at_ turn).s))] (trivial) ?_
                    refine rC 8 [9, 10, 11, 12, 13, 14, 15, 16, 17, 18, 19, 20, 21, 22, 23, 24, 25] [] [bk d1 123 #[.map (some m1), z6 4194304, n6 st1_2, z6 (-1), z6 (-1), .bool false], L1_21, bk b11 37 #[z6 keep, z6 at_, u1 turn], bk lb1 126 #[p0 d1, str (nameF [108] 1), n6 long1_1, u6 nx1_1, .bool br1_1], [], bk b1 37 #[z6 keep, z6 at_, u1 turn], bk b3 32 #[u6 x1.seq, .slice x1.a x1.l.length x1.cap], L3, Lr] (refRecords_any C ((fallF ⟨S ++ T, S.length⟩ keep at_ turn).s) ⟨Oq.h {}⟩) ?_
                    rintro _ _ ⟨l2, a20, cap20, L1_22, h40, hf23, rfl, rfl⟩
                    refine rQ [] [9, 10, 11, 12, 13] [14, 15, 16, 17, 18, 19, 20, 21, 22, 23, 24, 25] (True) [(9, p0 d1), (12, z6 0), (13, .slice a bs.length cap), (14, .slice (some ⟨b10, o3, none⟩) ((bs ++ [x1]).length) cap19), (18, str (S ++ T)), (19, z6 0), (20, str ((fallF ⟨S ++ T, S.length⟩ keep at_ turn).s)), (99, .bool true), (102, .bool false), (109, .bool (decide ((l2.length : Int) > (bs.length : Int))))] (trivial) ?_
                    refine rg_join2 [24, 25] [(9, p0 d1), (12, z6 0), (13, .slice a bs.length cap), (14, .slice (some ⟨b10, o3, none⟩) ((bs ++ [x1]).length) cap19), (19, z6 0), (99, .bool true), (102, .bool false), (119, .bool ((decide ((l2.length : Int) > (bs.length : Int))) && (!(((fallF ⟨S ++ T, S.length⟩ keep at_ turn).s) == (((S ++ T).take (if (((S ++ T).length : Nat) : Int) < ((((fallF ⟨S ++ T, S.length⟩ keep at_ turn).s).length : Nat) : Int) then (((S ++ T).length : Nat) : Int) else ((((fallF ⟨S ++ T, S.length⟩ keep at_ turn).s).length : Nat) : Int)).toNat).drop 0)))))] [L1_22, bk d1 123 #[.map (some m1), z6 4194304, n6 st1_2, z6 (-1), z6 (-1), .bool false], L1_21, bk b11 37 #[z6 keep, z6 at_, u1 turn], bk lb1 126 #[p0 d1, str (nameF [108] 1), n6 long1_1, u6 nx1_1, .bool br1_1], [], bk b1 37 #[z6 keep, z6 at_, u1 turn], bk b3 32 #[u6 x1.seq, .slice x1.a x1.l.length x1.cap], L3, Lr] (fun hj => ?_) ?_
                    · refine rI 109 (decide ((l2.length : Int) > (bs.length : Int))) (fun g10 => ?_) (fun g10 => ?_)
                      · have g10p : (l2.length : Int) > (bs.length : Int) := by simpa using g10
                        refine rQ [] [14, 15, 16, 17, 18, 19, 20, 21, 22, 23] [24, 25] ((0 ≤ (0 : Int) ∧ (0 : Int) ≤ (if (((S ++ T).length : Nat) : Int) < ((((fallF ⟨S ++ T, S.length⟩ keep at_ turn).s).length : Nat) : Int) then (((S ++ T).length : Nat) : Int) else ((((fallF ⟨S ++ T, S.length⟩ keep at_ turn).s).length : Nat) : Int)) ∧ (if (((S ++ T).length : Nat) : Int) < ((((fallF ⟨S ++ T, S.length⟩ keep at_ turn).s).length : Nat) : Int) then (((S ++ T).length : Nat) : Int) else ((((fallF ⟨S ++ T, S.length⟩ keep at_ turn).s).length : Nat) : Int)) ≤ ((S ++ T).length : Int))) [(9, p0 d1), (12, z6 0), (13, .slice a bs.length cap), (14, .slice (some ⟨b10, o3, none⟩) ((bs ++ [x1]).length) cap19), (19, z6 0), (99, .bool true), (102, .bool false), (119, .bool (!(((fallF ⟨S ++ T, S.length⟩ keep at_ turn).s) == (((S ++ T).take (if (((S ++ T).length : Nat) : Int) < ((((fallF ⟨S ++ T, S.length⟩ keep at_ turn).s).length : Nat) : Int) then (((S ++ T).length : Nat) : Int) else ((((fallF ⟨S ++ T, S.length⟩ keep at_ turn).s).length : Nat) : Int)).toNat).drop 0))))] (⟨by omega, by omega, by omega⟩) ?_
                        refine rP 119 (.bool (!(((fallF ⟨S ++ T, S.length⟩ keep at_ turn).s) == (((S ++ T).take (if (((S ++ T).length : Nat) : Int) < ((((fallF ⟨S ++ T, S.length⟩ keep at_ turn).s).length : Nat) : Int) then (((S ++ T).length : Nat) : Int) else ((((fallF ⟨S ++ T, S.length⟩ keep at_ turn).s).length : Nat) : Int)).toNat).drop 0)))) (.bool ((decide ((l2.length : Int) > (bs.length : Int))) && (!(((fallF ⟨S ++ T, S.length⟩ keep at_ turn).s) == (((S ++ T).take (if (((S ++ T).length : Nat) : Int) < ((((fallF ⟨S ++ T, S.length⟩ keep at_ turn).s).length : Nat) : Int) then (((S ++ T).length : Nat) : Int) else ((((fallF ⟨S ++ T, S.length⟩ keep at_ turn).s).length : Nat) : Int)).toNat).drop 0))))) (by first | (rw [show (decide ((l2.length : Int) > (bs.length : Int))) = true from g10]; done) | (rw [show (decide ((l2.length : Int) > (bs.length : Int))) = true from g10]; rfl)) ?_
                        exact rM hj
                      · have g10p : ¬ ((l2.length : Int) > (bs.length : Int)) := by simpa using g10
                        refine rQ [] [14, 15, 16, 17, 18, 19, 20, 21, 22, 23] [24, 25] (True) [(9, p0 d1), (12, z6 0), (13, .slice a bs.length cap), (14, .slice (some ⟨b10, o3, none⟩) ((bs ++ [x1]).length) cap19), (19, z6 0), (99, .bool true), (102, .bool false), (119, .bool false)] (trivial) ?_
                        refine rP 119 (.bool false) (.bool ((decide ((l2.length : Int) > (bs.length : Int))) && (!(((fallF ⟨S ++ T, S.length⟩ keep at_ turn).s) == (((S ++ T).take (if (((S ++ T).length : Nat) : Int) < ((((fallF ⟨S ++ T, S.length⟩ keep at_ turn).s).length : Nat) : Int) then (((S ++ T).length : Nat) : Int) else ((((fallF ⟨S ++ T, S.length⟩ keep at_ turn).s).length : Nat) : Int)).toNat).drop 0))))) (by first | (rw [show (decide ((l2.length : Int) > (bs.length : Int))) = false from g10]; done) | (rw [show (decide ((l2.length : Int) > (bs.length : Int))) = false from g10]; rfl)) ?_
                        exact rM hj
                    refine rQ [] [24, 25] [] (True) [(9, p0 d1), (12, z6 0), (13, .slice a bs.length cap), (14, .slice (some ⟨b10, o3, none⟩) ((bs ++ [x1]).length) cap19), (19, z6 0), (121, .bool ((decide ((l2.length : Int) > (bs.length : Int))) && (!(((fallF ⟨S ++ T, S.length⟩ keep at_ turn).s) == (((S ++ T).take (if (((S ++ T).length : Nat) : Int) < ((((fallF ⟨S ++ T, S.length⟩ keep at_ turn).s).length : Nat) : Int) then (((S ++ T).length : Nat) : Int) else ((((fallF ⟨S ++ T, S.length⟩ keep at_ turn).s).length : Nat) : Int)).toNat).drop 0)))))] (trivial) ?_
                    refine rF ?_
                    refine cI ((decide ((l2.length : Int) > (bs.length : Int))) && (!(((fallF ⟨S ++ T, S.length⟩ keep at_ turn).s) == (((S ++ T).take (if (((S ++ T).length : Nat) : Int) < ((((fallF ⟨S ++ T, S.length⟩ keep at_ turn).s).length : Nat) : Int) then (((S ++ T).length : Nat) : Int) else ((((fallF ⟨S ++ T, S.length⟩ keep at_ turn).s).length : Nat) : Int)).toNat).drop 0)))) (fun h41 => ?_) (fun h41 => ?_)
                    · have h41p : ((l2.length : Int) > (bs.length : Int)) ∧ (¬ (((fallF ⟨S ++ T, S.length⟩ keep at_ turn).s) = (((S ++ T).take (if (((S ++ T).length : Nat) : Int) < ((((fallF ⟨S ++ T, S.length⟩ keep at_ turn).s).length : Nat) : Int) then (((S ++ T).length : Nat) : Int) else ((((fallF ⟨S ++ T, S.length⟩ keep at_ turn).s).length : Nat) : Int)).toNat).drop 0))) := by simpa using h41
                      refine cQ [] (True) [(8, .bool true)] (trivial) ?_
                      refine cT [] [] ?_
                      refine cd_ret (then_ret (bot_ret (rv [.bool true] (.bool true) ?_)))
                      refine ⟨?_, rfl⟩
                      all_goals first | with_reducible rfl | (exact fin_one hgot key (by assumption); done) | (exact fin_two hgot key; done) | with_reducible assumption | omega | rfl | (simp_all; done) | (simp_all; omega)
                    · have h41p : ¬ (((l2.length : Int) > (bs.length : Int)) ∧ (¬ (((fallF ⟨S ++ T, S.length⟩ keep at_ turn).s) = (((S ++ T).take (if (((S ++ T).length : Nat) : Int) < ((((fallF ⟨S ++ T, S.length⟩ keep at_ turn).s).length : Nat) : Int) then (((S ++ T).length : Nat) : Int) else ((((fallF ⟨S ++ T, S.length⟩ keep at_ turn).s).length : Nat) : Int)).toNat).drop 0)))) := by simpa using h41
                      refine cd_skip (then_n ?_)
                      refine cd_rg ?_
                      refine rQ [] [0] [1, 2, 3, 4, 5, 6] (True) [(12, z6 0), (13, .slice a bs.length cap), (14, .slice (some ⟨b10, o3, none⟩) ((bs ++ [x1]).length) cap19), (19, z6 0), (123, p0 d1)] (trivial) ?_
                      refine rC 1 [2, 3, 4, 5, 6] [1, 1] [L1_22, bk b11 37 #[z6 keep, z6 at_, u1 turn], bk lb1 126 #[p0 d1, str (nameF [108] 1), n6 long1_1, u6 nx1_1, .bool br1_1], [], bk b1 37 #[z6 keep, z6 at_, u1 turn], bk b3 32 #[u6 x1.seq, .slice x1.a x1.l.length x1.cap], L3, Lr] (walLoad_any C d1 m1 [(nameF [108] 1, fallF ⟨S ++ T, S.length⟩ keep at_ turn)] 4194304 st1_2 (-1) (-1) false 1 L1_21 h39 ⟨Oq.h {}⟩ ⟨Oq.h {}⟩) ?_
                      rintro _ _ ⟨bs4, a21, cap21, Lr4, LB1_4, e10, h42, h43, hf24, hf25, rfl, rfl⟩
                      refine rQ [] [2, 3, 4, 5, 6] [] (True) [(12, z6 0), (13, .slice a bs.length cap), (14, .slice (some ⟨b10, o3, none⟩) ((bs ++ [x1]).length) cap19), (19, z6 0), (21, .slice a21 bs4.length cap21), (22, n6 e10)] (trivial) ?_
                      refine rF ?_
                      obtain ⟨rfl, hgot⟩ := load_one hf24 hf25
                      have hgs := bt_small (hgot.trans List.take_length.symm)
                      have hgl := bt_len (hgot.trans List.take_length.symm)
                      have key := crash_law (shown := (S ++ T)) hL hT hX hX0 (.inr (by simp)) (by first | exact cond_turn (by assumption) | exact cond_long (by assumption) (by assumption) (by assumption))
                      have hB2 := ins_push hB (hb x1 (List.mem_of_getElem? hx1))
                      refine cd_rg ?_
                      refine rQ [] [0, 1, 2, 3, 4, 5, 6, 7, 8, 9, 10, 11] [12, 13, 14, 15, 16, 17, 18, 19, 20, 21, 22, 23, 24] (True) [(13, .slice a bs.length cap), (14, .slice (some ⟨b10, o3, none⟩) ((bs ++ [x1]).length) cap19), (21, .slice a21 bs4.length cap21), (137, .bool true), (138, .slice a21 bs4.length cap21)] (trivial) ?_
                      refine rC 12 [13, 14, 15, 16, 17, 18, 19, 20, 21, 22, 23, 24] [0] [LB1_4, bk d1 123 #[.map (some m1), z6 4194304, n6 st1_2, z6 (-1), z6 (-1), .bool false], L1_21, L1_22, bk b11 37 #[z6 keep, z6 at_, u1 turn], bk lb1 126 #[p0 d1, str (nameF [108] 1), n6 long1_1, u6 nx1_1, .bool br1_1], [], bk b1 37 #[z6 keep, z6 at_, u1 turn], bk b3 32 #[u6 x1.seq, .slice x1.a x1.l.length x1.cap], L3, Lr] (to_any C cap21 bs4 a21 Lr4 (SeesL.mono (Row.seesL (C := C) (l := bs4) (enc := btv) h42 rfl rfl (fun _ => rfl) (by decide)) (by intro p hp; first | exact hp | (simp [hp]; done) | cases hp)) ⟨Oq.h {}⟩) ?_
                      rintro _ _ ⟨a22, cap22, L1_23, h44, rfl, rfl⟩
                      refine rQ [] [13] [14, 15, 16, 17, 18, 19, 20, 21, 22, 23, 24] (True) [(14, .slice (some ⟨b10, o3, none⟩) ((bs ++ [x1]).length) cap19), (21, .slice a21 bs4.length cap21), (137, .bool true), (139, .slice a22 bs4.length cap22), (140, .slice a bs.length cap)] (trivial) ?_
                      refine rC 14 [15, 16, 17, 18, 19, 20, 21, 22, 23, 24] [12] [L1_23, Lr4, LB1_4, bk d1 123 #[.map (some m1), z6 4194304, n6 st1_2, z6 (-1), z6 (-1), .bool false], L1_21, L1_22, bk b11 37 #[z6 keep, z6 at_, u1 turn], bk lb1 126 #[p0 d1, str (nameF [108] 1), n6 long1_1, u6 nx1_1, .bool br1_1], [], bk b1 37 #[z6 keep, z6 at_, u1 turn], bk b3 32 #[u6 x1.seq, .slice x1.a x1.l.length x1.cap], L3] (to_any C cap bs a Lr (SeesL.mono (Row.seesL (C := C) (l := bs) (enc := btv) hR rfl rfl (fun _ => rfl) (by decide)) (by intro p hp; first | exact hp | (simp [hp]; done) | cases hp)) ⟨Oq.h {}⟩) ?_
                      rintro _ _ ⟨a23, cap23, L1_24, h45, rfl, rfl⟩
                      refine rR 15 [16, 17, 18, 19, 20, 21, 22, 23, 24] (same16_any C cap22 cap23 _ a22 bs4 a23 bs (SeesL.mono (Row.seesL (C := C) (l := bs4) (enc := btv) h44 rfl rfl (fun _ => rfl) (by decide)) (by intro p hp; first | exact hp | (simp [hp]; done) | cases hp)) (SeesL.mono (Row.seesL (C := C) (l := bs) (enc := btv) h45 rfl rfl (fun _ => rfl) (by decide)) (by intro p hp; first | exact hp | (simp [hp]; done) | cases hp)) ⟨Oq.h {}⟩ ⟨Oq.h {}⟩ ⟨Oq.h {}⟩ ⟨Oq.h {}⟩) ?_
                      rintro _ rfl
                      refine rQ [] [16] [17, 18, 19, 20, 21, 22, 23, 24] (True) [(14, .slice (some ⟨b10, o3, none⟩) ((bs ++ [x1]).length) cap19), (21, .slice a21 bs4.length cap21), (137, .bool true), (143, .bool (decide (bs4.map Bt.bat = bs.map Bt.bat)))] (trivial) ?_
                      refine rI 143 (decide (bs4.map Bt.bat = bs.map Bt.bat)) (fun g11 => ?_) (fun g11 => ?_)
                      · skip
                        refine rQ [] [17, 18, 19, 20, 21, 22, 23, 24] [] (True) [(8, .bool true)] (trivial) ?_
                        refine rF ?_
                        refine cT [] [] ?_
                        refine cd_ret (bot_ret (rv [.bool true] (.bool true) ?_))
                        refine ⟨?_, rfl⟩
                        all_goals first | with_reducible rfl | (exact fin_one hgot key (by assumption); done) | (exact fin_two hgot key; done) | with_reducible assumption | omega | rfl | (simp_all; done) | (simp_all; omega)
                      · skip
                        refine rQ [] [17] [18, 19, 20, 21, 22, 23, 24] (True) [(14, .slice (some ⟨b10, o3, none⟩) ((bs ++ [x1]).length) cap19), (137, .bool true), (143, .bool false), (144, .slice a21 bs4.length cap21)] (trivial) ?_
                        refine rC 18 [19, 20, 21, 22, 23, 24] [3] [L1_24, Lr, L1_23, LB1_4, bk d1 123 #[.map (some m1), z6 4194304, n6 st1_2, z6 (-1), z6 (-1), .bool false], L1_21, L1_22, bk b11 37 #[z6 keep, z6 at_, u1 turn], bk lb1 126 #[p0 d1, str (nameF [108] 1), n6 long1_1, u6 nx1_1, .bool br1_1], [], bk b1 37 #[z6 keep, z6 at_, u1 turn], bk b3 32 #[u6 x1.seq, .slice x1.a x1.l.length x1.cap], L3] (to_any C cap21 bs4 a21 Lr4 (SeesL.mono (Row.seesL (C := C) (l := bs4) (enc := btv) h42 rfl rfl (fun _ => rfl) (by decide)) (by intro p hp; first | exact hp | (simp [hp]; done) | cases hp)) ⟨Oq.h {}⟩) ?_
                        rintro _ _ ⟨a24, cap24, L1_25, h46, rfl, rfl⟩
                        refine rQ [] [19] [20, 21, 22, 23, 24] (True) [(137, .bool true), (143, .bool false), (145, .slice a24 bs4.length cap24), (146, .slice (some ⟨b10, o3, none⟩) ((bs ++ [x1]).length) cap19)] (trivial) ?_
                        refine rC 20 [21, 22, 23, 24] [14] [L1_25, Lr4, L1_24, Lr, L1_23, LB1_4, bk d1 123 #[.map (some m1), z6 4194304, n6 st1_2, z6 (-1), z6 (-1), .bool false], L1_21, L1_22, bk b11 37 #[z6 keep, z6 at_, u1 turn], bk lb1 126 #[p0 d1, str (nameF [108] 1), n6 long1_1, u6 nx1_1, .bool br1_1], [], bk b1 37 #[z6 keep, z6 at_, u1 turn], bk b3 32 #[u6 x1.seq, .slice x1.a x1.l.length x1.cap]] (to_any C cap19 (bs ++ [x1]) (some ⟨b10, o3, none⟩) L3 (SeesL.mono (Row.seesL (C := C) (l := bs ++ [x1]) (enc := btv) h37 rfl rfl (fun _ => rfl) (by decide)) (by intro p hp; first | exact hp | (simp [hp]; done) | cases hp)) ⟨Oq.h {}⟩) ?_
                        rintro _ _ ⟨a25, cap25, L1_26, h47, rfl, rfl⟩
                        refine rR 21 [22, 23, 24] (same16_any C cap24 cap25 _ a24 bs4 a25 (bs ++ [x1]) (SeesL.mono (Row.seesL (C := C) (l := bs4) (enc := btv) h46 rfl rfl (fun _ => rfl) (by decide)) (by intro p hp; first | exact hp | (simp [hp]; done) | cases hp)) (SeesL.mono (Row.seesL (C := C) (l := bs ++ [x1]) (enc := btv) h47 rfl rfl (fun _ => rfl) (by decide)) (by intro p hp; first | exact hp | (simp [hp]; done) | cases hp)) ⟨Oq.h {}⟩ ⟨Oq.h {}⟩ ⟨Oq.h {}⟩ ⟨Oq.h {}⟩) ?_
                        rintro _ rfl
                        refine rQ [] [22, 23, 24] [] (True) [(8, .bool (decide (bs4.map Bt.bat = (bs ++ [x1]).map Bt.bat)))] (trivial) ?_
                        refine rF ?_
                        refine cT [] [] ?_
                        refine cd_ret (bot_ret (rv [.bool (decide (bs4.map Bt.bat = (bs ++ [x1]).map Bt.bat))] (.bool (decide (bs4.map Bt.bat = (bs ++ [x1]).map Bt.bat))) ?_))
                        refine ⟨?_, rfl⟩
                        all_goals first | with_reducible rfl | (exact fin_one hgot key (by assumption); done) | (exact fin_two hgot key; done) | with_reducible assumption | omega | rfl | (simp_all; done) | (simp_all; omega)
                · have g8p : ¬ ((turn : Int) ≠ 0) := by simpa using g8
                  refine rQ [] [4, 5, 6, 7, 8, 9, 10, 11, 12, 13, 14, 15, 16, 17, 18, 19, 20, 21, 22, 23, 24, 25] [] (True) [(9, p0 d1), (12, z6 0), (13, .slice a bs.length cap), (14, .slice (some ⟨b10, o3, none⟩) ((bs ++ [x1]).length) cap19), (19, z6 0), (121, .bool false)] (trivial) ?_
                  refine rF ?_
                  refine cNo ?_
                  refine cd_skip (then_n ?_)
                  refine cd_rg ?_
                  refine rQ [] [0] [1, 2, 3, 4, 5, 6] (True) [(12, z6 0), (13, .slice a bs.length cap), (14, .slice (some ⟨b10, o3, none⟩) ((bs ++ [x1]).length) cap19), (19, z6 0), (123, p0 d1)] (trivial) ?_
                  refine rC 1 [2, 3, 4, 5, 6] [0, 0] [bk b11 37 #[z6 keep, z6 at_, u1 turn], bk lb1 126 #[p0 d1, str (nameF [108] 1), n6 long1_1, u6 nx1_1, .bool br1_1], [], bk b1 37 #[z6 keep, z6 at_, u1 turn], bk b3 32 #[u6 x1.seq, .slice x1.a x1.l.length x1.cap], L3, Lr] (walLoad_any C d1 m1 [(nameF [108] 1, fallF ⟨S ++ T, S.length⟩ keep at_ turn)] 4194304 st1_2 (-1) (-1) false 1 L1_21 h39 ⟨Oq.h {}⟩ ⟨Oq.h {}⟩) ?_
                  rintro _ _ ⟨bs5, a26, cap26, Lr5, LB1_5, e11, h48, h49, hf26, hf27, rfl, rfl⟩
                  refine rQ [] [2, 3, 4, 5, 6] [] (True) [(12, z6 0), (13, .slice a bs.length cap), (14, .slice (some ⟨b10, o3, none⟩) ((bs ++ [x1]).length) cap19), (19, z6 0), (21, .slice a26 bs5.length cap26), (22, n6 e11)] (trivial) ?_
                  refine rF ?_
                  obtain ⟨rfl, hgot⟩ := load_one hf26 hf27
                  have hgs := bt_small (hgot.trans List.take_length.symm)
                  have hgl := bt_len (hgot.trans List.take_length.symm)
                  have key := crash_law (shown := (S ++ T)) hL hT hX hX0 (.inr (by simp)) (by first | exact cond_turn (by assumption) | exact cond_long (by assumption) (by assumption) (by assumption))
                  have hB2 := ins_push hB (hb x1 (List.mem_of_getElem? hx1))
                  refine cd_rg ?_
                  refine rQ [] [0, 1, 2, 3, 4, 5, 6, 7, 8, 9, 10, 11] [12, 13, 14, 15, 16, 17, 18, 19, 20, 21, 22, 23, 24] (True) [(13, .slice a bs.length cap), (14, .slice (some ⟨b10, o3, none⟩) ((bs ++ [x1]).length) cap19), (21, .slice a26 bs5.length cap26), (137, .bool true), (138, .slice a26 bs5.length cap26)] (trivial) ?_
                  refine rC 12 [13, 14, 15, 16, 17, 18, 19, 20, 21, 22, 23, 24] [0] [LB1_5, bk d1 123 #[.map (some m1), z6 4194304, n6 st1_2, z6 (-1), z6 (-1), .bool false], L1_21, bk b11 37 #[z6 keep, z6 at_, u1 turn], bk lb1 126 #[p0 d1, str (nameF [108] 1), n6 long1_1, u6 nx1_1, .bool br1_1], [], bk b1 37 #[z6 keep, z6 at_, u1 turn], bk b3 32 #[u6 x1.seq, .slice x1.a x1.l.length x1.cap], L3, Lr] (to_any C cap26 bs5 a26 Lr5 (SeesL.mono (Row.seesL (C := C) (l := bs5) (enc := btv) h48 rfl rfl (fun _ => rfl) (by decide)) (by intro p hp; first | exact hp | (simp [hp]; done) | cases hp)) ⟨Oq.h {}⟩) ?_
                  rintro _ _ ⟨a27, cap27, L1_27, h50, rfl, rfl⟩
                  refine rQ [] [13] [14, 15, 16, 17, 18, 19, 20, 21, 22, 23, 24] (True) [(14, .slice (some ⟨b10, o3, none⟩) ((bs ++ [x1]).length) cap19), (21, .slice a26 bs5.length cap26), (137, .bool true), (139, .slice a27 bs5.length cap27), (140, .slice a bs.length cap)] (trivial) ?_
                  refine rC 14 [15, 16, 17, 18, 19, 20, 21, 22, 23, 24] [11] [L1_27, Lr5, LB1_5, bk d1 123 #[.map (some m1), z6 4194304, n6 st1_2, z6 (-1), z6 (-1), .bool false], L1_21, bk b11 37 #[z6 keep, z6 at_, u1 turn], bk lb1 126 #[p0 d1, str (nameF [108] 1), n6 long1_1, u6 nx1_1, .bool br1_1], [], bk b1 37 #[z6 keep, z6 at_, u1 turn], bk b3 32 #[u6 x1.seq, .slice x1.a x1.l.length x1.cap], L3] (to_any C cap bs a Lr (SeesL.mono (Row.seesL (C := C) (l := bs) (enc := btv) hR rfl rfl (fun _ => rfl) (by decide)) (by intro p hp; first | exact hp | (simp [hp]; done) | cases hp)) ⟨Oq.h {}⟩) ?_
                  rintro _ _ ⟨a28, cap28, L1_28, h51, rfl, rfl⟩
                  refine rR 15 [16, 17, 18, 19, 20, 21, 22, 23, 24] (same16_any C cap27 cap28 _ a27 bs5 a28 bs (SeesL.mono (Row.seesL (C := C) (l := bs5) (enc := btv) h50 rfl rfl (fun _ => rfl) (by decide)) (by intro p hp; first | exact hp | (simp [hp]; done) | cases hp)) (SeesL.mono (Row.seesL (C := C) (l := bs) (enc := btv) h51 rfl rfl (fun _ => rfl) (by decide)) (by intro p hp; first | exact hp | (simp [hp]; done) | cases hp)) ⟨Oq.h {}⟩ ⟨Oq.h {}⟩ ⟨Oq.h {}⟩ ⟨Oq.h {}⟩) ?_
                  rintro _ rfl
                  refine rQ [] [16] [17, 18, 19, 20, 21, 22, 23, 24] (True) [(14, .slice (some ⟨b10, o3, none⟩) ((bs ++ [x1]).length) cap19), (21, .slice a26 bs5.length cap26), (137, .bool true), (143, .bool (decide (bs5.map Bt.bat = bs.map Bt.bat)))] (trivial) ?_
                  refine rI 143 (decide (bs5.map Bt.bat = bs.map Bt.bat)) (fun g12 => ?_) (fun g12 => ?_)
                  · skip
                    refine rQ [] [17, 18, 19, 20, 21, 22, 23, 24] [] (True) [(8, .bool true)] (trivial) ?_
                    refine rF ?_
                    refine cT [] [] ?_
                    refine cd_ret (bot_ret (rv [.bool true] (.bool true) ?_))
                    refine ⟨?_, rfl⟩
                    all_goals first | with_reducible rfl | (exact fin_one hgot key (by assumption); done) | (exact fin_two hgot key; done) | with_reducible assumption | omega | rfl | (simp_all; done) | (simp_all; omega)
                  · skip
                    refine rQ [] [17] [18, 19, 20, 21, 22, 23, 24] (True) [(14, .slice (some ⟨b10, o3, none⟩) ((bs ++ [x1]).length) cap19), (137, .bool true), (143, .bool false), (144, .slice a26 bs5.length cap26)] (trivial) ?_
                    refine rC 18 [19, 20, 21, 22, 23, 24] [3] [L1_28, Lr, L1_27, LB1_5, bk d1 123 #[.map (some m1), z6 4194304, n6 st1_2, z6 (-1), z6 (-1), .bool false], L1_21, bk b11 37 #[z6 keep, z6 at_, u1 turn], bk lb1 126 #[p0 d1, str (nameF [108] 1), n6 long1_1, u6 nx1_1, .bool br1_1], [], bk b1 37 #[z6 keep, z6 at_, u1 turn], bk b3 32 #[u6 x1.seq, .slice x1.a x1.l.length x1.cap], L3] (to_any C cap26 bs5 a26 Lr5 (SeesL.mono (Row.seesL (C := C) (l := bs5) (enc := btv) h48 rfl rfl (fun _ => rfl) (by decide)) (by intro p hp; first | exact hp | (simp [hp]; done) | cases hp)) ⟨Oq.h {}⟩) ?_
                    rintro _ _ ⟨a29, cap29, L1_29, h52, rfl, rfl⟩
                    refine rQ [] [19] [20, 21, 22, 23, 24] (True) [(137, .bool true), (143, .bool false), (145, .slice a29 bs5.length cap29), (146, .slice (some ⟨b10, o3, none⟩) ((bs ++ [x1]).length) cap19)] (trivial) ?_
                    refine rC 20 [21, 22, 23, 24] [13] [L1_29, Lr5, L1_28, Lr, L1_27, LB1_5, bk d1 123 #[.map (some m1), z6 4194304, n6 st1_2, z6 (-1), z6 (-1), .bool false], L1_21, bk b11 37 #[z6 keep, z6 at_, u1 turn], bk lb1 126 #[p0 d1, str (nameF [108] 1), n6 long1_1, u6 nx1_1, .bool br1_1], [], bk b1 37 #[z6 keep, z6 at_, u1 turn], bk b3 32 #[u6 x1.seq, .slice x1.a x1.l.length x1.cap]] (to_any C cap19 (bs ++ [x1]) (some ⟨b10, o3, none⟩) L3 (SeesL.mono (Row.seesL (C := C) (l := bs ++ [x1]) (enc := btv) h37 rfl rfl (fun _ => rfl) (by decide)) (by intro p hp; first | exact hp | (simp [hp]; done) | cases hp)) ⟨Oq.h {}⟩) ?_
                    rintro _ _ ⟨a30, cap30, L1_30, h53, rfl, rfl⟩
                    refine rR 21 [22, 23, 24] (same16_any C cap29 cap30 _ a29 bs5 a30 (bs ++ [x1]) (SeesL.mono (Row.seesL (C := C) (l := bs5) (enc := btv) h52 rfl rfl (fun _ => rfl) (by decide)) (by intro p hp; first | exact hp | (simp [hp]; done) | cases hp)) (SeesL.mono (Row.seesL (C := C) (l := bs ++ [x1]) (enc := btv) h53 rfl rfl (fun _ => rfl) (by decide)) (by intro p hp; first | exact hp | (simp [hp]; done) | cases hp)) ⟨Oq.h {}⟩ ⟨Oq.h {}⟩ ⟨Oq.h {}⟩ ⟨Oq.h {}⟩) ?_
                    rintro _ rfl
                    refine rQ [] [22, 23, 24] [] (True) [(8, .bool (decide (bs5.map Bt.bat = (bs ++ [x1]).map Bt.bat)))] (trivial) ?_
                    refine rF ?_
                    refine cT [] [] ?_
                    refine cd_ret (bot_ret (rv [.bool (decide (bs5.map Bt.bat = (bs ++ [x1]).map Bt.bat))] (.bool (decide (bs5.map Bt.bat = (bs ++ [x1]).map Bt.bat))) ?_))
                    refine ⟨?_, rfl⟩
                    all_goals first | with_reducible rfl | (exact fin_one hgot key (by assumption); done) | (exact fin_two hgot key; done) | with_reducible assumption | omega | rfl | (simp_all; done) | (simp_all; omega)
              · have h38p : ¬ (¬ (dn1_2 = true)) := by first | (simpa using h38; done) | (intro hx; rw [hx] at h38; simp at h38) | (intro hx; rw [Bool.not_eq_true] at hx; rw [hx] at h38; simp at h38)
                refine cd_skip (then_n ?_)
                refine cd_rg ?_
                refine rQ [(1, .at 4)] [0, 1] [2, 3] ((b1 = b1)) [(7, p0 b1), (9, p0 d1), (13, .slice a bs.length cap), (14, .slice (some ⟨b10, o3, none⟩) ((bs ++ [x1]).length) cap19), (18, str []), (19, z6 0), (87, p0 d1), (88, .agg #[z6 keep, z6 at_, u1 turn])] (rfl) ?_
                refine rN 2 [3] (.cells #[z6 keep, z6 at_, u1 turn] 37 (0, 0)) (fun b12 => sl b12 1 1) (fun b12 => ?_)
                refine rC 3 [] [0, 0, 6] [bk lb1 126 #[p0 d1, str (nameF [108] 1), n6 long1_1, u6 nx1_1, .bool br1_1], [], bk b1 37 #[z6 keep, z6 at_, u1 turn], bk b3 32 #[u6 x1.seq, .slice x1.a x1.l.length x1.cap], L3, Lr] (crash_one C d1 m1 (nameF [108] 1) ⟨S ++ T, S.length⟩ 4194304 st1_2 fu1_5 fa1_3 dn1_2 b12 keep at_ turn L1_3 h6 ⟨Oq.h {}⟩ ⟨Oq.h {}⟩ ⟨Oq.h {}⟩) ?_
                rintro _ _ ⟨fs1_6, L1_31, h54, hf28, rfl, rfl⟩
                refine rD [(7, p0 b1), (9, p0 d1), (13, .slice a bs.length cap), (14, .slice (some ⟨b10, o3, none⟩) ((bs ++ [x1]).length) cap19), (18, str []), (19, z6 0)] ?_
                obtain rfl := hf28
                obtain ⟨X, hX, hX0⟩ := fall_sure S T keep at_ turn
                have hnl := fall_len ⟨S ++ T, S.length⟩ keep at_ turn
                simp only at hnl
                refine cd_rg ?_
                refine rQ [] [0] [1, 2, 3, 4, 5, 6] (True) [(7, p0 b1), (9, p0 d1), (13, .slice a bs.length cap), (14, .slice (some ⟨b10, o3, none⟩) ((bs ++ [x1]).length) cap19), (18, str []), (19, z6 0), (92, p0 d1)] (trivial) ?_
                refine rC 1 [2, 3, 4, 5, 6] [0, 0] [bk b12 37 #[z6 keep, z6 at_, u1 turn], bk lb1 126 #[p0 d1, str (nameF [108] 1), n6 long1_1, u6 nx1_1, .bool br1_1], [], bk b1 37 #[z6 keep, z6 at_, u1 turn], bk b3 32 #[u6 x1.seq, .slice x1.a x1.l.length x1.cap], L3, Lr] (dread_any C d1 m1 [(nameF [108] 1, fallF ⟨S ++ T, S.length⟩ keep at_ turn)] 4194304 st1_2 (-1) (-1) false [108, 45, 49] L1_31 h54) ?_
                rintro _ _ ⟨t6, e12, hf29, rfl, rfl⟩
                refine rQ [] [2, 3, 4, 5, 6] [] (True) [(7, p0 b1), (9, p0 d1), (12, n6 e12), (13, .slice a bs.length cap), (14, .slice (some ⟨b10, o3, none⟩) ((bs ++ [x1]).length) cap19), (18, str []), (19, z6 0), (20, str t6)] (trivial) ?_
                refine rF ?_
                refine cd_seq ?_
                rw [← ex_name1] at hf29
                obtain ⟨rfl, rfl⟩ := read_one hf29 rfl
                refine cd_rg ?_
                refine rQ [(1, .at 5)] [0, 1, 2, 3] [4, 5, 6, 7, 8, 9, 10, 11, 12, 13, 14, 15, 16, 17, 18, 19, 20, 21, 22, 23, 24, 25] ((b1 = b1)) [(9, p0 d1), (12, z6 0), (13, .slice a bs.length cap), (14, .slice (some ⟨b10, o3, none⟩) ((bs ++ [x1]).length) cap19), (18, str []), (19, z6 0), (20, str ((fallF ⟨S ++ T, S.length⟩ keep at_ turn).s)), (99, .bool ((turn : Int) != 0))] (rfl) ?_
                refine rg_join2 [] [(9, p0 d1), (12, z6 0), (13, .slice a bs.length cap), (14, .slice (some ⟨b10, o3, none⟩) ((bs ++ [x1]).length) cap19), (19, z6 0), (121, .bool ((turn : Int) != 0))] [bk d1 123 #[.map (some m1), z6 4194304, n6 st1_2, z6 (-1), z6 (-1), .bool false], L1_31, bk b12 37 #[z6 keep, z6 at_, u1 turn], bk lb1 126 #[p0 d1, str (nameF [108] 1), n6 long1_1, u6 nx1_1, .bool br1_1], [], bk b1 37 #[z6 keep, z6 at_, u1 turn], bk b3 32 #[u6 x1.seq, .slice x1.a x1.l.length x1.cap], L3, Lr] (fun hj => ?_) ?_
                · refine rI 99 ((turn : Int) != 0) (fun g13 => ?_) (fun g13 => ?_)
                  · have g13p : (turn : Int) ≠ 0 := by simpa using g13
                    refine rQ [] [4, 5, 6, 7, 8, 9, 10, 11, 12, 13, 14, 15, 16, 17, 18, 19, 20, 21, 22, 23, 24, 25] [] (True) [(9, p0 d1), (12, z6 0), (13, .slice a bs.length cap), (14, .slice (some ⟨b10, o3, none⟩) ((bs ++ [x1]).length) cap19), (19, z6 0), (121, .bool true)] (trivial) ?_
                    refine rP 121 (.bool true) (.bool ((turn : Int) != 0)) (by first | (rw [show ((turn : Int) != 0) = true from g13]; done) | (rw [show ((turn : Int) != 0) = true from g13]; rfl)) ?_
                    exact rM hj
                  · have g13p : ¬ ((turn : Int) ≠ 0) := by simpa using g13
                    refine rQ [] [4, 5, 6, 7, 8, 9, 10, 11, 12, 13, 14, 15, 16, 17, 18, 19, 20, 21, 22, 23, 24, 25] [] (True) [(9, p0 d1), (12, z6 0), (13, .slice a bs.length cap), (14, .slice (some ⟨b10, o3, none⟩) ((bs ++ [x1]).length) cap19), (19, z6 0), (121, .bool false)] (trivial) ?_
                    refine rP 121 (.bool false) (.bool ((turn : Int) != 0)) (by first | (rw [show ((turn : Int) != 0) = false from g13]; done) | (rw [show ((turn : Int) != 0) = false from g13]; rfl)) ?_
                    exact rM hj
                refine rD [(9, p0 d1), (12, z6 0), (13, .slice a bs.length cap), (14, .slice (some ⟨b10, o3, none⟩) ((bs ++ [x1]).length) cap19), (19, z6 0), (121, .bool ((turn : Int) != 0))] ?_
                refine cI ((turn : Int) != 0) (fun h55 => ?_) (fun h55 => ?_)
                · have h55p : (turn : Int) ≠ 0 := by simpa using h55
                  refine cQ [] (True) [(8, .bool true)] (trivial) ?_
                  refine cT [] [] ?_
                  refine cd_ret (then_ret (bot_ret (rv [.bool true] (.bool true) ?_)))
                  refine ⟨?_, rfl⟩
                  all_goals first | with_reducible rfl | (exact fin_one hgot key (by assumption); done) | (exact fin_two hgot key; done) | with_reducible assumption | omega | rfl | (simp_all; done) | (simp_all; omega)
                · have h55p : ¬ ((turn : Int) ≠ 0) := by simpa using h55
                  refine cd_skip (then_n ?_)
                  refine cd_rg ?_
                  refine rQ [] [0] [1, 2, 3, 4, 5, 6] (True) [(12, z6 0), (13, .slice a bs.length cap), (14, .slice (some ⟨b10, o3, none⟩) ((bs ++ [x1]).length) cap19), (19, z6 0), (123, p0 d1)] (trivial) ?_
                  refine rC 1 [2, 3, 4, 5, 6] [0, 0] [bk b12 37 #[z6 keep, z6 at_, u1 turn], bk lb1 126 #[p0 d1, str (nameF [108] 1), n6 long1_1, u6 nx1_1, .bool br1_1], [], bk b1 37 #[z6 keep, z6 at_, u1 turn], bk b3 32 #[u6 x1.seq, .slice x1.a x1.l.length x1.cap], L3, Lr] (walLoad_any C d1 m1 [(nameF [108] 1, fallF ⟨S ++ T, S.length⟩ keep at_ turn)] 4194304 st1_2 (-1) (-1) false 1 L1_31 h54 ⟨Oq.h {}⟩ ⟨Oq.h {}⟩) ?_
                  rintro _ _ ⟨bs6, a31, cap31, Lr6, LB1_6, e13, h56, h57, hf30, hf31, rfl, rfl⟩
                  refine rQ [] [2, 3, 4, 5, 6] [] (True) [(12, z6 0), (13, .slice a bs.length cap), (14, .slice (some ⟨b10, o3, none⟩) ((bs ++ [x1]).length) cap19), (19, z6 0), (21, .slice a31 bs6.length cap31), (22, n6 e13)] (trivial) ?_
                  refine rF ?_
                  obtain ⟨rfl, hgot⟩ := load_one hf30 hf31
                  have hgs := bt_small (hgot.trans List.take_length.symm)
                  have hgl := bt_len (hgot.trans List.take_length.symm)
                  have key := crash_law (shown := []) hL hT hX hX0 (.inl rfl) (by first | exact cond_turn (by assumption) | exact cond_long (by assumption) (by assumption) (by assumption))
                  have hB2 := ins_push hB (hb x1 (List.mem_of_getElem? hx1))
                  refine cd_rg ?_
                  refine rQ [] [0, 1, 2, 3, 4, 5, 6, 7, 8, 9, 10, 11] [12, 13, 14, 15, 16, 17, 18, 19, 20, 21, 22, 23, 24] (True) [(13, .slice a bs.length cap), (14, .slice (some ⟨b10, o3, none⟩) ((bs ++ [x1]).length) cap19), (21, .slice a31 bs6.length cap31), (137, .bool true), (138, .slice a31 bs6.length cap31)] (trivial) ?_
                  refine rC 12 [13, 14, 15, 16, 17, 18, 19, 20, 21, 22, 23, 24] [0] [LB1_6, bk d1 123 #[.map (some m1), z6 4194304, n6 st1_2, z6 (-1), z6 (-1), .bool false], L1_31, bk b12 37 #[z6 keep, z6 at_, u1 turn], bk lb1 126 #[p0 d1, str (nameF [108] 1), n6 long1_1, u6 nx1_1, .bool br1_1], [], bk b1 37 #[z6 keep, z6 at_, u1 turn], bk b3 32 #[u6 x1.seq, .slice x1.a x1.l.length x1.cap], L3, Lr] (to_any C cap31 bs6 a31 Lr6 (SeesL.mono (Row.seesL (C := C) (l := bs6) (enc := btv) h56 rfl rfl (fun _ => rfl) (by decide)) (by intro p hp; first | exact hp | (simp [hp]; done) | cases hp)) ⟨Oq.h {}⟩) ?_
                  rintro _ _ ⟨a32, cap32, L1_32, h58, rfl, rfl⟩
                  refine rQ [] [13] [14, 15, 16, 17, 18, 19, 20, 21, 22, 23, 24] (True) [(14, .slice (some ⟨b10, o3, none⟩) ((bs ++ [x1]).length) cap19), (21, .slice a31 bs6.length cap31), (137, .bool true), (139, .slice a32 bs6.length cap32), (140, .slice a bs.length cap)] (trivial) ?_
                  refine rC 14 [15, 16, 17, 18, 19, 20, 21, 22, 23, 24] [11] [L1_32, Lr6, LB1_6, bk d1 123 #[.map (some m1), z6 4194304, n6 st1_2, z6 (-1), z6 (-1), .bool false], L1_31, bk b12 37 #[z6 keep, z6 at_, u1 turn], bk lb1 126 #[p0 d1, str (nameF [108] 1), n6 long1_1, u6 nx1_1, .bool br1_1], [], bk b1 37 #[z6 keep, z6 at_, u1 turn], bk b3 32 #[u6 x1.seq, .slice x1.a x1.l.length x1.cap], L3] (to_any C cap bs a Lr (SeesL.mono (Row.seesL (C := C) (l := bs) (enc := btv) hR rfl rfl (fun _ => rfl) (by decide)) (by intro p hp; first | exact hp | (simp [hp]; done) | cases hp)) ⟨Oq.h {}⟩) ?_
                  rintro _ _ ⟨a33, cap33, L1_33, h59, rfl, rfl⟩
                  refine rR 15 [16, 17, 18, 19, 20, 21, 22, 23, 24] (same16_any C cap32 cap33 _ a32 bs6 a33 bs (SeesL.mono (Row.seesL (C := C) (l := bs6) (enc := btv) h58 rfl rfl (fun _ => rfl) (by decide)) (by intro p hp; first | exact hp | (simp [hp]; done) | cases hp)) (SeesL.mono (Row.seesL (C := C) (l := bs) (enc := btv) h59 rfl rfl (fun _ => rfl) (by decide)) (by intro p hp; first | exact hp | (simp [hp]; done) | cases hp)) ⟨Oq.h {}⟩ ⟨Oq.h {}⟩ ⟨Oq.h {}⟩ ⟨Oq.h {}⟩) ?_
                  rintro _ rfl
                  refine rQ [] [16] [17, 18, 19, 20, 21, 22, 23, 24] (True) [(14, .slice (some ⟨b10, o3, none⟩) ((bs ++ [x1]).length) cap19), (21, .slice a31 bs6.length cap31), (137, .bool true), (143, .bool (decide (bs6.map Bt.bat = bs.map Bt.bat)))] (trivial) ?_
                  refine rI 143 (decide (bs6.map Bt.bat = bs.map Bt.bat)) (fun g14 => ?_) (fun g14 => ?_)
                  · skip
                    refine rQ [] [17, 18, 19, 20, 21, 22, 23, 24] [] (True) [(8, .bool true)] (trivial) ?_
                    refine rF ?_
                    refine cT [] [] ?_
                    refine cd_ret (bot_ret (rv [.bool true] (.bool true) ?_))
                    refine ⟨?_, rfl⟩
                    all_goals first | with_reducible rfl | (exact fin_one hgot key (by assumption); done) | (exact fin_two hgot key; done) | with_reducible assumption | omega | rfl | (simp_all; done) | (simp_all; omega)
                  · skip
                    refine rQ [] [17] [18, 19, 20, 21, 22, 23, 24] (True) [(14, .slice (some ⟨b10, o3, none⟩) ((bs ++ [x1]).length) cap19), (137, .bool true), (143, .bool false), (144, .slice a31 bs6.length cap31)] (trivial) ?_
                    refine rC 18 [19, 20, 21, 22, 23, 24] [3] [L1_33, Lr, L1_32, LB1_6, bk d1 123 #[.map (some m1), z6 4194304, n6 st1_2, z6 (-1), z6 (-1), .bool false], L1_31, bk b12 37 #[z6 keep, z6 at_, u1 turn], bk lb1 126 #[p0 d1, str (nameF [108] 1), n6 long1_1, u6 nx1_1, .bool br1_1], [], bk b1 37 #[z6 keep, z6 at_, u1 turn], bk b3 32 #[u6 x1.seq, .slice x1.a x1.l.length x1.cap], L3] (to_any C cap31 bs6 a31 Lr6 (SeesL.mono (Row.seesL (C := C) (l := bs6) (enc := btv) h56 rfl rfl (fun _ => rfl) (by decide)) (by intro p hp; first | exact hp | (simp [hp]; done) | cases hp)) ⟨Oq.h {}⟩) ?_
                    rintro _ _ ⟨a34, cap34, L1_34, h60, rfl, rfl⟩
                    refine rQ [] [19] [20, 21, 22, 23, 24] (True) [(137, .bool true), (143, .bool false), (145, .slice a34 bs6.length cap34), (146, .slice (some ⟨b10, o3, none⟩) ((bs ++ [x1]).length) cap19)] (trivial) ?_
                    refine rC 20 [21, 22, 23, 24] [13] [L1_34, Lr6, L1_33, Lr, L1_32, LB1_6, bk d1 123 #[.map (some m1), z6 4194304, n6 st1_2, z6 (-1), z6 (-1), .bool false], L1_31, bk b12 37 #[z6 keep, z6 at_, u1 turn], bk lb1 126 #[p0 d1, str (nameF [108] 1), n6 long1_1, u6 nx1_1, .bool br1_1], [], bk b1 37 #[z6 keep, z6 at_, u1 turn], bk b3 32 #[u6 x1.seq, .slice x1.a x1.l.length x1.cap]] (to_any C cap19 (bs ++ [x1]) (some ⟨b10, o3, none⟩) L3 (SeesL.mono (Row.seesL (C := C) (l := bs ++ [x1]) (enc := btv) h37 rfl rfl (fun _ => rfl) (by decide)) (by intro p hp; first | exact hp | (simp [hp]; done) | cases hp)) ⟨Oq.h {}⟩) ?_
                    rintro _ _ ⟨a35, cap35, L1_35, h61, rfl, rfl⟩
                    refine rR 21 [22, 23, 24] (same16_any C cap34 cap35 _ a34 bs6 a35 (bs ++ [x1]) (SeesL.mono (Row.seesL (C := C) (l := bs6) (enc := btv) h60 rfl rfl (fun _ => rfl) (by decide)) (by intro p hp; first | exact hp | (simp [hp]; done) | cases hp)) (SeesL.mono (Row.seesL (C := C) (l := bs ++ [x1]) (enc := btv) h61 rfl rfl (fun _ => rfl) (by decide)) (by intro p hp; first | exact hp | (simp [hp]; done) | cases hp)) ⟨Oq.h {}⟩ ⟨Oq.h {}⟩ ⟨Oq.h {}⟩ ⟨Oq.h {}⟩) ?_
                    rintro _ rfl
                    refine rQ [] [22, 23, 24] [] (True) [(8, .bool (decide (bs6.map Bt.bat = (bs ++ [x1]).map Bt.bat)))] (trivial) ?_
                    refine rF ?_
                    refine cT [] [] ?_
                    refine cd_ret (bot_ret (rv [.bool (decide (bs6.map Bt.bat = (bs ++ [x1]).map Bt.bat))] (.bool (decide (bs6.map Bt.bat = (bs ++ [x1]).map Bt.bat))) ?_))
                    refine ⟨?_, rfl⟩
                    all_goals first | with_reducible rfl | (exact fin_one hgot key (by assumption); done) | (exact fin_two hgot key; done) | with_reducible assumption | omega | rfl | (simp_all; done) | (simp_all; omega)
          · have h9p : ¬ (br1_1 = true) := by first | (simpa using h9; done) | (intro hx; rw [hx] at h9; simp at h9) | (intro hx; rw [Bool.not_eq_true] at hx; rw [hx] at h9; simp at h9)
            refine cd_skip (block_n (then_n ?_))
            obtain rfl : false = br1_1 := by first | (simp_all; done) | (cases br1_1 <;> simp_all)
            obtain ⟨rfl, rfl, rfl⟩ := add_same hL hnx hfu2 hfa2 hf5 (by omega) rfl
            refine cd_region ?_
            refine rQ [] [0, 1] [] ((inKind .i64 ((i : Int) + 1))) [(7, p0 b1), (9, p0 d1), (11, p0 lb1), (13, .slice a bs.length cap), (14, .slice none 0 0), (47, .slice (some ⟨b2, o1, none⟩) bl.length c0), (48, n6 bl.length), (49, n6 (i + 1))] (inK_i64 (by omega)) ?_
            refine rT [1, 1, 0, 1, 1] [bk d1 123 #[.map (some m1), z6 4194304, n6 st1_2, z6 fu1_3, z6 fa1_3, .bool dn1_2], L1_3, bk lb1 126 #[p0 d1, str (nameF [108] 1), n6 S.length, u6 nx, .bool false], bk b1 37 #[z6 keep, z6 at_, u1 turn], Lr] ?_
            refine rg_nil ?_
            refine (lM ((S, bs, a, cap, Lr, L1_3, nx, st1_2, fu1_3, fa1_3, dn1_2, i + 1)) (show LogB S (bs.map Bt.bat) ∧ nx = nextOf 0 (bs.map Bt.bat) ∧ (a = none ∨ 0 < bs.length) ∧ BtsIn C [] bs ∧ S.length ≤ 8000000 * (i + 1) ∧ st1_2 ≤ 1 + 2 * (i + 1) ∧ (-1 ≤ fu1_3 ∧ fu1_3 ≤ 1099511627776) ∧ (-1 ≤ fa1_3 ∧ fa1_3 ≤ 1099511627776) ∧ bs.length ≤ (i + 1) ∧ Row 32 2 a bs.length cap (bs.flatMap btv) Lr ∧ MapL fileV m1 [(nameF [108] 1, ⟨S, S.length⟩)] L1_3 ∧ (i + 1) ≤ bl.length from ⟨hL, hnx, hp, hB, by omega, by omega, hbd.1, hbd.2.1, by omega, hR, h6, by omega⟩) (show (bl.length - (i + 1)) < (bl.length - i) by first | omega | (simp; omega)))
    · have h4p : ¬ ((i : Int) < (bl.length : Int)) := by simpa using h4
      refine cd_exit (then_exit (then_exit (block_hit (then_n ?_))))
      refine cd_seq ?_
      refine cQ [] (True) [(7, p0 b1), (9, p0 d1), (13, .slice a bs.length cap), (14, .slice none 0 0), (75, .bool true)] (trivial) ?_
      refine cYes ?_
      refine cQ0 [] (True) [(7, p0 b1), (9, p0 d1), (13, .slice a bs.length cap), (14, .slice a bs.length cap)] (trivial) ?_
      refine (then_n ?_)
      refine cd_rg ?_
      refine rQ [] [0] [1] (True) [(7, p0 b1), (9, p0 d1), (13, .slice a bs.length cap), (14, .slice a bs.length cap), (77, p0 d1)] (trivial) ?_
      refine rC 1 [] [0, 0] [bk lb1 126 #[p0 d1, str (nameF [108] 1), n6 S.length, u6 nx, .bool false], bk b1 37 #[z6 keep, z6 at_, u1 turn], Lr] (fuse_any C d1 m1 [(nameF [108] 1, ⟨S, S.length⟩)] 4194304 st2 fu2 fa2 dn2 (-1) Lm2 hm2 ⟨Oq.h {}⟩) ?_
      rintro _ _ ⟨fu1_6, hf32, rfl, rfl⟩
      refine rD [(7, p0 b1), (9, p0 d1), (13, .slice a bs.length cap), (14, .slice a bs.length cap)] ?_
      refine cQ [] (True) [(7, p0 b1), (9, p0 d1), (13, .slice a bs.length cap), (14, .slice a bs.length cap), (18, str []), (19, z6 0)] (trivial) ?_
      refine cd_seq ?_
      refine cd_rg ?_
      refine rQ [] [0] [1, 2] (True) [(7, p0 b1), (9, p0 d1), (13, .slice a bs.length cap), (14, .slice a bs.length cap), (18, str []), (19, z6 0), (79, p0 d1)] (trivial) ?_
      refine rC 1 [2] [0] [Lm2, bk lb1 126 #[p0 d1, str (nameF [108] 1), n6 S.length, u6 nx, .bool false], bk b1 37 #[z6 keep, z6 at_, u1 turn], Lr] (down_any C d1 (.map (some m1)) (z6 4194304) (n6 st2) (z6 fu1_6) (z6 fa2) dn2) ?_
      rintro _ _ ⟨rfl, rfl⟩
      refine rQ [] [2] [] (True) [(7, p0 b1), (9, p0 d1), (13, .slice a bs.length cap), (14, .slice a bs.length cap), (18, str []), (19, z6 0), (81, .bool (!dn2))] (trivial) ?_
      refine rF ?_
      refine cI (!dn2) (fun h62 => ?_) (fun h62 => ?_)
      · have h62p : ¬ (dn2 = true) := by first | (simpa using h62; done) | (intro hx; rw [hx] at h62; simp at h62) | (intro hx; rw [Bool.not_eq_true] at hx; rw [hx] at h62; simp at h62)
        refine cd_region ?_
        refine rQ [] [0] [1, 2, 3, 4, 5, 6] (True) [(7, p0 b1), (9, p0 d1), (13, .slice a bs.length cap), (14, .slice a bs.length cap), (83, p0 d1)] (trivial) ?_
        refine rC 1 [2, 3, 4, 5, 6] [0, 0] [bk lb1 126 #[p0 d1, str (nameF [108] 1), n6 S.length, u6 nx, .bool false], bk b1 37 #[z6 keep, z6 at_, u1 turn], Lr] (dread_any C d1 m1 [(nameF [108] 1, ⟨S, S.length⟩)] 4194304 st2 fu1_6 fa2 dn2 [108, 45, 49] Lm2 hm2) ?_
        rintro _ _ ⟨t7, e14, hf33, rfl, rfl⟩
        refine rQ [] [2, 3, 4, 5, 6] [] (True) [(7, p0 b1), (9, p0 d1), (13, .slice a bs.length cap), (14, .slice a bs.length cap), (18, str t7), (19, n6 e14)] (trivial) ?_
        refine rg_nil ?_
        refine (then_n ?_)
        rw [← ex_name1] at hf33
        obtain ⟨rfl, rfl⟩ := read_sh hf33 (by first | assumption | simp_all)
        refine cd_rg ?_
        refine rQ [(1, .at 3)] [0, 1] [2, 3] ((b1 = b1)) [(7, p0 b1), (9, p0 d1), (13, .slice a bs.length cap), (14, .slice a bs.length cap), (18, str S), (19, z6 0), (87, p0 d1), (88, .agg #[z6 keep, z6 at_, u1 turn])] (rfl) ?_
        refine rN 2 [3] (.cells #[z6 keep, z6 at_, u1 turn] 37 (0, 0)) (fun b13 => sl b13 1 1) (fun b13 => ?_)
        refine rC 3 [] [0, 0, 3] [bk lb1 126 #[p0 d1, str (nameF [108] 1), n6 S.length, u6 nx, .bool false], bk b1 37 #[z6 keep, z6 at_, u1 turn], Lr] (crash_one C d1 m1 (nameF [108] 1) ⟨S, S.length⟩ 4194304 st2 fu1_6 fa2 dn2 b13 keep at_ turn Lm2 hm2 ⟨Oq.h {}⟩ ⟨Oq.h {}⟩ ⟨Oq.h {}⟩) ?_
        rintro _ _ ⟨fs1_7, L1_36, h63, hf34, rfl, rfl⟩
        refine rD [(7, p0 b1), (9, p0 d1), (13, .slice a bs.length cap), (14, .slice a bs.length cap), (18, str S), (19, z6 0)] ?_
        obtain rfl := hf34
        obtain ⟨X, hX, hX0⟩ := fall_sure0 S keep at_ turn
        have hnl := fall_len ⟨S, S.length⟩ keep at_ turn
        simp only at hnl
        refine cd_rg ?_
        refine rQ [] [0] [1, 2, 3, 4, 5, 6] (True) [(7, p0 b1), (9, p0 d1), (13, .slice a bs.length cap), (14, .slice a bs.length cap), (18, str S), (19, z6 0), (92, p0 d1)] (trivial) ?_
        refine rC 1 [2, 3, 4, 5, 6] [0, 0] [bk b13 37 #[z6 keep, z6 at_, u1 turn], bk lb1 126 #[p0 d1, str (nameF [108] 1), n6 S.length, u6 nx, .bool false], bk b1 37 #[z6 keep, z6 at_, u1 turn], Lr] (dread_any C d1 m1 [(nameF [108] 1, fallF ⟨S, S.length⟩ keep at_ turn)] 4194304 st2 (-1) (-1) false [108, 45, 49] L1_36 h63) ?_
        rintro _ _ ⟨t8, e15, hf35, rfl, rfl⟩
        refine rQ [] [2, 3, 4, 5, 6] [] (True) [(7, p0 b1), (9, p0 d1), (12, n6 e15), (13, .slice a bs.length cap), (14, .slice a bs.length cap), (18, str S), (19, z6 0), (20, str t8)] (trivial) ?_
        refine rF ?_
        refine cd_seq ?_
        rw [← ex_name1] at hf35
        obtain ⟨rfl, rfl⟩ := read_one hf35 rfl
        refine cd_rg ?_
        refine rQ [(1, .at 4)] [0, 1, 2, 3] [4, 5, 6, 7, 8, 9, 10, 11, 12, 13, 14, 15, 16, 17, 18, 19, 20, 21, 22, 23, 24, 25] ((b1 = b1)) [(9, p0 d1), (12, z6 0), (13, .slice a bs.length cap), (14, .slice a bs.length cap), (18, str S), (19, z6 0), (20, str ((fallF ⟨S, S.length⟩ keep at_ turn).s)), (99, .bool ((turn : Int) != 0))] (rfl) ?_
        refine rI 99 ((turn : Int) != 0) (fun g15 => ?_) (fun g15 => ?_)
        · have g15p : (turn : Int) ≠ 0 := by simpa using g15
          refine rQ [] [4, 5, 6] [7, 8, 9, 10, 11, 12, 13, 14, 15, 16, 17, 18, 19, 20, 21, 22, 23, 24, 25] (True) [(9, p0 d1), (12, z6 0), (13, .slice a bs.length cap), (14, .slice a bs.length cap), (18, str S), (19, z6 0), (20, str ((fallF ⟨S, S.length⟩ keep at_ turn).s)), (99, .bool true), (102, .bool (S == []))] (trivial) ?_
          refine rI 102 (S == []) (fun g16 => ?_) (fun g16 => ?_)
          · have g16p : S = [] := by simpa using g16
            refine rQ [] [7, 8, 9, 10, 11, 12, 13, 14, 15, 16, 17, 18, 19, 20, 21, 22, 23, 24, 25] [] (True) [(9, p0 d1), (12, z6 0), (13, .slice a bs.length cap), (14, .slice a bs.length cap), (19, z6 0), (121, .bool true)] (trivial) ?_
            refine rF ?_
            refine cYes ?_
            refine cQ [] (True) [(8, .bool true)] (trivial) ?_
            refine cT [] [] ?_
            refine cd_ret (then_ret (bot_ret (rv [.bool true] (.bool true) ?_)))
            refine ⟨?_, rfl⟩
            all_goals first | with_reducible rfl | (exact fin_one hgot key (by assumption); done) | (exact fin_two hgot key; done) | with_reducible assumption | omega | rfl | (simp_all; done) | (simp_all; omega)
          · have g16p : ¬ (S = []) := by simpa using g16
            refine rQ [] [7] [8, 9, 10, 11, 12, 13, 14, 15, 16, 17, 18, 19, 20, 21, 22, 23, 24, 25] (True) [(9, p0 d1), (12, z6 0), (13, .slice a bs.length cap), (14, .slice a bs.length cap), (18, str S), (19, z6 0), (20, str ((fallF ⟨S, S.length⟩ keep at_ turn).s)), (99, .bool true), (102, .bool false), (103, str ((fallF ⟨S, S.length⟩ keep at_ turn).s))] (trivial) ?_
            refine rC 8 [9, 10, 11, 12, 13, 14, 15, 16, 17, 18, 19, 20, 21, 22, 23, 24, 25] [] [bk d1 123 #[.map (some m1), z6 4194304, n6 st2, z6 (-1), z6 (-1), .bool false], L1_36, bk b13 37 #[z6 keep, z6 at_, u1 turn], bk lb1 126 #[p0 d1, str (nameF [108] 1), n6 S.length, u6 nx, .bool false], bk b1 37 #[z6 keep, z6 at_, u1 turn], Lr] (refRecords_any C ((fallF ⟨S, S.length⟩ keep at_ turn).s) ⟨Oq.h {}⟩) ?_
            rintro _ _ ⟨l3, a36, cap36, L1_37, h64, hf36, rfl, rfl⟩
            refine rQ [] [9, 10, 11, 12, 13] [14, 15, 16, 17, 18, 19, 20, 21, 22, 23, 24, 25] (True) [(9, p0 d1), (12, z6 0), (13, .slice a bs.length cap), (14, .slice a bs.length cap), (18, str S), (19, z6 0), (20, str ((fallF ⟨S, S.length⟩ keep at_ turn).s)), (99, .bool true), (102, .bool false), (109, .bool (decide ((l3.length : Int) > (bs.length : Int))))] (trivial) ?_
            refine rg_join2 [24, 25] [(9, p0 d1), (12, z6 0), (13, .slice a bs.length cap), (14, .slice a bs.length cap), (19, z6 0), (99, .bool true), (102, .bool false), (119, .bool ((decide ((l3.length : Int) > (bs.length : Int))) && (!(((fallF ⟨S, S.length⟩ keep at_ turn).s) == ((S.take (if (S.length : Int) < ((((fallF ⟨S, S.length⟩ keep at_ turn).s).length : Nat) : Int) then (S.length : Int) else ((((fallF ⟨S, S.length⟩ keep at_ turn).s).length : Nat) : Int)).toNat).drop 0)))))] [L1_37, bk d1 123 #[.map (some m1), z6 4194304, n6 st2, z6 (-1), z6 (-1), .bool false], L1_36, bk b13 37 #[z6 keep, z6 at_, u1 turn], bk lb1 126 #[p0 d1, str (nameF [108] 1), n6 S.length, u6 nx, .bool false], bk b1 37 #[z6 keep, z6 at_, u1 turn], Lr] (fun hj => ?_) ?_
            · refine rI 109 (decide ((l3.length : Int) > (bs.length : Int))) (fun g17 => ?_) (fun g17 => ?_)
              · have g17p : (l3.length : Int) > (bs.length : Int) := by simpa using g17
                refine rQ [] [14, 15, 16, 17, 18, 19, 20, 21, 22, 23] [24, 25] ((0 ≤ (0 : Int) ∧ (0 : Int) ≤ (if (S.length : Int) < ((((fallF ⟨S, S.length⟩ keep at_ turn).s).length : Nat) : Int) then (S.length : Int) else ((((fallF ⟨S, S.length⟩ keep at_ turn).s).length : Nat) : Int)) ∧ (if (S.length : Int) < ((((fallF ⟨S, S.length⟩ keep at_ turn).s).length : Nat) : Int) then (S.length : Int) else ((((fallF ⟨S, S.length⟩ keep at_ turn).s).length : Nat) : Int)) ≤ (S.length : Int))) [(9, p0 d1), (12, z6 0), (13, .slice a bs.length cap), (14, .slice a bs.length cap), (19, z6 0), (99, .bool true), (102, .bool false), (119, .bool (!(((fallF ⟨S, S.length⟩ keep at_ turn).s) == ((S.take (if (S.length : Int) < ((((fallF ⟨S, S.length⟩ keep at_ turn).s).length : Nat) : Int) then (S.length : Int) else ((((fallF ⟨S, S.length⟩ keep at_ turn).s).length : Nat) : Int)).toNat).drop 0))))] (⟨by omega, by omega, by omega⟩) ?_
                refine rP 119 (.bool (!(((fallF ⟨S, S.length⟩ keep at_ turn).s) == ((S.take (if (S.length : Int) < ((((fallF ⟨S, S.length⟩ keep at_ turn).s).length : Nat) : Int) then (S.length : Int) else ((((fallF ⟨S, S.length⟩ keep at_ turn).s).length : Nat) : Int)).toNat).drop 0)))) (.bool ((decide ((l3.length : Int) > (bs.length : Int))) && (!(((fallF ⟨S, S.length⟩ keep at_ turn).s) == ((S.take (if (S.length : Int) < ((((fallF ⟨S, S.length⟩ keep at_ turn).s).length : Nat) : Int) then (S.length : Int) else ((((fallF ⟨S, S.length⟩ keep at_ turn).s).length : Nat) : Int)).toNat).drop 0))))) (by first | (rw [show (decide ((l3.length : Int) > (bs.length : Int))) = true from g17]; done) | (rw [show (decide ((l3.length : Int) > (bs.length : Int))) = true from g17]; rfl)) ?_
                exact rM hj
              · have g17p : ¬ ((l3.length : Int) > (bs.length : Int)) := by simpa using g17
                refine rQ [] [14, 15, 16, 17, 18, 19, 20, 21, 22, 23] [24, 25] (True) [(9, p0 d1), (12, z6 0), (13, .slice a bs.length cap), (14, .slice a bs.length cap), (19, z6 0), (99, .bool true), (102, .bool false), (119, .bool false)] (trivial) ?_
                refine rP 119 (.bool false) (.bool ((decide ((l3.length : Int) > (bs.length : Int))) && (!(((fallF ⟨S, S.length⟩ keep at_ turn).s) == ((S.take (if (S.length : Int) < ((((fallF ⟨S, S.length⟩ keep at_ turn).s).length : Nat) : Int) then (S.length : Int) else ((((fallF ⟨S, S.length⟩ keep at_ turn).s).length : Nat) : Int)).toNat).drop 0))))) (by first | (rw [show (decide ((l3.length : Int) > (bs.length : Int))) = false from g17]; done) | (rw [show (decide ((l3.length : Int) > (bs.length : Int))) = false from g17]; rfl)) ?_
                exact rM hj
            refine rQ [] [24, 25] [] (True) [(9, p0 d1), (12, z6 0), (13, .slice a bs.length cap), (14, .slice a bs.length cap), (19, z6 0), (121, .bool ((decide ((l3.length : Int) > (bs.length : Int))) && (!(((fallF ⟨S, S.length⟩ keep at_ turn).s) == ((S.take (if (S.length : Int) < ((((fallF ⟨S, S.length⟩ keep at_ turn).s).length : Nat) : Int) then (S.length : Int) else ((((fallF ⟨S, S.length⟩ keep at_ turn).s).length : Nat) : Int)).toNat).drop 0)))))] (trivial) ?_
            refine rF ?_
            refine cI ((decide ((l3.length : Int) > (bs.length : Int))) && (!(((fallF ⟨S, S.length⟩ keep at_ turn).s) == ((S.take (if (S.length : Int) < ((((fallF ⟨S, S.length⟩ keep at_ turn).s).length : Nat) : Int) then (S.length : Int) else ((((fallF ⟨S, S.length⟩ keep at_ turn).s).length : Nat) : Int)).toNat).drop 0)))) (fun h65 => ?_) (fun h65 => ?_)
            · have h65p : ((l3.length : Int) > (bs.length : Int)) ∧ (¬ (((fallF ⟨S, S.length⟩ keep at_ turn).s) = ((S.take (if (S.length : Int) < ((((fallF ⟨S, S.length⟩ keep at_ turn).s).length : Nat) : Int) then (S.length : Int) else ((((fallF ⟨S, S.length⟩ keep at_ turn).s).length : Nat) : Int)).toNat).drop 0))) := by simpa using h65
              refine cQ [] (True) [(8, .bool true)] (trivial) ?_
              refine cT [] [] ?_
              refine cd_ret (then_ret (bot_ret (rv [.bool true] (.bool true) ?_)))
              refine ⟨?_, rfl⟩
              all_goals first | with_reducible rfl | (exact fin_one hgot key (by assumption); done) | (exact fin_two hgot key; done) | with_reducible assumption | omega | rfl | (simp_all; done) | (simp_all; omega)
            · have h65p : ¬ (((l3.length : Int) > (bs.length : Int)) ∧ (¬ (((fallF ⟨S, S.length⟩ keep at_ turn).s) = ((S.take (if (S.length : Int) < ((((fallF ⟨S, S.length⟩ keep at_ turn).s).length : Nat) : Int) then (S.length : Int) else ((((fallF ⟨S, S.length⟩ keep at_ turn).s).length : Nat) : Int)).toNat).drop 0)))) := by simpa using h65
              refine cd_skip (then_n ?_)
              refine cd_rg ?_
              refine rQ [] [0] [1, 2, 3, 4, 5, 6] (True) [(12, z6 0), (13, .slice a bs.length cap), (14, .slice a bs.length cap), (19, z6 0), (123, p0 d1)] (trivial) ?_
              refine rC 1 [2, 3, 4, 5, 6] [1, 1] [L1_37, bk b13 37 #[z6 keep, z6 at_, u1 turn], bk lb1 126 #[p0 d1, str (nameF [108] 1), n6 S.length, u6 nx, .bool false], bk b1 37 #[z6 keep, z6 at_, u1 turn], Lr] (walLoad_any C d1 m1 [(nameF [108] 1, fallF ⟨S, S.length⟩ keep at_ turn)] 4194304 st2 (-1) (-1) false 1 L1_36 h63 ⟨Oq.h {}⟩ ⟨Oq.h {}⟩) ?_
              rintro _ _ ⟨bs7, a37, cap37, Lr7, LB1_7, e16, h66, h67, hf37, hf38, rfl, rfl⟩
              refine rQ [] [2, 3, 4, 5, 6] [] (True) [(12, z6 0), (13, .slice a bs.length cap), (14, .slice a bs.length cap), (19, z6 0), (21, .slice a37 bs7.length cap37), (22, n6 e16)] (trivial) ?_
              refine rF ?_
              obtain ⟨rfl, hgot⟩ := load_one hf37 hf38
              have hgs := bt_small (hgot.trans List.take_length.symm)
              have hgl := bt_len (hgot.trans List.take_length.symm)
              have key := crash_law (shown := S) hL (T := []) (seq := 0) (b := []) (.inl rfl) hX hX0 (.inr (by simp)) (by first | exact cond_turn (by assumption) | exact cond_long (by assumption) (by assumption) (by assumption))
              refine cd_rg ?_
              refine rQ [] [0, 1, 2, 3, 4, 5, 6, 7, 8, 9, 10, 11] [12, 13, 14, 15, 16, 17, 18, 19, 20, 21, 22, 23, 24] (True) [(13, .slice a bs.length cap), (14, .slice a bs.length cap), (21, .slice a37 bs7.length cap37), (137, .bool true), (138, .slice a37 bs7.length cap37)] (trivial) ?_
              refine rC 12 [13, 14, 15, 16, 17, 18, 19, 20, 21, 22, 23, 24] [0] [LB1_7, bk d1 123 #[.map (some m1), z6 4194304, n6 st2, z6 (-1), z6 (-1), .bool false], L1_36, L1_37, bk b13 37 #[z6 keep, z6 at_, u1 turn], bk lb1 126 #[p0 d1, str (nameF [108] 1), n6 S.length, u6 nx, .bool false], bk b1 37 #[z6 keep, z6 at_, u1 turn], Lr] (to_any C cap37 bs7 a37 Lr7 (SeesL.mono (Row.seesL (C := C) (l := bs7) (enc := btv) h66 rfl rfl (fun _ => rfl) (by decide)) (by intro p hp; first | exact hp | (simp [hp]; done) | cases hp)) ⟨Oq.h {}⟩) ?_
              rintro _ _ ⟨a38, cap38, L1_38, h68, rfl, rfl⟩
              refine rQ [] [13] [14, 15, 16, 17, 18, 19, 20, 21, 22, 23, 24] (True) [(14, .slice a bs.length cap), (21, .slice a37 bs7.length cap37), (137, .bool true), (139, .slice a38 bs7.length cap38), (140, .slice a bs.length cap)] (trivial) ?_
              refine rC 14 [15, 16, 17, 18, 19, 20, 21, 22, 23, 24] [9] [L1_38, Lr7, LB1_7, bk d1 123 #[.map (some m1), z6 4194304, n6 st2, z6 (-1), z6 (-1), .bool false], L1_36, L1_37, bk b13 37 #[z6 keep, z6 at_, u1 turn], bk lb1 126 #[p0 d1, str (nameF [108] 1), n6 S.length, u6 nx, .bool false], bk b1 37 #[z6 keep, z6 at_, u1 turn]] (to_any C cap bs a Lr (SeesL.mono (Row.seesL (C := C) (l := bs) (enc := btv) hR rfl rfl (fun _ => rfl) (by decide)) (by intro p hp; first | exact hp | (simp [hp]; done) | cases hp)) ⟨Oq.h {}⟩) ?_
              rintro _ _ ⟨a39, cap39, L1_39, h69, rfl, rfl⟩
              refine rR 15 [16, 17, 18, 19, 20, 21, 22, 23, 24] (same16_any C cap38 cap39 _ a38 bs7 a39 bs (SeesL.mono (Row.seesL (C := C) (l := bs7) (enc := btv) h68 rfl rfl (fun _ => rfl) (by decide)) (by intro p hp; first | exact hp | (simp [hp]; done) | cases hp)) (SeesL.mono (Row.seesL (C := C) (l := bs) (enc := btv) h69 rfl rfl (fun _ => rfl) (by decide)) (by intro p hp; first | exact hp | (simp [hp]; done) | cases hp)) ⟨Oq.h {}⟩ ⟨Oq.h {}⟩ ⟨Oq.h {}⟩ ⟨Oq.h {}⟩) ?_
              rintro _ rfl
              refine rQ [] [16] [17, 18, 19, 20, 21, 22, 23, 24] (True) [(14, .slice a bs.length cap), (21, .slice a37 bs7.length cap37), (137, .bool true), (143, .bool (decide (bs7.map Bt.bat = bs.map Bt.bat)))] (trivial) ?_
              refine rI 143 (decide (bs7.map Bt.bat = bs.map Bt.bat)) (fun g18 => ?_) (fun g18 => ?_)
              · skip
                refine rQ [] [17, 18, 19, 20, 21, 22, 23, 24] [] (True) [(8, .bool true)] (trivial) ?_
                refine rF ?_
                refine cT [] [] ?_
                refine cd_ret (bot_ret (rv [.bool true] (.bool true) ?_))
                refine ⟨?_, rfl⟩
                all_goals first | with_reducible rfl | (exact fin_one hgot key (by assumption); done) | (exact fin_two hgot key; done) | with_reducible assumption | omega | rfl | (simp_all; done) | (simp_all; omega)
              · skip
                refine rQ [] [17] [18, 19, 20, 21, 22, 23, 24] (True) [(14, .slice a bs.length cap), (137, .bool true), (143, .bool false), (144, .slice a37 bs7.length cap37)] (trivial) ?_
                refine rC 18 [19, 20, 21, 22, 23, 24] [3] [L1_39, Lr, L1_38, LB1_7, bk d1 123 #[.map (some m1), z6 4194304, n6 st2, z6 (-1), z6 (-1), .bool false], L1_36, L1_37, bk b13 37 #[z6 keep, z6 at_, u1 turn], bk lb1 126 #[p0 d1, str (nameF [108] 1), n6 S.length, u6 nx, .bool false], bk b1 37 #[z6 keep, z6 at_, u1 turn]] (to_any C cap37 bs7 a37 Lr7 (SeesL.mono (Row.seesL (C := C) (l := bs7) (enc := btv) h66 rfl rfl (fun _ => rfl) (by decide)) (by intro p hp; first | exact hp | (simp [hp]; done) | cases hp)) ⟨Oq.h {}⟩) ?_
                rintro _ _ ⟨a40, cap40, L1_40, h70, rfl, rfl⟩
                refine rQ [] [19] [20, 21, 22, 23, 24] (True) [(137, .bool true), (143, .bool false), (145, .slice a40 bs7.length cap40), (146, .slice a bs.length cap)] (trivial) ?_
                refine rC 20 [21, 22, 23, 24] [3] [L1_40, Lr7, L1_39, L1_38, LB1_7, bk d1 123 #[.map (some m1), z6 4194304, n6 st2, z6 (-1), z6 (-1), .bool false], L1_36, L1_37, bk b13 37 #[z6 keep, z6 at_, u1 turn], bk lb1 126 #[p0 d1, str (nameF [108] 1), n6 S.length, u6 nx, .bool false], bk b1 37 #[z6 keep, z6 at_, u1 turn]] (to_any C cap bs a Lr (SeesL.mono (Row.seesL (C := C) (l := bs) (enc := btv) hR rfl rfl (fun _ => rfl) (by decide)) (by intro p hp; first | exact hp | (simp [hp]; done) | cases hp)) ⟨Oq.h {}⟩) ?_
                rintro _ _ ⟨a41, cap41, L1_41, h71, rfl, rfl⟩
                refine rR 21 [22, 23, 24] (same16_any C cap40 cap41 _ a40 bs7 a41 bs (SeesL.mono (Row.seesL (C := C) (l := bs7) (enc := btv) h70 rfl rfl (fun _ => rfl) (by decide)) (by intro p hp; first | exact hp | (simp [hp]; done) | cases hp)) (SeesL.mono (Row.seesL (C := C) (l := bs) (enc := btv) h71 rfl rfl (fun _ => rfl) (by decide)) (by intro p hp; first | exact hp | (simp [hp]; done) | cases hp)) ⟨Oq.h {}⟩ ⟨Oq.h {}⟩ ⟨Oq.h {}⟩ ⟨Oq.h {}⟩) ?_
                rintro _ rfl
                refine rQ [] [22, 23, 24] [] (True) [(8, .bool (decide (bs7.map Bt.bat = bs.map Bt.bat)))] (trivial) ?_
                refine rF ?_
                refine cT [] [] ?_
                refine cd_ret (bot_ret (rv [.bool (decide (bs7.map Bt.bat = bs.map Bt.bat))] (.bool (decide (bs7.map Bt.bat = bs.map Bt.bat))) ?_))
                refine ⟨?_, rfl⟩
                all_goals first | with_reducible rfl | (exact fin_one hgot key (by assumption); done) | (exact fin_two hgot key; done) | with_reducible assumption | omega | rfl | (simp_all; done) | (simp_all; omega)
        · have g15p : ¬ ((turn : Int) ≠ 0) := by simpa using g15
          refine rQ [] [4, 5, 6, 7, 8, 9, 10, 11, 12, 13, 14, 15, 16, 17, 18, 19, 20, 21, 22, 23, 24, 25] [] (True) [(9, p0 d1), (12, z6 0), (13, .slice a bs.length cap), (14, .slice a bs.length cap), (19, z6 0), (121, .bool false)] (trivial) ?_
          refine rF ?_
          refine cNo ?_
          refine cd_skip (then_n ?_)
          refine cd_rg ?_
          refine rQ [] [0] [1, 2, 3, 4, 5, 6] (True) [(12, z6 0), (13, .slice a bs.length cap), (14, .slice a bs.length cap), (19, z6 0), (123, p0 d1)] (trivial) ?_
          refine rC 1 [2, 3, 4, 5, 6] [0, 0] [bk b13 37 #[z6 keep, z6 at_, u1 turn], bk lb1 126 #[p0 d1, str (nameF [108] 1), n6 S.length, u6 nx, .bool false], bk b1 37 #[z6 keep, z6 at_, u1 turn], Lr] (walLoad_any C d1 m1 [(nameF [108] 1, fallF ⟨S, S.length⟩ keep at_ turn)] 4194304 st2 (-1) (-1) false 1 L1_36 h63 ⟨Oq.h {}⟩ ⟨Oq.h {}⟩) ?_
          rintro _ _ ⟨bs8, a42, cap42, Lr8, LB1_8, e17, h72, h73, hf39, hf40, rfl, rfl⟩
          refine rQ [] [2, 3, 4, 5, 6] [] (True) [(12, z6 0), (13, .slice a bs.length cap), (14, .slice a bs.length cap), (19, z6 0), (21, .slice a42 bs8.length cap42), (22, n6 e17)] (trivial) ?_
          refine rF ?_
          obtain ⟨rfl, hgot⟩ := load_one hf39 hf40
          have hgs := bt_small (hgot.trans List.take_length.symm)
          have hgl := bt_len (hgot.trans List.take_length.symm)
          have key := crash_law (shown := S) hL (T := []) (seq := 0) (b := []) (.inl rfl) hX hX0 (.inr (by simp)) (by first | exact cond_turn (by assumption) | exact cond_long (by assumption) (by assumption) (by assumption))
          refine cd_rg ?_
          refine rQ [] [0, 1, 2, 3, 4, 5, 6, 7, 8, 9, 10, 11] [12, 13, 14, 15, 16, 17, 18, 19, 20, 21, 22, 23, 24] (True) [(13, .slice a bs.length cap), (14, .slice a bs.length cap), (21, .slice a42 bs8.length cap42), (137, .bool true), (138, .slice a42 bs8.length cap42)] (trivial) ?_
          refine rC 12 [13, 14, 15, 16, 17, 18, 19, 20, 21, 22, 23, 24] [0] [LB1_8, bk d1 123 #[.map (some m1), z6 4194304, n6 st2, z6 (-1), z6 (-1), .bool false], L1_36, bk b13 37 #[z6 keep, z6 at_, u1 turn], bk lb1 126 #[p0 d1, str (nameF [108] 1), n6 S.length, u6 nx, .bool false], bk b1 37 #[z6 keep, z6 at_, u1 turn], Lr] (to_any C cap42 bs8 a42 Lr8 (SeesL.mono (Row.seesL (C := C) (l := bs8) (enc := btv) h72 rfl rfl (fun _ => rfl) (by decide)) (by intro p hp; first | exact hp | (simp [hp]; done) | cases hp)) ⟨Oq.h {}⟩) ?_
          rintro _ _ ⟨a43, cap43, L1_42, h74, rfl, rfl⟩
          refine rQ [] [13] [14, 15, 16, 17, 18, 19, 20, 21, 22, 23, 24] (True) [(14, .slice a bs.length cap), (21, .slice a42 bs8.length cap42), (137, .bool true), (139, .slice a43 bs8.length cap43), (140, .slice a bs.length cap)] (trivial) ?_
          refine rC 14 [15, 16, 17, 18, 19, 20, 21, 22, 23, 24] [8] [L1_42, Lr8, LB1_8, bk d1 123 #[.map (some m1), z6 4194304, n6 st2, z6 (-1), z6 (-1), .bool false], L1_36, bk b13 37 #[z6 keep, z6 at_, u1 turn], bk lb1 126 #[p0 d1, str (nameF [108] 1), n6 S.length, u6 nx, .bool false], bk b1 37 #[z6 keep, z6 at_, u1 turn]] (to_any C cap bs a Lr (SeesL.mono (Row.seesL (C := C) (l := bs) (enc := btv) hR rfl rfl (fun _ => rfl) (by decide)) (by intro p hp; first | exact hp | (simp [hp]; done) | cases hp)) ⟨Oq.h {}⟩) ?_
          rintro _ _ ⟨a44, cap44, L1_43, h75, rfl, rfl⟩
          refine rR 15 [16, 17, 18, 19, 20, 21, 22, 23, 24] (same16_any C cap43 cap44 _ a43 bs8 a44 bs (SeesL.mono (Row.seesL (C := C) (l := bs8) (enc := btv) h74 rfl rfl (fun _ => rfl) (by decide)) (by intro p hp; first | exact hp | (simp [hp]; done) | cases hp)) (SeesL.mono (Row.seesL (C := C) (l := bs) (enc := btv) h75 rfl rfl (fun _ => rfl) (by decide)) (by intro p hp; first | exact hp | (simp [hp]; done) | cases hp)) ⟨Oq.h {}⟩ ⟨Oq.h {}⟩ ⟨Oq.h {}⟩ ⟨Oq.h {}⟩) ?_
          rintro _ rfl
          refine rQ [] [16] [17, 18, 19, 20, 21, 22, 23, 24] (True) [(14, .slice a bs.length cap), (21, .slice a42 bs8.length cap42), (137, .bool true), (143, .bool (decide (bs8.map Bt.bat = bs.map Bt.bat)))] (trivial) ?_
          refine rI 143 (decide (bs8.map Bt.bat = bs.map Bt.bat)) (fun g19 => ?_) (fun g19 => ?_)
          · skip
            refine rQ [] [17, 18, 19, 20, 21, 22, 23, 24] [] (True) [(8, .bool true)] (trivial) ?_
            refine rF ?_
            refine cT [] [] ?_
            refine cd_ret (bot_ret (rv [.bool true] (.bool true) ?_))
            refine ⟨?_, rfl⟩
            all_goals first | with_reducible rfl | (exact fin_one hgot key (by assumption); done) | (exact fin_two hgot key; done) | with_reducible assumption | omega | rfl | (simp_all; done) | (simp_all; omega)
          · skip
            refine rQ [] [17] [18, 19, 20, 21, 22, 23, 24] (True) [(14, .slice a bs.length cap), (137, .bool true), (143, .bool false), (144, .slice a42 bs8.length cap42)] (trivial) ?_
            refine rC 18 [19, 20, 21, 22, 23, 24] [3] [L1_43, Lr, L1_42, LB1_8, bk d1 123 #[.map (some m1), z6 4194304, n6 st2, z6 (-1), z6 (-1), .bool false], L1_36, bk b13 37 #[z6 keep, z6 at_, u1 turn], bk lb1 126 #[p0 d1, str (nameF [108] 1), n6 S.length, u6 nx, .bool false], bk b1 37 #[z6 keep, z6 at_, u1 turn]] (to_any C cap42 bs8 a42 Lr8 (SeesL.mono (Row.seesL (C := C) (l := bs8) (enc := btv) h72 rfl rfl (fun _ => rfl) (by decide)) (by intro p hp; first | exact hp | (simp [hp]; done) | cases hp)) ⟨Oq.h {}⟩) ?_
            rintro _ _ ⟨a45, cap45, L1_44, h76, rfl, rfl⟩
            refine rQ [] [19] [20, 21, 22, 23, 24] (True) [(137, .bool true), (143, .bool false), (145, .slice a45 bs8.length cap45), (146, .slice a bs.length cap)] (trivial) ?_
            refine rC 20 [21, 22, 23, 24] [3] [L1_44, Lr8, L1_43, L1_42, LB1_8, bk d1 123 #[.map (some m1), z6 4194304, n6 st2, z6 (-1), z6 (-1), .bool false], L1_36, bk b13 37 #[z6 keep, z6 at_, u1 turn], bk lb1 126 #[p0 d1, str (nameF [108] 1), n6 S.length, u6 nx, .bool false], bk b1 37 #[z6 keep, z6 at_, u1 turn]] (to_any C cap bs a Lr (SeesL.mono (Row.seesL (C := C) (l := bs) (enc := btv) hR rfl rfl (fun _ => rfl) (by decide)) (by intro p hp; first | exact hp | (simp [hp]; done) | cases hp)) ⟨Oq.h {}⟩) ?_
            rintro _ _ ⟨a46, cap46, L1_45, h77, rfl, rfl⟩
            refine rR 21 [22, 23, 24] (same16_any C cap45 cap46 _ a45 bs8 a46 bs (SeesL.mono (Row.seesL (C := C) (l := bs8) (enc := btv) h76 rfl rfl (fun _ => rfl) (by decide)) (by intro p hp; first | exact hp | (simp [hp]; done) | cases hp)) (SeesL.mono (Row.seesL (C := C) (l := bs) (enc := btv) h77 rfl rfl (fun _ => rfl) (by decide)) (by intro p hp; first | exact hp | (simp [hp]; done) | cases hp)) ⟨Oq.h {}⟩ ⟨Oq.h {}⟩ ⟨Oq.h {}⟩ ⟨Oq.h {}⟩) ?_
            rintro _ rfl
            refine rQ [] [22, 23, 24] [] (True) [(8, .bool (decide (bs8.map Bt.bat = bs.map Bt.bat)))] (trivial) ?_
            refine rF ?_
            refine cT [] [] ?_
            refine cd_ret (bot_ret (rv [.bool (decide (bs8.map Bt.bat = bs.map Bt.bat))] (.bool (decide (bs8.map Bt.bat = bs.map Bt.bat))) ?_))
            refine ⟨?_, rfl⟩
            all_goals first | with_reducible rfl | (exact fin_one hgot key (by assumption); done) | (exact fin_two hgot key; done) | with_reducible assumption | omega | rfl | (simp_all; done) | (simp_all; omega)
      · have h62p : ¬ (¬ (dn2 = true)) := by first | (simpa using h62; done) | (intro hx; rw [hx] at h62; simp at h62) | (intro hx; rw [Bool.not_eq_true] at hx; rw [hx] at h62; simp at h62)
        refine cd_skip (then_n ?_)
        refine cd_rg ?_
        refine rQ [(1, .at 3)] [0, 1] [2, 3] ((b1 = b1)) [(7, p0 b1), (9, p0 d1), (13, .slice a bs.length cap), (14, .slice a bs.length cap), (18, str []), (19, z6 0), (87, p0 d1), (88, .agg #[z6 keep, z6 at_, u1 turn])] (rfl) ?_
        refine rN 2 [3] (.cells #[z6 keep, z6 at_, u1 turn] 37 (0, 0)) (fun b14 => sl b14 1 1) (fun b14 => ?_)
        refine rC 3 [] [0, 0, 3] [bk lb1 126 #[p0 d1, str (nameF [108] 1), n6 S.length, u6 nx, .bool false], bk b1 37 #[z6 keep, z6 at_, u1 turn], Lr] (crash_one C d1 m1 (nameF [108] 1) ⟨S, S.length⟩ 4194304 st2 fu1_6 fa2 dn2 b14 keep at_ turn Lm2 hm2 ⟨Oq.h {}⟩ ⟨Oq.h {}⟩ ⟨Oq.h {}⟩) ?_
        rintro _ _ ⟨fs1_8, L1_46, h78, hf41, rfl, rfl⟩
        refine rD [(7, p0 b1), (9, p0 d1), (13, .slice a bs.length cap), (14, .slice a bs.length cap), (18, str []), (19, z6 0)] ?_
        obtain rfl := hf41
        obtain ⟨X, hX, hX0⟩ := fall_sure0 S keep at_ turn
        have hnl := fall_len ⟨S, S.length⟩ keep at_ turn
        simp only at hnl
        refine cd_rg ?_
        refine rQ [] [0] [1, 2, 3, 4, 5, 6] (True) [(7, p0 b1), (9, p0 d1), (13, .slice a bs.length cap), (14, .slice a bs.length cap), (18, str []), (19, z6 0), (92, p0 d1)] (trivial) ?_
        refine rC 1 [2, 3, 4, 5, 6] [0, 0] [bk b14 37 #[z6 keep, z6 at_, u1 turn], bk lb1 126 #[p0 d1, str (nameF [108] 1), n6 S.length, u6 nx, .bool false], bk b1 37 #[z6 keep, z6 at_, u1 turn], Lr] (dread_any C d1 m1 [(nameF [108] 1, fallF ⟨S, S.length⟩ keep at_ turn)] 4194304 st2 (-1) (-1) false [108, 45, 49] L1_46 h78) ?_
        rintro _ _ ⟨t9, e18, hf42, rfl, rfl⟩
        refine rQ [] [2, 3, 4, 5, 6] [] (True) [(7, p0 b1), (9, p0 d1), (12, n6 e18), (13, .slice a bs.length cap), (14, .slice a bs.length cap), (18, str []), (19, z6 0), (20, str t9)] (trivial) ?_
        refine rF ?_
        refine cd_seq ?_
        rw [← ex_name1] at hf42
        obtain ⟨rfl, rfl⟩ := read_one hf42 rfl
        refine cd_rg ?_
        refine rQ [(1, .at 4)] [0, 1, 2, 3] [4, 5, 6, 7, 8, 9, 10, 11, 12, 13, 14, 15, 16, 17, 18, 19, 20, 21, 22, 23, 24, 25] ((b1 = b1)) [(9, p0 d1), (12, z6 0), (13, .slice a bs.length cap), (14, .slice a bs.length cap), (18, str []), (19, z6 0), (20, str ((fallF ⟨S, S.length⟩ keep at_ turn).s)), (99, .bool ((turn : Int) != 0))] (rfl) ?_
        refine rg_join2 [] [(9, p0 d1), (12, z6 0), (13, .slice a bs.length cap), (14, .slice a bs.length cap), (19, z6 0), (121, .bool ((turn : Int) != 0))] [bk d1 123 #[.map (some m1), z6 4194304, n6 st2, z6 (-1), z6 (-1), .bool false], L1_46, bk b14 37 #[z6 keep, z6 at_, u1 turn], bk lb1 126 #[p0 d1, str (nameF [108] 1), n6 S.length, u6 nx, .bool false], bk b1 37 #[z6 keep, z6 at_, u1 turn], Lr] (fun hj => ?_) ?_
        · refine rI 99 ((turn : Int) != 0) (fun g20 => ?_) (fun g20 => ?_)
          · have g20p : (turn : Int) ≠ 0 := by simpa using g20
            refine rQ [] [4, 5, 6, 7, 8, 9, 10, 11, 12, 13, 14, 15, 16, 17, 18, 19, 20, 21, 22, 23, 24, 25] [] (True) [(9, p0 d1), (12, z6 0), (13, .slice a bs.length cap), (14, .slice a bs.length cap), (19, z6 0), (121, .bool true)] (trivial) ?_
            refine rP 121 (.bool true) (.bool ((turn : Int) != 0)) (by first | (rw [show ((turn : Int) != 0) = true from g20]; done) | (rw [show ((turn : Int) != 0) = true from g20]; rfl)) ?_
            exact rM hj
          · have g20p : ¬ ((turn : Int) ≠ 0) := by simpa using g20
            refine rQ [] [4, 5, 6, 7, 8, 9, 10, 11, 12, 13, 14, 15, 16, 17, 18, 19, 20, 21, 22, 23, 24, 25] [] (True) [(9, p0 d1), (12, z6 0), (13, .slice a bs.length cap), (14, .slice a bs.length cap), (19, z6 0), (121, .bool false)] (trivial) ?_
            refine rP 121 (.bool false) (.bool ((turn : Int) != 0)) (by first | (rw [show ((turn : Int) != 0) = false from g20]; done) | (rw [show ((turn : Int) != 0) = false from g20]; rfl)) ?_
            exact rM hj
        refine rD [(9, p0 d1), (12, z6 0), (13, .slice a bs.length cap), (14, .slice a bs.length cap), (19, z6 0), (121, .bool ((turn : Int) != 0))] ?_
        refine cI ((turn : Int) != 0) (fun h79 => ?_) (fun h79 => ?_)
        · have h79p : (turn : Int) ≠ 0 := by simpa using h79
          refine cQ [] (True) [(8, .bool true)] (trivial) ?_
          refine cT [] [] ?_
          refine cd_ret (then_ret (bot_ret (rv [.bool true] (.bool true) ?_)))
          refine ⟨?_, rfl⟩
          all_goals first | with_reducible rfl | (exact fin_one hgot key (by assumption); done) | (exact fin_two hgot key; done) | with_reducible assumption | omega | rfl | (simp_all; done) | (simp_all; omega)
        · have h79p : ¬ ((turn : Int) ≠ 0) := by simpa using h79
          refine cd_skip (then_n ?_)
          refine cd_rg ?_
          refine rQ [] [0] [1, 2, 3, 4, 5, 6] (True) [(12, z6 0), (13, .slice a bs.length cap), (14, .slice a bs.length cap), (19, z6 0), (123, p0 d1)] (trivial) ?_
          refine rC 1 [2, 3, 4, 5, 6] [0, 0] [bk b14 37 #[z6 keep, z6 at_, u1 turn], bk lb1 126 #[p0 d1, str (nameF [108] 1), n6 S.length, u6 nx, .bool false], bk b1 37 #[z6 keep, z6 at_, u1 turn], Lr] (walLoad_any C d1 m1 [(nameF [108] 1, fallF ⟨S, S.length⟩ keep at_ turn)] 4194304 st2 (-1) (-1) false 1 L1_46 h78 ⟨Oq.h {}⟩ ⟨Oq.h {}⟩) ?_
          rintro _ _ ⟨bs9, a47, cap47, Lr9, LB1_9, e19, h80, h81, hf43, hf44, rfl, rfl⟩
          refine rQ [] [2, 3, 4, 5, 6] [] (True) [(12, z6 0), (13, .slice a bs.length cap), (14, .slice a bs.length cap), (19, z6 0), (21, .slice a47 bs9.length cap47), (22, n6 e19)] (trivial) ?_
          refine rF ?_
          obtain ⟨rfl, hgot⟩ := load_one hf43 hf44
          have hgs := bt_small (hgot.trans List.take_length.symm)
          have hgl := bt_len (hgot.trans List.take_length.symm)
          have key := crash_law (shown := []) hL (T := []) (seq := 0) (b := []) (.inl rfl) hX hX0 (.inl rfl) (by first | exact cond_turn (by assumption) | exact cond_long (by assumption) (by assumption) (by assumption))
          refine cd_rg ?_
          refine rQ [] [0, 1, 2, 3, 4, 5, 6, 7, 8, 9, 10, 11] [12, 13, 14, 15, 16, 17, 18, 19, 20, 21, 22, 23, 24] (True) [(13, .slice a bs.length cap), (14, .slice a bs.length cap), (21, .slice a47 bs9.length cap47), (137, .bool true), (138, .slice a47 bs9.length cap47)] (trivial) ?_
          refine rC 12 [13, 14, 15, 16, 17, 18, 19, 20, 21, 22, 23, 24] [0] [LB1_9, bk d1 123 #[.map (some m1), z6 4194304, n6 st2, z6 (-1), z6 (-1), .bool false], L1_46, bk b14 37 #[z6 keep, z6 at_, u1 turn], bk lb1 126 #[p0 d1, str (nameF [108] 1), n6 S.length, u6 nx, .bool false], bk b1 37 #[z6 keep, z6 at_, u1 turn], Lr] (to_any C cap47 bs9 a47 Lr9 (SeesL.mono (Row.seesL (C := C) (l := bs9) (enc := btv) h80 rfl rfl (fun _ => rfl) (by decide)) (by intro p hp; first | exact hp | (simp [hp]; done) | cases hp)) ⟨Oq.h {}⟩) ?_
          rintro _ _ ⟨a48, cap48, L1_47, h82, rfl, rfl⟩
          refine rQ [] [13] [14, 15, 16, 17, 18, 19, 20, 21, 22, 23, 24] (True) [(14, .slice a bs.length cap), (21, .slice a47 bs9.length cap47), (137, .bool true), (139, .slice a48 bs9.length cap48), (140, .slice a bs.length cap)] (trivial) ?_
          refine rC 14 [15, 16, 17, 18, 19, 20, 21, 22, 23, 24] [8] [L1_47, Lr9, LB1_9, bk d1 123 #[.map (some m1), z6 4194304, n6 st2, z6 (-1), z6 (-1), .bool false], L1_46, bk b14 37 #[z6 keep, z6 at_, u1 turn], bk lb1 126 #[p0 d1, str (nameF [108] 1), n6 S.length, u6 nx, .bool false], bk b1 37 #[z6 keep, z6 at_, u1 turn]] (to_any C cap bs a Lr (SeesL.mono (Row.seesL (C := C) (l := bs) (enc := btv) hR rfl rfl (fun _ => rfl) (by decide)) (by intro p hp; first | exact hp | (simp [hp]; done) | cases hp)) ⟨Oq.h {}⟩) ?_
          rintro _ _ ⟨a49, cap49, L1_48, h83, rfl, rfl⟩
          refine rR 15 [16, 17, 18, 19, 20, 21, 22, 23, 24] (same16_any C cap48 cap49 _ a48 bs9 a49 bs (SeesL.mono (Row.seesL (C := C) (l := bs9) (enc := btv) h82 rfl rfl (fun _ => rfl) (by decide)) (by intro p hp; first | exact hp | (simp [hp]; done) | cases hp)) (SeesL.mono (Row.seesL (C := C) (l := bs) (enc := btv) h83 rfl rfl (fun _ => rfl) (by decide)) (by intro p hp; first | exact hp | (simp [hp]; done) | cases hp)) ⟨Oq.h {}⟩ ⟨Oq.h {}⟩ ⟨Oq.h {}⟩ ⟨Oq.h {}⟩) ?_
          rintro _ rfl
          refine rQ [] [16] [17, 18, 19, 20, 21, 22, 23, 24] (True) [(14, .slice a bs.length cap), (21, .slice a47 bs9.length cap47), (137, .bool true), (143, .bool (decide (bs9.map Bt.bat = bs.map Bt.bat)))] (trivial) ?_
          refine rI 143 (decide (bs9.map Bt.bat = bs.map Bt.bat)) (fun g21 => ?_) (fun g21 => ?_)
          · skip
            refine rQ [] [17, 18, 19, 20, 21, 22, 23, 24] [] (True) [(8, .bool true)] (trivial) ?_
            refine rF ?_
            refine cT [] [] ?_
            refine cd_ret (bot_ret (rv [.bool true] (.bool true) ?_))
            refine ⟨?_, rfl⟩
            all_goals first | with_reducible rfl | (exact fin_one hgot key (by assumption); done) | (exact fin_two hgot key; done) | with_reducible assumption | omega | rfl | (simp_all; done) | (simp_all; omega)
          · skip
            refine rQ [] [17] [18, 19, 20, 21, 22, 23, 24] (True) [(14, .slice a bs.length cap), (137, .bool true), (143, .bool false), (144, .slice a47 bs9.length cap47)] (trivial) ?_
            refine rC 18 [19, 20, 21, 22, 23, 24] [3] [L1_48, Lr, L1_47, LB1_9, bk d1 123 #[.map (some m1), z6 4194304, n6 st2, z6 (-1), z6 (-1), .bool false], L1_46, bk b14 37 #[z6 keep, z6 at_, u1 turn], bk lb1 126 #[p0 d1, str (nameF [108] 1), n6 S.length, u6 nx, .bool false], bk b1 37 #[z6 keep, z6 at_, u1 turn]] (to_any C cap47 bs9 a47 Lr9 (SeesL.mono (Row.seesL (C := C) (l := bs9) (enc := btv) h80 rfl rfl (fun _ => rfl) (by decide)) (by intro p hp; first | exact hp | (simp [hp]; done) | cases hp)) ⟨Oq.h {}⟩) ?_
            rintro _ _ ⟨a50, cap50, L1_49, h84, rfl, rfl⟩
            refine rQ [] [19] [20, 21, 22, 23, 24] (True) [(137, .bool true), (143, .bool false), (145, .slice a50 bs9.length cap50), (146, .slice a bs.length cap)] (trivial) ?_
            refine rC 20 [21, 22, 23, 24] [3] [L1_49, Lr9, L1_48, L1_47, LB1_9, bk d1 123 #[.map (some m1), z6 4194304, n6 st2, z6 (-1), z6 (-1), .bool false], L1_46, bk b14 37 #[z6 keep, z6 at_, u1 turn], bk lb1 126 #[p0 d1, str (nameF [108] 1), n6 S.length, u6 nx, .bool false], bk b1 37 #[z6 keep, z6 at_, u1 turn]] (to_any C cap bs a Lr (SeesL.mono (Row.seesL (C := C) (l := bs) (enc := btv) hR rfl rfl (fun _ => rfl) (by decide)) (by intro p hp; first | exact hp | (simp [hp]; done) | cases hp)) ⟨Oq.h {}⟩) ?_
            rintro _ _ ⟨a51, cap51, L1_50, h85, rfl, rfl⟩
            refine rR 21 [22, 23, 24] (same16_any C cap50 cap51 _ a50 bs9 a51 bs (SeesL.mono (Row.seesL (C := C) (l := bs9) (enc := btv) h84 rfl rfl (fun _ => rfl) (by decide)) (by intro p hp; first | exact hp | (simp [hp]; done) | cases hp)) (SeesL.mono (Row.seesL (C := C) (l := bs) (enc := btv) h85 rfl rfl (fun _ => rfl) (by decide)) (by intro p hp; first | exact hp | (simp [hp]; done) | cases hp)) ⟨Oq.h {}⟩ ⟨Oq.h {}⟩ ⟨Oq.h {}⟩ ⟨Oq.h {}⟩) ?_
            rintro _ rfl
            refine rQ [] [22, 23, 24] [] (True) [(8, .bool (decide (bs9.map Bt.bat = bs.map Bt.bat)))] (trivial) ?_
            refine rF ?_
            refine cT [] [] ?_
            refine cd_ret (bot_ret (rv [.bool (decide (bs9.map Bt.bat = bs.map Bt.bat))] (.bool (decide (bs9.map Bt.bat = bs.map Bt.bat))) ?_))
            refine ⟨?_, rfl⟩
            all_goals first | with_reducible rfl | (exact fin_one hgot key (by assumption); done) | (exact fin_two hgot key; done) | with_reducible assumption | omega | rfl | (simp_all; done) | (simp_all; omega)
end Go.Proofs
