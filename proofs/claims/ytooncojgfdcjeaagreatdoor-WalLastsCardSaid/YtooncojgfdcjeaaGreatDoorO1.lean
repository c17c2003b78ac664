/- Walks: what becomes of a disk. No condition. -/
import Derived.Test.YtooncojgfdcjeaaGreatDoorM1
import Derived.Test.YtooncojgfdcjeaaGreatDoorCv
import Derived.Test.YtooncojgfdcjeaaGreatDoorCr
import Derived.Test.YtooncojgfdcjeaaGreatDoorProg
namespace Go.Proofs
open Go Go.Sep
set_option maxRecDepth 100000 in
theorem fuse_any (C : Ctx) (d : Nat) (m : Nat) (fs : Files) (room : Nat) (st : Nat) (fu : Int) (fa : Int) (dn : Bool) (n : Int) (Lm : Blks) (hm : MapL fileV m fs Lm) (hn : Ok (-1 ≤ n)) :
    FnT Tryz.prog C 16 #[p0 d, z6 n] [bk d 123 #[.map (some m), n6 room, n6 st, z6 fu, z6 fa, .bool dn], Lm] (fun rv_ rL_ => ∃ fu1 : Int, (fu1 = n) ∧ rv_ = .tuple #[] ∧ rL_ = [bk d 123 #[.map (some m), n6 room, n6 st, z6 fu1, z6 fa, .bool dn], Lm]) := by
  replace hn := hn.h
  refine fE 11 Tryz.func16 rfl ?_
  refine cQ [] (True) [(0, p0 d), (1, z6 n), (5, .bool true)] (trivial) ?_
  refine cYes ?_
  refine cS0 [(5, .at 0)] ((d = d)) [] [bk d 123 #[.map (some m), n6 room, n6 st, z6 (if (-1) > n then -1 else n), z6 fa, .bool dn], Lm] (rfl) ?_
  refine (bot_n (rv [] (.tuple #[]) ?_))
  refine ⟨if (-1) > n then -1 else n, ?_, ?_, rfl⟩
  all_goals first | with_reducible rfl | ((split <;> omega); done) | with_reducible assumption | omega | rfl | (simp_all; done) | (simp_all; omega)

set_option maxRecDepth 100000 in
theorem fault_any (C : Ctx) (d : Nat) (m : Nat) (fs : Files) (room : Nat) (st : Nat) (fu : Int) (fa : Int) (dn : Bool) (n : Int) (Lm : Blks) (hm : MapL fileV m fs Lm) (hn : Ok (-1 ≤ n)) :
    FnT Tryz.prog C 17 #[p0 d, z6 n] [bk d 123 #[.map (some m), n6 room, n6 st, z6 fu, z6 fa, .bool dn], Lm] (fun rv_ rL_ => ∃ fa1 : Int, (fa1 = n) ∧ rv_ = .tuple #[] ∧ rL_ = [bk d 123 #[.map (some m), n6 room, n6 st, z6 fu, z6 fa1, .bool dn], Lm]) := by
  replace hn := hn.h
  refine fE 11 Tryz.func17 rfl ?_
  refine cQ [] (True) [(0, p0 d), (1, z6 n), (5, .bool true)] (trivial) ?_
  refine cYes ?_
  refine cS0 [(5, .at 0)] ((d = d)) [] [bk d 123 #[.map (some m), n6 room, n6 st, z6 fu, z6 (if (-1) > n then -1 else n), .bool dn], Lm] (rfl) ?_
  refine (bot_n (rv [] (.tuple #[]) ?_))
  refine ⟨if (-1) > n then -1 else n, ?_, ?_, rfl⟩
  all_goals first | with_reducible rfl | ((split <;> omega); done) | with_reducible assumption | omega | rfl | (simp_all; done) | (simp_all; omega)

set_option maxRecDepth 100000 in
theorem down_any (C : Ctx) (d : Nat) (v0 : Value) (v1 : Value) (v2 : Value) (v3 : Value) (v4 : Value) (dn : Bool) :
    FnT Tryz.prog C 22 #[p0 d] [bk d 123 #[v0, v1, v2, v3, v4, .bool dn]] (fun rv_ rL_ => rv_ = .bool dn ∧ rL_ = [bk d 123 #[v0, v1, v2, v3, v4, .bool dn]]) := by
  refine fE 11 Tryz.func22 rfl ?_
  refine cQ [] (True) [(0, p0 d)] (trivial) ?_
  refine cQ [(6, .at 0)] ((d = d)) [(2, .bool dn)] (rfl) ?_
  refine cd_ret (bot_ret (rv [.bool dn] (.bool dn) ?_))
  refine ⟨?_, rfl⟩
  all_goals first | with_reducible rfl | (skip; done) | with_reducible assumption | omega | rfl | (simp_all; done) | (simp_all; omega)

set_option maxRecDepth 100000 in
theorem walBroken_any (C : Ctx) (lb : Nat) (v0 : Value) (v1 : Value) (v2 : Value) (v3 : Value) (br : Bool) :
    FnT Tryz.prog C 20 #[p0 lb] [bk lb 126 #[v0, v1, v2, v3, .bool br]] (fun rv_ rL_ => rv_ = .bool br ∧ rL_ = [bk lb 126 #[v0, v1, v2, v3, .bool br]]) := by
  refine fE 11 Tryz.func20 rfl ?_
  refine cQ [] (True) [(0, p0 lb)] (trivial) ?_
  refine cQ [(6, .at 0)] ((lb = lb)) [(2, .bool br)] (rfl) ?_
  refine cd_ret (bot_ret (rv [.bool br] (.bool br) ?_))
  refine ⟨?_, rfl⟩
  all_goals first | with_reducible rfl | (skip; done) | with_reducible assumption | omega | rfl | (simp_all; done) | (simp_all; omega)

theorem light_next {l : List Chg} {i : Nat} {x : Chg} {Q : Chg → Prop} (h : ∀ x ∈ l.take i, Q x) (hx : l[i]? = some x) (hq : Q x) : ∀ x ∈ l.take (i + 1), Q x := by
  intro y hy
  rw [← take_push hx] at hy
  rcases List.mem_append.1 hy with hy | hy
  · exact h y hy
  · rw [List.mem_singleton.1 hy]; exact hq
theorem light_all {l : List Chg} {i : Nat} {Q : Chg → Prop} (h : ∀ x ∈ l.take i, Q x) (hi : ¬ i < l.length) : ∀ x ∈ l, Q x := by
  rwa [List.take_of_length_le (by omega)] at h
theorem btv_one (bs : List Bt) : oneCells (bs.flatMap btv) = true := by
  simp only [oneCells, List.all_eq_true, List.mem_flatMap]
  rintro v ⟨b, _, hv⟩
  simp only [btv, List.mem_cons, List.not_mem_nil, or_false] at hv
  rcases hv with rfl | rfl <;> rfl

set_option maxRecDepth 100000 in
theorem light_any (C : Ctx) (c0 : Nat) (H : Blks) (a : Option Addr) (l : List Chg) (hl : SeesL C H a chg 3 l) :
    FnT Tryz.prog C 18 #[.slice a l.length c0] [H] (fun rv_ rL_ => ∃ v : Bool, (v = true → ∀ c ∈ l, (fun c : Chg => l.length ≤ 60 ∧ c.key.length ≤ 300 ∧ c.val.length ≤ 4200) c) ∧ rv_ = .bool v ∧ rL_ = [H]) := by
  refine fE 27 Tryz.func18 rfl ?_
  refine cQ [] (True) [(0, .slice a l.length c0)] (trivial) ?_
  refine cd_seq ?_
  refine cQ [] (True) [(0, .slice a l.length c0), (5, .slice a l.length c0), (6, n6 l.length), (7, z6 0)] (trivial) ?_
  refine cd_block ?_
  refine lp (fun x : Nat => [(0, .slice a l.length c0), (5, .slice a l.length c0), (6, n6 l.length), (7, n6 x)]) (fun x : Nat => [H]) (fun x : Nat => ∀ c ∈ l.take x, (fun c : Chg => l.length ≤ 60 ∧ c.key.length ≤ 300 ∧ c.val.length ≤ 4200) c) (fun x : Nat => l.length - x) (0) (show ∀ c ∈ l.take 0, (fun c : Chg => l.length ≤ 60 ∧ c.key.length ≤ 300 ∧ c.val.length ≤ 4200) c by intro x hx; simp at hx) ?_
  rintro i hI
  replace hI : ∀ c ∈ l.take i, (fun c : Chg => l.length ≤ 60 ∧ c.key.length ≤ 300 ∧ c.val.length ≤ 4200) c := hI
  refine cQ [] (True) [(0, .slice a l.length c0), (5, .slice a l.length c0), (6, n6 l.length), (7, n6 i), (8, .bool (decide ((i : Int) < (l.length : Int))))] (trivial) ?_
  refine cd_seq ?_
  refine cI (decide ((i : Int) < (l.length : Int))) (fun h1 => ?_) (fun h1 => ?_)
  · have h1p : (i : Int) < (l.length : Int) := by simpa using h1
    refine cd_skip (then_n ?_)
    refine cd_seq ?_
    refine cd_block ?_
    obtain ⟨b1, o1, ha1⟩ := (hl).addr (by first | omega | (simp at *; omega))
    subst ha1
    obtain ⟨x1, hx1⟩ : ∃ x, l[i]? = some x := ⟨_, List.getElem?_eq_getElem (by first | omega | (simp at *; omega))⟩
    refine cd_rg ?_
    refine rQ [(1, .fact (.agg #[z6 x1.kind, str x1.key, str x1.val]))] [0, 1] [2, 3] ((0 ≤ (i : Int) ∧ (i : Int) < (l.length : Int)) ∧ (HasLoad Tryz.prog C [H] 107 ⟨b1, o1 + i * 3, none⟩ (.agg #[z6 x1.kind, str x1.key, str x1.val]))) [(0, .slice (some ⟨b1, o1, none⟩) l.length c0), (5, .slice (some ⟨b1, o1, none⟩) l.length c0), (6, n6 l.length), (7, n6 i), (10, .agg #[z6 x1.kind, str x1.key, str x1.val])] (⟨⟨by omega, by omega⟩, (hl).elem (P := Tryz.prog) (by intro p hp; simp [hp]) 107 i hx1 (by kernel_rfl) (by kernel_rfl) (by first | exact .inl ⟨by kernel_rfl, rfl⟩ | exact .inr ⟨by kernel_rfl, rfl⟩)⟩) ?_
    refine rN 2 [3] (.cells #[z6 0, str [], str []] 107 (0, 0)) p0 (fun b2 => ?_)
    refine rS [(3, .at 1)] [3] [] ((b2 = b2)) [(0, .slice (some ⟨b1, o1, none⟩) l.length c0), (4, p0 b2), (5, .slice (some ⟨b1, o1, none⟩) l.length c0), (6, n6 l.length), (7, n6 i)] [H, bk b2 107 #[z6 x1.kind, str x1.key, str x1.val]] (rfl) ?_
    refine rF ?_
    refine cd_rg ?_
    refine rQ [] [0, 1, 2, 3] [4, 5, 6, 7, 8, 9, 10, 11, 12, 13, 14] (True) [(0, .slice (some ⟨b1, o1, none⟩) l.length c0), (4, p0 b2), (5, .slice (some ⟨b1, o1, none⟩) l.length c0), (6, n6 l.length), (7, n6 i), (14, .bool (decide ((l.length : Int) > 60)))] (trivial) ?_
    refine rg_join2 [9, 10, 11, 12, 13, 14] [(0, .slice (some ⟨b1, o1, none⟩) l.length c0), (4, p0 b2), (5, .slice (some ⟨b1, o1, none⟩) l.length c0), (6, n6 l.length), (7, n6 i), (19, .bool ((decide ((l.length : Int) > 60)) || (decide ((x1.key.length : Int) > 300))))] [H, bk b2 107 #[z6 x1.kind, str x1.key, str x1.val]] (fun hj => ?_) ?_
    · refine rI 14 (decide ((l.length : Int) > 60)) (fun g1 => ?_) (fun g1 => ?_)
      · have g1p : (l.length : Int) > 60 := by simpa using g1
        refine rQ [] [4, 5, 6, 7, 8] [9, 10, 11, 12, 13, 14] (True) [(0, .slice (some ⟨b1, o1, none⟩) l.length c0), (4, p0 b2), (5, .slice (some ⟨b1, o1, none⟩) l.length c0), (6, n6 l.length), (7, n6 i), (19, .bool true)] (trivial) ?_
        refine rP 19 (.bool true) (.bool ((decide ((l.length : Int) > 60)) || (decide ((x1.key.length : Int) > 300)))) (by first | (rw [show (decide ((l.length : Int) > 60)) = true from g1]; done) | (rw [show (decide ((l.length : Int) > 60)) = true from g1]; rfl)) ?_
        exact rM hj
      · have g1p : ¬ ((l.length : Int) > 60) := by simpa using g1
        refine rQ [(5, .at 1)] [4, 5, 6, 7, 8] [9, 10, 11, 12, 13, 14] ((b2 = b2)) [(0, .slice (some ⟨b1, o1, none⟩) l.length c0), (4, p0 b2), (5, .slice (some ⟨b1, o1, none⟩) l.length c0), (6, n6 l.length), (7, n6 i), (19, .bool (decide ((x1.key.length : Int) > 300)))] (rfl) ?_
        refine rP 19 (.bool (decide ((x1.key.length : Int) > 300))) (.bool ((decide ((l.length : Int) > 60)) || (decide ((x1.key.length : Int) > 300)))) (by first | (rw [show (decide ((l.length : Int) > 60)) = false from g1]; done) | (rw [show (decide ((l.length : Int) > 60)) = false from g1]; rfl)) ?_
        exact rM hj
    refine rQ [] [9] [10, 11, 12, 13, 14] (True) [(0, .slice (some ⟨b1, o1, none⟩) l.length c0), (4, p0 b2), (5, .slice (some ⟨b1, o1, none⟩) l.length c0), (6, n6 l.length), (7, n6 i), (20, .bool ((decide ((l.length : Int) > 60)) || (decide ((x1.key.length : Int) > 300))))] (trivial) ?_
    refine rg_join2 [] [(0, .slice (some ⟨b1, o1, none⟩) l.length c0), (5, .slice (some ⟨b1, o1, none⟩) l.length c0), (6, n6 l.length), (7, n6 i), (25, .bool (((decide ((l.length : Int) > 60)) || (decide ((x1.key.length : Int) > 300))) || (decide ((x1.val.length : Int) > 4200))))] [H, bk b2 107 #[z6 x1.kind, str x1.key, str x1.val]] (fun hj => ?_) ?_
    · refine rI 20 ((decide ((l.length : Int) > 60)) || (decide ((x1.key.length : Int) > 300))) (fun g2 => ?_) (fun g2 => ?_)
      · have g2p : ((l.length : Int) > 60) ∨ ((x1.key.length : Int) > 300) := by simpa using g2
        refine rQ [] [10, 11, 12, 13, 14] [] (True) [(0, .slice (some ⟨b1, o1, none⟩) l.length c0), (5, .slice (some ⟨b1, o1, none⟩) l.length c0), (6, n6 l.length), (7, n6 i), (25, .bool true)] (trivial) ?_
        refine rP 25 (.bool true) (.bool (((decide ((l.length : Int) > 60)) || (decide ((x1.key.length : Int) > 300))) || (decide ((x1.val.length : Int) > 4200)))) (by first | (rw [show ((decide ((l.length : Int) > 60)) || (decide ((x1.key.length : Int) > 300))) = true from g2]; done) | (rw [show ((decide ((l.length : Int) > 60)) || (decide ((x1.key.length : Int) > 300))) = true from g2]; rfl)) ?_
        exact rM hj
      · have g2p : ¬ (((l.length : Int) > 60) ∨ ((x1.key.length : Int) > 300)) := by simpa using g2
        refine rQ [(11, .at 1)] [10, 11, 12, 13, 14] [] ((b2 = b2)) [(0, .slice (some ⟨b1, o1, none⟩) l.length c0), (5, .slice (some ⟨b1, o1, none⟩) l.length c0), (6, n6 l.length), (7, n6 i), (25, .bool (decide ((x1.val.length : Int) > 4200)))] (rfl) ?_
        refine rP 25 (.bool (decide ((x1.val.length : Int) > 4200))) (.bool (((decide ((l.length : Int) > 60)) || (decide ((x1.key.length : Int) > 300))) || (decide ((x1.val.length : Int) > 4200)))) (by first | (rw [show ((decide ((l.length : Int) > 60)) || (decide ((x1.key.length : Int) > 300))) = false from g2]; done) | (rw [show ((decide ((l.length : Int) > 60)) || (decide ((x1.key.length : Int) > 300))) = false from g2]; rfl)) ?_
        exact rM hj
    refine rD [(0, .slice (some ⟨b1, o1, none⟩) l.length c0), (5, .slice (some ⟨b1, o1, none⟩) l.length c0), (6, n6 l.length), (7, n6 i), (25, .bool (((decide ((l.length : Int) > 60)) || (decide ((x1.key.length : Int) > 300))) || (decide ((x1.val.length : Int) > 4200))))] ?_
    refine cI (((decide ((l.length : Int) > 60)) || (decide ((x1.key.length : Int) > 300))) || (decide ((x1.val.length : Int) > 4200))) (fun h2 => ?_) (fun h2 => ?_)
    · have h2p : (((l.length : Int) > 60) ∨ ((x1.key.length : Int) > 300)) ∨ ((x1.val.length : Int) > 4200) := by simpa using h2
      refine cQ [] (True) [(2, .bool false)] (trivial) ?_
      refine cT [0] [H] ?_
      refine cd_ret (block_ret (then_ret (then_ret (block_ret (then_ret (bot_ret (rv [.bool false] (.bool false) ?_)))))))
      refine ⟨false, ?_, ?_, rfl⟩
      all_goals first | with_reducible rfl | ((intro h; simp at h); done) | ((intro _; exact light_all hI (by omega)); done) | with_reducible assumption | omega | rfl | (simp_all; done) | (simp_all; omega)
    · have h2p : ¬ ((((l.length : Int) > 60) ∨ ((x1.key.length : Int) > 300)) ∨ ((x1.val.length : Int) > 4200)) := by simpa using h2
      refine cd_skip (block_n (then_n ?_))
      refine cd_region ?_
      refine rQ [] [0, 1] [] ((inKind .i64 ((i : Int) + 1))) [(0, .slice (some ⟨b1, o1, none⟩) l.length c0), (5, .slice (some ⟨b1, o1, none⟩) l.length c0), (6, n6 l.length), (7, n6 (i + 1))] (inK_i64 (by omega)) ?_
      refine rT [0] [H] ?_
      refine rg_nil ?_
      refine (lM (i + 1) (show ∀ c ∈ l.take (i + 1), (fun c : Chg => l.length ≤ 60 ∧ c.key.length ≤ 300 ∧ c.val.length ≤ 4200) c from light_next hI hx1 (by first | omega | (simp_all; done) | (simp_all; omega))) (show (l.length - (i + 1)) < (l.length - i) by first | omega | (simp; omega)))
  · have h1p : ¬ ((i : Int) < (l.length : Int)) := by simpa using h1
    refine cd_exit (then_exit (then_exit (block_hit (then_n ?_))))
    refine cQ [] (True) [(2, .bool true)] (trivial) ?_
    refine cd_ret (bot_ret (rv [.bool true] (.bool true) ?_))
    refine ⟨true, ?_, ?_, rfl⟩
    all_goals first | with_reducible rfl | ((intro h; simp at h); done) | ((intro _; exact light_all hI (by omega)); done) | with_reducible assumption | omega | rfl | (simp_all; done) | (simp_all; omega)

set_option maxRecDepth 100000 in
theorem clone_nil (C : Ctx)  :
    FnT Tryz.prog C 21 #[.slice none 0 0] [] (fun rv_ rL_ => rv_ = .slice none 0 0 ∧ rL_ = []) := by
  refine fE 8 Tryz.func21 rfl ?_
  refine cQ [] (True) [(0, .slice none 0 0)] (trivial) ?_
  refine cd_seq ?_
  refine cQ [] (True) [(0, .slice none 0 0), (4, .bool true)] (trivial) ?_
  refine cYes ?_
  refine cQ [] (True) [(2, .slice none 0 0)] (trivial) ?_
  refine cd_ret (then_ret (bot_ret (rv [.slice none 0 0] (.slice none 0 0) ?_)))
  refine ⟨?_, rfl⟩
  all_goals first | with_reducible rfl | (skip; done) | with_reducible assumption | omega | rfl | (simp_all; done) | (simp_all; omega)

set_option maxRecDepth 100000 in
theorem clone_some (C : Ctx) (b0 : Nat) (cap : Nat) (bs : List Bt) (Lr : Blks) (hR : Row 32 2 (some ⟨b0, 0, none⟩) bs.length cap (bs.flatMap btv) Lr) (hp : Ok (0 < bs.length)) (h40 : Ok (bs.length ≤ 1000)) :
    FnT Tryz.prog C 21 #[.slice (some ⟨b0, 0, none⟩) bs.length cap] [Lr] (fun rv_ rL_ => ∃ a1 : Option Addr, ∃ cap1 : Nat, ∃ L1 : Blks, (Row 32 2 a1 bs.length cap1 (bs.flatMap btv) L1) ∧ rv_ = .slice a1 bs.length cap1 ∧ rL_ = [L1, Lr]) := by
  replace hp := hp.h
  replace h40 := h40.h
  refine fE 8 Tryz.func21 rfl ?_
  refine cQ [] (True) [(0, .slice (some ⟨b0, 0, none⟩) bs.length cap)] (trivial) ?_
  refine cd_seq ?_
  refine cQ [] (True) [(0, .slice (some ⟨b0, 0, none⟩) bs.length cap), (4, .bool false)] (trivial) ?_
  refine cNo ?_
  refine cd_skip (then_n ?_)
  refine cd_rg ?_
  refine rQ [] [] [0, 1, 2, 3] (True) [(0, .slice (some ⟨b0, 0, none⟩) bs.length cap)] (trivial) ?_
  refine rN 0 [1, 2, 3] (.cells #[] 32 (0, 0)) (fun b1 => sl b1 0 0) (fun b1 => ?_)
  refine rQ [] [1] [2, 3] (True) [(5, sl b1 0 0), (6, .slice (some ⟨b0, 0, none⟩) bs.length cap)] (trivial) ?_
  refine rX 2 [3] (do pure (.value (← Builtin.append_ #[25, 25] 25 #[sl b1 0 0, .slice (some ⟨b0, 0, none⟩) bs.length cap]))) [0] [Lr] [bk b1 32 #[]] (gv_append0 (bytes := 32) 25 (by kernel_rfl) hR (by omega) (btv_one bs) (by omega) (by omega)) ?_
  rintro _ _ ⟨a1, cap1, L1, rfl, rfl, h1⟩
  refine rQ [] [3] [] (True) [(2, .slice a1 bs.length cap1)] (trivial) ?_
  refine rF ?_
  refine cT [0, 0] [L1, Lr] ?_
  refine cd_ret (bot_ret (rv [.slice a1 bs.length cap1] (.slice a1 bs.length cap1) ?_))
  refine ⟨a1, cap1, L1, h1, ?_, rfl⟩
  all_goals first | with_reducible rfl | (skip; done) | with_reducible assumption | omega | rfl | (simp_all; done) | (simp_all; omega)

theorem clone_any (C : Ctx) (a : Option Addr) (cap : Nat) (bs : List Bt) (Lr : Blks) (hR : Row 32 2 a bs.length cap (bs.flatMap btv) Lr) (hp : a = none ∨ 0 < bs.length) (h40 : bs.length ≤ 1000) :
    FnT Tryz.prog C 21 #[.slice a bs.length cap] [Lr] (fun v L' => ∃ (a1 : Option Addr) (cap1 : Nat) (L1 : Blks), (Row 32 2 a1 bs.length cap1 (bs.flatMap btv) L1) ∧ v = .slice a1 bs.length cap1 ∧ L' = [L1, Lr]) := by
  have hR' := hR
  rcases hR with ⟨rfl, hn, rfl, hx, rfl⟩ | ⟨b, spare, fz, rfl, hc, h1, h2, h3, h4⟩
  · have hl0 : bs = [] := List.length_eq_zero_iff.1 hn
    subst hl0
    intro w F hw
    refine (clone_nil C w F (by simpa using hw)).mono ?_
    rintro e w' ⟨v, L', rfl, ho, rfl, rfl⟩
    exact ⟨_, [[], []], rfl, by simpa using ho, none, 0, [], Row.nil 32 2, rfl, rfl⟩
  · have hp' : 0 < bs.length := by
      rcases hp with h | h
      · cases h
      · exact h
    exact clone_some C b cap bs Lr hR' ⟨hp'⟩ ⟨h40⟩

theorem fall_eq (s : List UInt8) (sure : Nat) (keep at_ : Int) (turn : Nat) {l1 : List UInt8} (h : l1 = turnF (s.drop sure) (keepN keep (s.drop sure).length) at_ turn) :
    s.take sure ++ l1.take (keepN keep (s.drop sure).length) = (fallF ⟨s, sure⟩ keep at_ turn).s := by subst h; rfl
theorem fall_sure_eq (f : FileS) (keep at_ : Int) (turn : Nat) : (fallF f keep at_ turn).sure = (fallF f keep at_ turn).s.length := rfl
theorem turn_no {l : List UInt8} {k : Nat} {at_ : Int} {turn : Nat} (h : ¬ (0 ≤ at_ ∧ at_ < (k : Int))) : l = turnF l k at_ turn := by rw [turnF, if_neg h]
theorem turn_yes {l : List UInt8} {k n : Nat} {turn : Nat} (h : n < k) : l.set n (UInt8.ofNat ((l.getD n 0).toNat ^^^ turn)) = turnF l k (n : Int) turn := by
  rw [turnF, if_pos ⟨by omega, by omega⟩]; rfl

set_option maxRecDepth 100000 in
theorem fall_any (C : Ctx) (s : List UInt8) (sure : Nat) (keep : Int) (at_ : Int) (turn : Nat) (hs : Ok (sure ≤ s.length)) (hl : Ok (s.length ≤ 1073741824)) (ht : Ok (turn < 256)) :
    FnT Tryz.prog C 62 #[.agg #[str s, n6 sure], .agg #[z6 keep, z6 at_, u1 turn]] [] (fun rv_ rL_ => rv_ = .agg #[str ((fallF ⟨s, sure⟩ keep at_ turn).s), n6 ((fallF ⟨s, sure⟩ keep at_ turn).sure)] ∧ rL_ = []) := by
  replace hs := hs.h
  replace hl := hl.h
  replace ht := ht.h
  refine fE 52 Tryz.func62 rfl ?_
  refine cd_rg ?_
  refine rQ [] [] [0, 1, 2] (True) [(0, .agg #[str s, n6 sure]), (1, .agg #[z6 keep, z6 at_, u1 turn])] (trivial) ?_
  refine rN 0 [1, 2] (.cells #[str s, n6 sure] 132 (0, 0)) p0 (fun b1 => ?_)
  refine rN 1 [2] (.cells #[z6 keep, z6 at_, u1 turn] 37 (0, 0)) p0 (fun b2 => ?_)
  refine rN 2 [] (.cells #[str [], z6 0] 132 (0, 0)) p0 (fun b3 => ?_)
  refine rD [(2, p0 b1), (3, p0 b2), (4, p0 b3)] ?_
  refine cd_rg ?_
  refine rQ [(1, .at 0), (3, .at 0)] [0, 1, 2, 3, 4] [5, 6] ((b1 = b1) ∧ (b1 = b1) ∧ (0 ≤ (sure : Int) ∧ (sure : Int) ≤ (s.length : Int) ∧ (s.length : Int) ≤ (s.length : Int))) [(2, p0 b1), (3, p0 b2), (4, p0 b3), (11, str ((s.take s.length).drop sure))] (⟨rfl, rfl, ⟨by omega, by omega, by omega⟩⟩) ?_
  refine rP 11 (str ((s.take s.length).drop sure)) (str (s.drop sure)) (by rw [List.take_length]) ?_
  refine rX 5 [6] (do pure (.value (← convert 9 189 (str (s.drop sure))))) [] [] [bk b1 132 #[str s, n6 sure], bk b2 37 #[z6 keep, z6 at_, u1 turn], bk b3 132 #[str [], z6 0]] (gv_bytesOf (s.drop sure) (by kernel_rfl)) ?_
  rintro _ _ ⟨b4, cap1, spare1, fz1, h1, rfl, rfl⟩
  refine rQ [] [6] [] (True) [(2, p0 b1), (3, p0 b2), (4, p0 b3), (5, sl b4 ((s.drop sure).length) cap1)] (trivial) ?_
  refine rF ?_
  refine cd_rg ?_
  refine rQ [(2, .at 2)] [0, 1, 2, 3, 4, 5, 6, 7] [8] ((b2 = b2) ∧ (0 ≤ (if (((s.drop sure).length : Nat) : Int) < (if 0 > keep then 0 else keep) then (((s.drop sure).length : Nat) : Int) else if 0 > keep then 0 else keep) ∧ (if (((s.drop sure).length : Nat) : Int) < (if 0 > keep then 0 else keep) then (((s.drop sure).length : Nat) : Int) else if 0 > keep then 0 else keep) ≤ (cap1 : Int))) [(2, p0 b1), (3, p0 b2), (4, p0 b3), (20, sl b4 ((if (((s.drop sure).length : Nat) : Int) < (if 0 > keep then 0 else keep) then (((s.drop sure).length : Nat) : Int) else if 0 > keep then 0 else keep).toNat) cap1)] (⟨rfl, ⟨by omega, by omega⟩⟩) ?_
  refine rP 20 (sl b4 ((if (((s.drop sure).length : Nat) : Int) < (if 0 > keep then 0 else keep) then (((s.drop sure).length : Nat) : Int) else if 0 > keep then 0 else keep).toNat) cap1) (sl b4 (keepN keep (s.drop sure).length) cap1) (by unfold keepN; congr 1; split <;> split <;> (try split) <;> omega) ?_
  refine rQ [] [8] [] (True) [(2, p0 b1), (3, p0 b2), (4, p0 b3), (5, sl b4 (keepN keep (s.drop sure).length) cap1)] (trivial) ?_
  refine rF ?_
  refine cd_seq ?_
  refine cd_rg ?_
  refine rQ [(1, .at 2)] [0, 1, 2, 3] [4, 5, 6, 7, 8, 9] ((b2 = b2)) [(2, p0 b1), (3, p0 b2), (4, p0 b3), (5, sl b4 (keepN keep (s.drop sure).length) cap1), (24, .bool (decide (at_ ≥ 0)))] (rfl) ?_
  refine rg_join2 [] [(2, p0 b1), (3, p0 b2), (4, p0 b3), (5, sl b4 (keepN keep (s.drop sure).length) cap1), (30, .bool ((decide (at_ ≥ 0)) && (decide (at_ < ((keepN keep (s.drop sure).length : Nat) : Int)))))] [[(b4, .cells (byteCells (s.drop sure) spare1) 5 fz1)], bk b1 132 #[str s, n6 sure], bk b2 37 #[z6 keep, z6 at_, u1 turn], bk b3 132 #[str [], z6 0]] (fun hj => ?_) ?_
  · refine rI 24 (decide (at_ ≥ 0)) (fun g1 => ?_) (fun g1 => ?_)
    · have g1p : at_ ≥ 0 := by simpa using g1
      refine rQ [(5, .at 2)] [4, 5, 6, 7, 8, 9] [] ((b2 = b2)) [(2, p0 b1), (3, p0 b2), (4, p0 b3), (5, sl b4 (keepN keep (s.drop sure).length) cap1), (30, .bool (decide (at_ < ((keepN keep (s.drop sure).length : Nat) : Int))))] (rfl) ?_
      refine rP 30 (.bool (decide (at_ < ((keepN keep (s.drop sure).length : Nat) : Int)))) (.bool ((decide (at_ ≥ 0)) && (decide (at_ < ((keepN keep (s.drop sure).length : Nat) : Int))))) (by first | (rw [show (decide (at_ ≥ 0)) = true from g1]; done) | (rw [show (decide (at_ ≥ 0)) = true from g1]; rfl)) ?_
      exact rM hj
    · have g1p : ¬ (at_ ≥ 0) := by simpa using g1
      refine rQ [] [4, 5, 6, 7, 8, 9] [] (True) [(2, p0 b1), (3, p0 b2), (4, p0 b3), (5, sl b4 (keepN keep (s.drop sure).length) cap1), (30, .bool false)] (trivial) ?_
      refine rP 30 (.bool false) (.bool ((decide (at_ ≥ 0)) && (decide (at_ < ((keepN keep (s.drop sure).length : Nat) : Int))))) (by first | (rw [show (decide (at_ ≥ 0)) = false from g1]; done) | (rw [show (decide (at_ ≥ 0)) = false from g1]; rfl)) ?_
      exact rM hj
  refine rD [(2, p0 b1), (3, p0 b2), (4, p0 b3), (5, sl b4 (keepN keep (s.drop sure).length) cap1), (30, .bool ((decide (at_ ≥ 0)) && (decide (at_ < ((keepN keep (s.drop sure).length : Nat) : Int)))))] ?_
  refine cI ((decide (at_ ≥ 0)) && (decide (at_ < ((keepN keep (s.drop sure).length : Nat) : Int)))) (fun h2 => ?_) (fun h2 => ?_)
  · have h2p : (at_ ≥ 0) ∧ (at_ < ((keepN keep (s.drop sure).length : Nat) : Int)) := by simpa using h2
    obtain ⟨n, rfl⟩ : ∃ n : Nat, at_ = (n : Int) := ⟨at_.toNat, by omega⟩
    have hk := keepN_le keep (s.drop sure).length
    have hb := UInt8.toNat_lt ((s.drop sure).getD n 0)
    refine dr0 [bk b1 132 #[str s, n6 sure], bk b2 37 #[z6 keep, n6 n, u1 turn], bk b3 132 #[str [], z6 0]] [[(b4, .cells (byteCells (s.drop sure) spare1) 5 fz1)]] [0] 10 ?_
    refine aS [(2, .at 1), (6, .at 1)] [0, 1, 5, 2, 6, 3] ((b2 = b2) ∧ (b2 = b2) ∧ (0 ≤ (n : Int) ∧ (n : Int) < (keepN keep (s.drop sure).length : Int))) [(2, p0 b1), (4, p0 b3), (5, sl b4 (keepN keep (s.drop sure).length) cap1), (31, sl b4 (keepN keep (s.drop sure).length) cap1), (33, n6 n), (34, pq b4 (0 + n * 1)), (37, u1 turn)] (bm 10 111) 4 (⟨rfl, rfl, ⟨by omega, by omega⟩⟩) ?_
    refine aI (i := 4) ?_
    refine xQ [(4, .cell 0 (u1 (((s.drop sure).getD n 0).toNat)))] (b4 = b4 ∧ (byteCells (s.drop sure) spare1)[0 + n * 1]? = some (u1 (((s.drop sure).getD n 0).toNat))) [(2, p0 b1), (4, p0 b3), (5, sl b4 (keepN keep (s.drop sure).length) cap1), (31, sl b4 (keepN keep (s.drop sure).length) cap1), (33, n6 n), (35, u1 (((s.drop sure).getD n 0).toNat)), (37, u1 turn)] (bm 10 127) (⟨rfl, byteCells_get (by omega)⟩) ?_
    refine aS [(7, .nat)] [7, 8] ((natK .u8 ((((s.drop sure).getD n 0).toNat : Nat) : Int) ∧ natK .u8 (turn : Int)) ∧ (0 ≤ (n : Int) ∧ (n : Int) < (keepN keep (s.drop sure).length : Int))) [(2, p0 b1), (4, p0 b3), (5, sl b4 (keepN keep (s.drop sure).length) cap1), (38, u1 ((((s.drop sure).getD n 0).toNat) ^^^ turn)), (39, pq b4 (0 + n * 1))] (bm 10 511) 1 (⟨⟨natK_u8 (by omega), natK_u8 (by omega)⟩, ⟨by omega, by omega⟩⟩) ?_
    refine aI (i := 9) ?_
    refine xS [(9, .cellf 0)] (b4 = b4 ∧ (0 + n * 1) + 1 ≤ (byteCells (s.drop sure) spare1).size ∧ (0 + n * 1) + 1 ≤ fz1.1) [(2, p0 b1), (4, p0 b3), (5, sl b4 (keepN keep (s.drop sure).length) cap1)] [[(b4, .cells (setCells (byteCells (s.drop sure) spare1) (0 + n * 1) [u1 ((((s.drop sure).getD n 0).toNat) ^^^ turn)]) 5 fz1)]] (bm 10 1023) (⟨rfl, by rw [byteCells_size]; omega, by omega⟩) ?_
    refine aK [0, 0, 0, 0] [(2, p0 b1), (4, p0 b3), (5, sl b4 (keepN keep (s.drop sure).length) cap1)] [bk b1 132 #[str s, n6 sure], bk b2 37 #[z6 keep, n6 n, u1 turn], bk b3 132 #[str [], z6 0], [(b4, .cells (setCells (byteCells (s.drop sure) spare1) (0 + n * 1) [u1 ((((s.drop sure).getD n 0).toNat) ^^^ turn)]) 5 fz1)]] ?_
    refine (then_n ?_)
    refine cd_same (show ([bk b1 132 #[str s, n6 sure], bk b2 37 #[z6 keep, n6 n, u1 turn], bk b3 132 #[str [], z6 0], [(b4, .cells (setCells (byteCells (s.drop sure) spare1) (0 + n * 1) [u1 ((((s.drop sure).getD n 0).toNat) ^^^ turn)]) 5 fz1)]] : List Blks) = [bk b1 132 #[str s, n6 sure], bk b2 37 #[z6 keep, n6 n, u1 turn], bk b3 132 #[str [], z6 0], [(b4, .cells (byteCells ((s.drop sure).set n (UInt8.ofNat (((s.drop sure).getD n 0).toNat ^^^ turn))) spare1) 5 fz1)]] from (by rw [byteCells_set (by omega) (xor8 (UInt8.toNat_lt _) ht)])) ?_
    refine dr [bk b1 132 #[str s, n6 sure], bk b2 37 #[z6 keep, n6 n, u1 turn], bk b3 132 #[str [], z6 0]] [[(b4, .cells (byteCells ((s.drop sure).set n (UInt8.ofNat (((s.drop sure).getD n 0).toNat ^^^ turn))) spare1) 5 fz1)]] [3] 9 ?_
    refine aS [(1, .at 0), (3, .at 0)] [0, 2, 5, 1, 3, 4] ((b1 = b1) ∧ (b1 = b1) ∧ (0 ≤ (0 : Int) ∧ (0 : Int) ≤ (sure : Int) ∧ (sure : Int) ≤ (s.length : Int))) [(4, p0 b3), (44, str ((s.take sure).drop 0)), (45, sl b4 (keepN keep (s.drop sure).length) cap1)] (bm 9 63) 3 (⟨rfl, rfl, ⟨by omega, by omega, by omega⟩⟩) ?_
    refine aI (i := 6) ?_
    refine xX (do pure (.value (← convert 189 9 (sl b4 (keepN keep (s.drop sure).length) cap1)))) [0] [[(b4, .cells (byteCells ((s.drop sure).set n (UInt8.ofNat (((s.drop sure).getD n 0).toNat ^^^ turn))) spare1) 5 fz1)]] [] [4, 44, 46] (bm 9 127) (gv_conv (by kernel_rfl) (gv_cutbytes ((s.drop sure).set n (UInt8.ofNat (((s.drop sure).getD n 0).toNat ^^^ turn))) spare1 (by first | exact keepN_le _ _ | (rw [List.length_set]; exact keepN_le _ _)))) ?_
    rintro _ _ ⟨rfl, rfl⟩
    refine aS [] [7, 8] ((((s.take sure).drop 0).length + (((s.drop sure).set n (UInt8.ofNat (((s.drop sure).getD n 0).toNat ^^^ turn))).take (keepN keep (s.drop sure).length)).length ≤ 9223372036854775807)) [(4, p0 b3), (6, str (((s.take sure).drop 0) ++ (((s.drop sure).set n (UInt8.ofNat (((s.drop sure).getD n 0).toNat ^^^ turn))).take (keepN keep (s.drop sure).length))))] (bm 9 511) 0 (by first | omega | (simp only [List.length_append, List.length_cons, List.length_nil]; omega) | (simp; omega)) ?_
    refine aE [(4, p0 b3), (6, str (((s.take sure).drop 0) ++ (((s.drop sure).set n (UInt8.ofNat (((s.drop sure).getD n 0).toNat ^^^ turn))).take (keepN keep (s.drop sure).length))))] [bk b1 132 #[str s, n6 sure], bk b2 37 #[z6 keep, n6 n, u1 turn], bk b3 132 #[str [], z6 0], [(b4, .cells (byteCells ((s.drop sure).set n (UInt8.ofNat (((s.drop sure).getD n 0).toNat ^^^ turn))) spare1) 5 fz1)]] ?_
    refine cS [(4, .at 2)] ((b3 = b3)) [(4, p0 b3)] [bk b1 132 #[str s, n6 sure], bk b2 37 #[z6 keep, n6 n, u1 turn], bk b3 132 #[str (((s.take sure).drop 0) ++ (((s.drop sure).set n (UInt8.ofNat (((s.drop sure).getD n 0).toNat ^^^ turn))).take (keepN keep (s.drop sure).length))), n6 ((((s.take sure).drop 0) ++ (((s.drop sure).set n (UInt8.ofNat (((s.drop sure).getD n 0).toNat ^^^ turn))).take (keepN keep (s.drop sure).length))).length)], [(b4, .cells (byteCells ((s.drop sure).set n (UInt8.ofNat (((s.drop sure).getD n 0).toNat ^^^ turn))) spare1) 5 fz1)]] (rfl) ?_
    refine cd_ret (bot_ret (ret_cell 4 132 2 b3 #[str (((s.take sure).drop 0) ++ (((s.drop sure).set n (UInt8.ofNat (((s.drop sure).getD n 0).toNat ^^^ turn))).take (keepN keep (s.drop sure).length))), n6 ((((s.take sure).drop 0) ++ (((s.drop sure).set n (UInt8.ofNat (((s.drop sure).getD n 0).toNat ^^^ turn))).take (keepN keep (s.drop sure).length))).length)] 132 (0, 0) [] [] [bk b1 132 #[str s, n6 sure], bk b2 37 #[z6 keep, n6 n, u1 turn], bk b3 132 #[str (((s.take sure).drop 0) ++ (((s.drop sure).set n (UInt8.ofNat (((s.drop sure).getD n 0).toNat ^^^ turn))).take (keepN keep (s.drop sure).length))), n6 ((((s.take sure).drop 0) ++ (((s.drop sure).set n (UInt8.ofNat (((s.drop sure).getD n 0).toNat ^^^ turn))).take (keepN keep (s.drop sure).length))).length)], [(b4, .cells (byteCells ((s.drop sure).set n (UInt8.ofNat (((s.drop sure).getD n 0).toNat ^^^ turn))) spare1) 5 fz1)]] rfl (by kernel_rfl) (by kernel_rfl) (by kernel_rfl) (by kernel_rfl) (by kernel_rfl) (by kernel_rfl) ?_))
    refine ⟨?_, rfl⟩
    all_goals first | with_reducible rfl | ((rw [List.drop_zero, fall_eq s sure keep _ turn (turn_no (by omega))]; rfl); done) | ((rw [List.drop_zero, fall_eq s sure keep _ turn (turn_yes (by omega))]; rfl); done) | with_reducible assumption | omega | rfl | (simp_all; done) | (simp_all; omega)
  · have h2p : ¬ ((at_ ≥ 0) ∧ (at_ < ((keepN keep (s.drop sure).length : Nat) : Int))) := by simpa using h2
    refine cd_skip (then_n ?_)
    refine dr [bk b1 132 #[str s, n6 sure], bk b2 37 #[z6 keep, z6 at_, u1 turn], bk b3 132 #[str [], z6 0]] [[(b4, .cells (byteCells (s.drop sure) spare1) 5 fz1)]] [0] 9 ?_
    refine aS [(1, .at 0), (3, .at 0)] [0, 2, 5, 1, 3, 4] ((b1 = b1) ∧ (b1 = b1) ∧ (0 ≤ (0 : Int) ∧ (0 : Int) ≤ (sure : Int) ∧ (sure : Int) ≤ (s.length : Int))) [(4, p0 b3), (44, str ((s.take sure).drop 0)), (45, sl b4 (keepN keep (s.drop sure).length) cap1)] (bm 9 63) 3 (⟨rfl, rfl, ⟨by omega, by omega, by omega⟩⟩) ?_
    refine aI (i := 6) ?_
    refine xX (do pure (.value (← convert 189 9 (sl b4 (keepN keep (s.drop sure).length) cap1)))) [0] [[(b4, .cells (byteCells (s.drop sure) spare1) 5 fz1)]] [] [4, 44, 46] (bm 9 127) (gv_conv (by kernel_rfl) (gv_cutbytes (s.drop sure) spare1 (by first | exact keepN_le _ _ | (rw [List.length_set]; exact keepN_le _ _)))) ?_
    rintro _ _ ⟨rfl, rfl⟩
    refine aS [] [7, 8] ((((s.take sure).drop 0).length + ((s.drop sure).take (keepN keep (s.drop sure).length)).length ≤ 9223372036854775807)) [(4, p0 b3), (6, str (((s.take sure).drop 0) ++ ((s.drop sure).take (keepN keep (s.drop sure).length))))] (bm 9 511) 0 (by first | omega | (simp only [List.length_append, List.length_cons, List.length_nil]; omega) | (simp; omega)) ?_
    refine aE [(4, p0 b3), (6, str (((s.take sure).drop 0) ++ ((s.drop sure).take (keepN keep (s.drop sure).length))))] [bk b1 132 #[str s, n6 sure], bk b2 37 #[z6 keep, z6 at_, u1 turn], bk b3 132 #[str [], z6 0], [(b4, .cells (byteCells (s.drop sure) spare1) 5 fz1)]] ?_
    refine cS [(4, .at 2)] ((b3 = b3)) [(4, p0 b3)] [bk b1 132 #[str s, n6 sure], bk b2 37 #[z6 keep, z6 at_, u1 turn], bk b3 132 #[str (((s.take sure).drop 0) ++ ((s.drop sure).take (keepN keep (s.drop sure).length))), n6 ((((s.take sure).drop 0) ++ ((s.drop sure).take (keepN keep (s.drop sure).length))).length)], [(b4, .cells (byteCells (s.drop sure) spare1) 5 fz1)]] (rfl) ?_
    refine cd_ret (bot_ret (ret_cell 4 132 2 b3 #[str (((s.take sure).drop 0) ++ ((s.drop sure).take (keepN keep (s.drop sure).length))), n6 ((((s.take sure).drop 0) ++ ((s.drop sure).take (keepN keep (s.drop sure).length))).length)] 132 (0, 0) [] [] [bk b1 132 #[str s, n6 sure], bk b2 37 #[z6 keep, z6 at_, u1 turn], bk b3 132 #[str (((s.take sure).drop 0) ++ ((s.drop sure).take (keepN keep (s.drop sure).length))), n6 ((((s.take sure).drop 0) ++ ((s.drop sure).take (keepN keep (s.drop sure).length))).length)], [(b4, .cells (byteCells (s.drop sure) spare1) 5 fz1)]] rfl (by kernel_rfl) (by kernel_rfl) (by kernel_rfl) (by kernel_rfl) (by kernel_rfl) (by kernel_rfl) ?_))
    refine ⟨?_, rfl⟩
    all_goals first | with_reducible rfl | ((rw [List.drop_zero, fall_eq s sure keep _ turn (turn_no (by omega))]; rfl); done) | ((rw [List.drop_zero, fall_eq s sure keep _ turn (turn_yes (by omega))]; rfl); done) | with_reducible assumption | omega | rfl | (simp_all; done) | (simp_all; omega)

theorem one_at {nm x : List UInt8} {i : Nat} (h : [nm][i]? = some x) : 0 = i ∧ nm = x := by
  cases i with
  | zero => simp at h; exact ⟨rfl, h⟩
  | succ i => simp at h
theorem crash_put (nm : List UInt8) (f : FileS) (keep at_ : Int) (turn : Nat) :
    putA [(nm, f)] nm ⟨(fallF ⟨(getF [(nm, f)] nm).s, (getF [(nm, f)] nm).sure⟩ keep at_ turn).s, (fallF ⟨(getF [(nm, f)] nm).s, (getF [(nm, f)] nm).sure⟩ keep at_ turn).sure⟩ = [(nm, fallF f keep at_ turn)] := by
  rw [putA_one]; simp only [getF, getA_one, Option.getD_some]

set_option maxRecDepth 100000 in
theorem loose_any (C : Ctx) (d : Nat) (m : Nat) (fs : Files) (v1 : Value) (v2 : Value) (v3 : Value) (v4 : Value) (v5 : Value) (name : List UInt8) (Lm : Blks) (hm : MapL fileV m fs Lm) (hfl : Ok ((getF fs name).s.length ≤ 1073741824)) (hsu : Ok ((getF fs name).sure ≤ (getF fs name).s.length)) :
    FnT Tryz.prog C 61 #[p0 d, str name] [bk d 123 #[.map (some m), v1, v2, v3, v4, v5], Lm] (fun rv_ rL_ => ∃ e : Int, (e = ((getF fs name).s.length : Int) - ((getF fs name).sure : Int)) ∧ rv_ = z6 e ∧ rL_ = [bk d 123 #[.map (some m), v1, v2, v3, v4, v5], Lm]) := by
  replace hfl := hfl.h
  replace hsu := hsu.h
  refine fE 20 Tryz.func61 rfl ?_
  refine cQ [] (True) [(0, p0 d), (1, str name)] (trivial) ?_
  refine cd_seq ?_
  refine cQ [] (True) [(0, p0 d), (1, str name), (7, .bool false)] (trivial) ?_
  refine cNo ?_
  refine cd_skip (then_n ?_)
  refine cd_rg ?_
  refine rQ [(3, .at 0)] [0, 1, 2, 3, 4] [5, 6, 7] ((d = d)) [(11, .map (some m)), (12, str name)] (rfl) ?_
  refine rX 5 [6, 7] (do pure (.value (← Instr.lookup 121 (.map (some m)) (str name) false))) [1] [Lm] [bk d 123 #[.map (some m), v1, v2, v3, v4, v5]] (gv_lookup (enc := fileV) name (⟨[], 0⟩ : FileS) (by kernel_rfl) (by kernel_rfl) hm) ?_
  rintro _ _ ⟨rfl, rfl⟩
  refine rN 6 [7] (.cells #[str [], z6 0] 132 (0, 0)) p0 (fun b1 => ?_)
  refine rS [(7, .at 2)] [7] [] ((b1 = b1)) [(5, p0 b1)] [Lm, bk d 123 #[.map (some m), v1, v2, v3, v4, v5], bk b1 132 #[str ((getF fs name).s), n6 ((getF fs name).sure)]] (rfl) ?_
  refine rF ?_
  refine cQ [(1, .at 2), (4, .at 2)] ((b1 = b1) ∧ (b1 = b1) ∧ (inKind .i64 (((((getF fs name).s).length : Nat) : Int) - (((getF fs name).sure : Nat) : Int)))) [(4, z6 (((((getF fs name).s).length : Nat) : Int) - (((getF fs name).sure : Nat) : Int)))] (⟨rfl, rfl, inK_i64 (by omega)⟩) ?_
  refine cT [1, 0] [bk d 123 #[.map (some m), v1, v2, v3, v4, v5], Lm] ?_
  refine cd_ret (bot_ret (rv [z6 (((((getF fs name).s).length : Nat) : Int) - (((getF fs name).sure : Nat) : Int))] (z6 (((((getF fs name).s).length : Nat) : Int) - (((getF fs name).sure : Nat) : Int))) ?_))
  refine ⟨((((getF fs name).s).length : Nat) : Int) - (((getF fs name).sure : Nat) : Int), ?_, ?_, rfl⟩
  all_goals first | with_reducible rfl | (skip; done) | with_reducible assumption | omega | rfl | (simp_all; done) | (simp_all; omega)

set_option maxRecDepth 100000 in
theorem crash_one (C : Ctx) (d : Nat) (m : Nat) (nm : List UInt8) (f : FileS) (room : Nat) (st : Nat) (fu : Int) (fa : Int) (dn : Bool) (bf : Nat) (keep : Int) (at_ : Int) (turn : Nat) (Lm : Blks) (hm : MapL fileV m [(nm, f)] Lm) (hfl : Ok (f.s.length ≤ 1073741824)) (hsu : Ok (f.sure ≤ f.s.length)) (ht : Ok (turn < 256)) :
    FnT Tryz.prog C 24 #[p0 d, sl bf 1 1] [bk d 123 #[.map (some m), n6 room, n6 st, z6 fu, z6 fa, .bool dn], Lm, bk bf 37 #[z6 keep, z6 at_, u1 turn]] (fun rv_ rL_ => ∃ fs1 : Files, ∃ L1 : Blks, (MapL fileV m fs1 L1) ∧ (fs1 = [(nm, fallF f keep at_ turn)]) ∧ rv_ = .tuple #[] ∧ rL_ = [bk d 123 #[.map (some m), n6 room, n6 st, z6 (-1), z6 (-1), .bool false], L1, bk bf 37 #[z6 keep, z6 at_, u1 turn]]) := by
  replace hfl := hfl.h
  replace hsu := hsu.h
  replace ht := ht.h
  refine fE 54 Tryz.func24 rfl ?_
  refine cd_seq ?_
  refine cQ [] (True) [(0, p0 d), (1, sl bf 1 1), (9, .bool false)] (trivial) ?_
  refine cNo ?_
  refine cd_skip (then_n ?_)
  refine cQ [] (True) [(0, p0 d), (1, sl bf 1 1), (4, z6 0)] (trivial) ?_
  refine cd_seq ?_
  refine cd_rg ?_
  refine rQ [] [0] [1, 2, 3] (True) [(0, p0 d), (1, sl bf 1 1), (4, z6 0), (10, p0 d)] (trivial) ?_
  refine rC 1 [2, 3] [0, 0] [bk bf 37 #[z6 keep, z6 at_, u1 turn]] (list_any C d m [(nm, f)] room st fu fa dn Lm hm ⟨by first | ((simp; done); done) | ((simp only [getF, getA_one, Option.getD_some]; omega); done) | exact Ok.h {}⟩) ?_
  rintro _ _ ⟨ks1, a1, cap1, L1_1, h1, hf1, rfl, rfl⟩
  refine rQ [] [2, 3] [] (True) [(0, p0 d), (1, sl bf 1 1), (4, z6 0), (11, .slice a1 ks1.length cap1), (12, n6 ks1.length), (13, z6 0)] (trivial) ?_
  refine rF ?_
  refine cd_block ?_
  obtain rfl := List.perm_singleton.1 hf1.1
  refine lp (fun x : Nat × Nat × Files × Blks => [(0, p0 d), (1, sl bf 1 1), (4, n6 x.2.1), (11, .slice a1 ([nm].length) cap1), (12, n6 ([nm].length)), (13, n6 x.1)]) (fun x : Nat × Nat × Files × Blks => [L1_1, bk d 123 #[.map (some m), n6 room, n6 st, z6 fu, z6 fa, .bool dn], x.2.2.2, bk bf 37 #[z6 keep, z6 at_, u1 turn]]) (fun x : Nat × Nat × Files × Blks => ((x.1 = 0 ∧ x.2.1 = 0 ∧ x.2.2.1 = [(nm, f)]) ∨ (x.1 = 1 ∧ x.2.2.1 = [(nm, fallF f keep at_ turn)])) ∧ MapL fileV m x.2.2.1 x.2.2.2) (fun x : Nat × Nat × Files × Blks => 1 - x.1) ((0, 0, [(nm, f)], Lm)) (show ((0 = 0 ∧ 0 = 0 ∧ [(nm, f)] = [(nm, f)]) ∨ (0 = 1 ∧ [(nm, f)] = [(nm, fallF f keep at_ turn)])) ∧ MapL fileV m [(nm, f)] Lm from ⟨.inl ⟨rfl, rfl, rfl⟩, hm⟩) ?_
  rintro ⟨i, k, fs2, Lm2⟩ hI
  replace hI : ((i = 0 ∧ k = 0 ∧ fs2 = [(nm, f)]) ∨ (i = 1 ∧ fs2 = [(nm, fallF f keep at_ turn)])) ∧ MapL fileV m fs2 Lm2 := hI
  obtain ⟨hI, hm2⟩ := hI
  refine cQ [] (True) [(0, p0 d), (1, sl bf 1 1), (4, n6 k), (11, .slice a1 ([nm].length) cap1), (12, n6 ([nm].length)), (13, n6 i), (14, .bool (decide ((i : Int) < (([nm].length : Nat) : Int))))] (trivial) ?_
  refine cd_seq ?_
  refine cI (decide ((i : Int) < (([nm].length : Nat) : Int))) (fun h2 => ?_) (fun h2 => ?_)
  · have h2p : (i : Int) < (([nm].length : Nat) : Int) := by simpa using h2
    refine cd_skip (then_n ?_)
    refine cd_seq ?_
    refine cd_block ?_
    obtain ⟨b1, o1, ha1⟩ := ((Row.seesL (C := C) (l := [nm]) (enc := strv) (RowG.row h1) rfl rfl (fun _ => rfl) (by decide))).addr (by first | omega | (simp at *; omega))
    subst ha1
    obtain ⟨x1, hx1⟩ : ∃ x, [nm][i]? = some x := ⟨_, List.getElem?_eq_getElem (by first | omega | (simp at *; omega))⟩
    refine cQ [(1, .fact (str x1))] ((0 ≤ (i : Int) ∧ (i : Int) < ([nm].length : Int)) ∧ (HasLoad Tryz.prog C [L1_1, bk d 123 #[.map (some m), n6 room, n6 st, z6 fu, z6 fa, .bool dn], Lm2, bk bf 37 #[z6 keep, z6 at_, u1 turn]] 9 ⟨b1, o1 + i * 1, none⟩ (str x1))) [(0, p0 d), (1, sl bf 1 1), (4, n6 k), (6, str x1), (11, .slice (some ⟨b1, o1, none⟩) ([nm].length) cap1), (12, n6 ([nm].length)), (13, n6 i)] (⟨⟨by omega, by omega⟩, ((Row.seesL (C := C) (l := [nm]) (enc := strv) (RowG.row h1) rfl rfl (fun _ => rfl) (by decide))).elem (P := Tryz.prog) (by intro p hp; simp [hp]) 9 i hx1 (by kernel_rfl) (by kernel_rfl) (by first | exact .inl ⟨by kernel_rfl, rfl⟩ | exact .inr ⟨by kernel_rfl, rfl⟩)⟩) ?_
    refine cd_seq ?_
    obtain ⟨hi0, rfl⟩ := one_at hx1
    obtain ⟨rfl, rfl⟩ : 0 = k ∧ [(nm, f)] = fs2 := by rcases hI with ⟨_, h, h2⟩ | ⟨h, _⟩; exact ⟨h.symm, h2.symm⟩; exact absurd h (by omega)
    refine cd_rg ?_
    refine rQ [] [0, 1] [2, 3] (True) [(0, p0 d), (1, sl bf 1 1), (4, z6 0), (6, str nm), (11, .slice (some ⟨b1, o1, none⟩) ([nm].length) cap1), (12, n6 ([nm].length)), (13, n6 i), (17, p0 d), (18, str nm)] (trivial) ?_
    refine rC 2 [3] [1, 1] [L1_1, bk bf 37 #[z6 keep, z6 at_, u1 turn]] (loose_any C d m [(nm, f)] (n6 room) (n6 st) (z6 fu) (z6 fa) (.bool dn) nm Lm2 hm2 ⟨by first | ((simp; done); done) | ((simp only [getF, getA_one, Option.getD_some]; omega); done) | exact Ok.h {}⟩ ⟨by first | ((simp; done); done) | ((simp only [getF, getA_one, Option.getD_some]; omega); done) | exact Ok.h {}⟩) ?_
    rintro _ _ ⟨e1, hf2, rfl, rfl⟩
    refine rQ [] [3] [] (True) [(0, p0 d), (1, sl bf 1 1), (4, z6 0), (6, str nm), (11, .slice (some ⟨b1, o1, none⟩) ([nm].length) cap1), (12, n6 ([nm].length)), (13, n6 i), (20, .bool (e1 == 0))] (trivial) ?_
    refine rF ?_
    refine cI (e1 == 0) (fun h3 => ?_) (fun h3 => ?_)
    · have h3p : e1 = 0 := by simpa using h3
      refine cd_exit (then_exit (block_hit (then_n ?_)))
      refine cd_region ?_
      refine rQ [] [0, 1] [] ((inKind .i64 ((i : Int) + 1))) [(0, p0 d), (1, sl bf 1 1), (4, z6 0), (11, .slice (some ⟨b1, o1, none⟩) ([nm].length) cap1), (12, n6 ([nm].length)), (13, n6 (i + 1))] (inK_i64 (by omega)) ?_
      refine rT [2, 0, 0, 0] [L1_1, bk d 123 #[.map (some m), n6 room, n6 st, z6 fu, z6 fa, .bool dn], Lm2, bk bf 37 #[z6 keep, z6 at_, u1 turn]] ?_
      refine rg_nil ?_
      refine (lM ((i + 1, 0, [(nm, f)], Lm2)) (show (((i + 1) = 0 ∧ 0 = 0 ∧ [(nm, f)] = [(nm, f)]) ∨ ((i + 1) = 1 ∧ [(nm, f)] = [(nm, fallF f keep at_ turn)])) ∧ MapL fileV m [(nm, f)] Lm2 from ⟨.inr ⟨by omega, (by first | exact crash_put nm f keep at_ turn | (rw [fall_same f keep at_ turn (by have := hf2; simp only [getF, getA_one, Option.getD_some] at this; omega)]))⟩, hm2⟩) (show (1 - (i + 1)) < (1 - i) by first | omega | (simp; omega)))
    · have h3p : ¬ (e1 = 0) := by simpa using h3
      refine cd_skip (then_n ?_)
      refine cd_rg ?_
      refine rQ [] [] [0] (True) [(0, p0 d), (1, sl bf 1 1), (4, z6 0), (6, str nm), (11, .slice (some ⟨b1, o1, none⟩) ([nm].length) cap1), (12, n6 ([nm].length)), (13, n6 i)] (trivial) ?_
      refine rN 0 [] (.cells #[z6 0, z6 0, .int .u8 0] 37 (0, 0)) p0 (fun b2 => ?_)
      refine rD [(0, p0 d), (1, sl bf 1 1), (4, z6 0), (6, str nm), (7, p0 b2), (11, .slice (some ⟨b1, o1, none⟩) ([nm].length) cap1), (12, n6 ([nm].length)), (13, n6 i)] ?_
      refine cd_seq ?_
      refine cQ [] (True) [(0, p0 d), (1, sl bf 1 1), (4, z6 0), (6, str nm), (7, p0 b2), (11, .slice (some ⟨b1, o1, none⟩) ([nm].length) cap1), (12, n6 ([nm].length)), (13, n6 i), (24, .bool true)] (trivial) ?_
      refine cYes ?_
      refine cS0 [(3, .at 3), (4, .at 4)] ((0 ≤ (0 : Int) ∧ (0 : Int) < (1 : Int)) ∧ (bf = bf) ∧ (b2 = b2)) [(0, p0 d), (1, sl bf 1 1), (4, z6 0), (6, str nm), (7, p0 b2), (11, .slice (some ⟨b1, o1, none⟩) ([nm].length) cap1), (12, n6 ([nm].length)), (13, n6 i)] [bk d 123 #[.map (some m), n6 room, n6 st, z6 fu, z6 fa, .bool dn], Lm2, L1_1, bk bf 37 #[z6 keep, z6 at_, u1 turn], bk b2 37 #[z6 keep, z6 at_, u1 turn]] (⟨⟨by omega, by omega⟩, rfl, rfl⟩) ?_
      refine (then_n ?_)
      refine cQ [] ((inKind .i64 ((0 : Int) + (1 : Int)))) [(0, p0 d), (1, sl bf 1 1), (4, z6 1), (6, str nm), (7, p0 b2), (11, .slice (some ⟨b1, o1, none⟩) ([nm].length) cap1), (12, n6 ([nm].length)), (13, n6 i)] (inK_i64 (by omega)) ?_
      refine dr0 [bk d 123 #[.map (some m), n6 room, n6 st, z6 fu, z6 fa, .bool dn], L1_1, bk bf 37 #[z6 keep, z6 at_, u1 turn], bk b2 37 #[z6 keep, z6 at_, u1 turn]] [Lm2] [1] 14 ?_
      refine aS [(11, .at 3), (3, .at 0), (8, .at 0)] [0, 4, 5, 9, 11, 1, 6, 2, 7, 3, 8] ((b2 = b2) ∧ (d = d) ∧ (d = d)) [(0, p0 d), (1, sl bf 1 1), (4, z6 1), (11, .slice (some ⟨b1, o1, none⟩) ([nm].length) cap1), (12, n6 ([nm].length)), (13, n6 i), (34, .map (some m)), (35, str nm), (39, .map (some m)), (40, str nm), (42, .agg #[z6 keep, z6 at_, u1 turn])] (bm 14 3071) 3 (⟨rfl, rfl, rfl⟩) ?_
      refine aI (i := 10) ?_
      refine xX (do pure (.value (← Instr.lookup 121 (.map (some m)) (str nm) false))) [0] [Lm2] [] [0, 1, 4, 11, 12, 13, 34, 35, 41, 42] (bm 14 4095) (gv_lookup (enc := fileV) nm (⟨[], 0⟩ : FileS) (by kernel_rfl) (by kernel_rfl) hm2) ?_
      rintro _ _ ⟨rfl, rfl⟩
      refine aI (i := 12) ?_
      refine xC [] [Lm2] [0, 1, 4, 11, 12, 13, 34, 35, 43] (bm 14 8191) (fall_any C ((getF [(nm, f)] nm).s) ((getF [(nm, f)] nm).sure) keep at_ turn ⟨by first | ((simp; done); done) | ((simp only [getF, getA_one, Option.getD_some]; omega); done) | exact Ok.h {}⟩ ⟨by first | ((simp; done); done) | ((simp only [getF, getA_one, Option.getD_some]; omega); done) | exact Ok.h {}⟩ ⟨by first | ((simp; done); done) | ((simp only [getF, getA_one, Option.getD_some]; omega); done) | exact Ok.h {}⟩) ?_
      rintro _ _ ⟨rfl, rfl⟩
      refine aI (i := 13) ?_
      refine xX (do Instr.mapUpdate 121 (.map (some m)) (str nm) (.agg #[str ((fallF ⟨((getF [(nm, f)] nm).s), ((getF [(nm, f)] nm).sure)⟩ keep at_ turn).s), n6 ((fallF ⟨((getF [(nm, f)] nm).s), ((getF [(nm, f)] nm).sure)⟩ keep at_ turn).sure)]); pure .skip) [0] [Lm2] [] [0, 1, 4, 11, 12, 13] (bm 14 16383) (gv_put (enc := fileV) nm (⟨(fallF ⟨((getF [(nm, f)] nm).s), ((getF [(nm, f)] nm).sure)⟩ keep at_ turn).s, (fallF ⟨((getF [(nm, f)] nm).s), ((getF [(nm, f)] nm).sure)⟩ keep at_ turn).sure⟩ : FileS) (by kernel_rfl) hm2) ?_
      rintro _ _ ⟨rfl, L1, rfl, h4⟩
      refine aK [0, 0, 0, 0, 0] [(0, p0 d), (1, sl bf 1 1), (4, z6 1), (11, .slice (some ⟨b1, o1, none⟩) ([nm].length) cap1), (12, n6 ([nm].length)), (13, n6 i)] [bk d 123 #[.map (some m), n6 room, n6 st, z6 fu, z6 fa, .bool dn], L1_1, bk bf 37 #[z6 keep, z6 at_, u1 turn], bk b2 37 #[z6 keep, z6 at_, u1 turn], L1] ?_
      refine (block_n (then_n ?_))
      refine cd_region ?_
      refine rQ [] [0, 1] [] ((inKind .i64 ((i : Int) + 1))) [(0, p0 d), (1, sl bf 1 1), (4, z6 1), (11, .slice (some ⟨b1, o1, none⟩) ([nm].length) cap1), (12, n6 ([nm].length)), (13, n6 (i + 1))] (inK_i64 (by omega)) ?_
      refine rT [1, 0, 2, 0] [L1_1, bk d 123 #[.map (some m), n6 room, n6 st, z6 fu, z6 fa, .bool dn], L1, bk bf 37 #[z6 keep, z6 at_, u1 turn]] ?_
      refine rg_nil ?_
      refine (lM ((i + 1, 1, putA [(nm, f)] nm (⟨(fallF ⟨((getF [(nm, f)] nm).s), ((getF [(nm, f)] nm).sure)⟩ keep at_ turn).s, (fallF ⟨((getF [(nm, f)] nm).s), ((getF [(nm, f)] nm).sure)⟩ keep at_ turn).sure⟩ : FileS), L1)) (show (((i + 1) = 0 ∧ 1 = 0 ∧ (putA [(nm, f)] nm (⟨(fallF ⟨((getF [(nm, f)] nm).s), ((getF [(nm, f)] nm).sure)⟩ keep at_ turn).s, (fallF ⟨((getF [(nm, f)] nm).s), ((getF [(nm, f)] nm).sure)⟩ keep at_ turn).sure⟩ : FileS)) = [(nm, f)]) ∨ ((i + 1) = 1 ∧ (putA [(nm, f)] nm (⟨(fallF ⟨((getF [(nm, f)] nm).s), ((getF [(nm, f)] nm).sure)⟩ keep at_ turn).s, (fallF ⟨((getF [(nm, f)] nm).s), ((getF [(nm, f)] nm).sure)⟩ keep at_ turn).sure⟩ : FileS)) = [(nm, fallF f keep at_ turn)])) ∧ MapL fileV m (putA [(nm, f)] nm (⟨(fallF ⟨((getF [(nm, f)] nm).s), ((getF [(nm, f)] nm).sure)⟩ keep at_ turn).s, (fallF ⟨((getF [(nm, f)] nm).s), ((getF [(nm, f)] nm).sure)⟩ keep at_ turn).sure⟩ : FileS)) L1 from ⟨.inr ⟨by omega, (by first | exact crash_put nm f keep at_ turn | (rw [fall_same f keep at_ turn (by have := hf2; simp only [getF, getA_one, Option.getD_some] at this; omega)]))⟩, h4⟩) (show (1 - (i + 1)) < (1 - i) by first | omega | (simp; omega)))
  · have h2p : ¬ ((i : Int) < (([nm].length : Nat) : Int)) := by simpa using h2
    refine cd_exit (then_exit (then_exit (block_hit (then_n ?_))))
    refine cd_region ?_
    refine rS [(5, .at 1), (8, .at 1), (11, .at 1)] [0, 1, 2, 3, 4, 5, 6, 7, 8, 9, 10, 11] [] ((d = d) ∧ (d = d) ∧ (d = d)) [] [L1_1, bk d 123 #[.map (some m), n6 room, n6 st, z6 (-1), z6 (-1), .bool false], Lm2, bk bf 37 #[z6 keep, z6 at_, u1 turn]] (⟨rfl, rfl, rfl⟩) ?_
    refine rT [1, 1, 1] [bk d 123 #[.map (some m), n6 room, n6 st, z6 (-1), z6 (-1), .bool false], Lm2, bk bf 37 #[z6 keep, z6 at_, u1 turn]] ?_
    refine rg_nil ?_
    refine (bot_n (rv [] (.tuple #[]) ?_))
    refine ⟨fs2, Lm2, hm2, ?_, ?_, rfl⟩
    all_goals first | with_reducible rfl | ((rcases hI with ⟨h, _, _⟩ | ⟨_, h⟩; (exact absurd h (by simp only [List.length_cons, List.length_nil] at *; omega)); exact h); done) | with_reducible assumption | omega | rfl | (simp_all; done) | (simp_all; omega)
end Go.Proofs
