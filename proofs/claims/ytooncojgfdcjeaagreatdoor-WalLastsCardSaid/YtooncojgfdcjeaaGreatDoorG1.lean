/- Walks: iterators. No condition. -/
import Derived.Test.YtooncojgfdcjeaaGreatDoorSp2
import Derived.Test.YtooncojgfdcjeaaGreatDoorF1
import Derived.Test.YtooncojgfdcjeaaGreatDoorProg
namespace Go.Proofs
open Go Go.Sep
set_option maxRecDepth 100000 in
theorem records_fn (C : Ctx) (log : List UInt8) :
    FnT Tryz.prog C 49 #[str log] [] (fun rv_ rL_ => ∃ b : Nat, rv_ = .func (.func 93) #[] #[p0 b] ∧ rL_ = [bk b 9 #[str log]]) := by
  refine fE 4 Tryz.func49 rfl ?_
  refine cd_rg ?_
  refine rQ [] [] [0, 1] (True) [(0, str log)] (trivial) ?_
  refine rN 0 [1] (.cells #[str log] 9 (0, 0)) p0 (fun b1 => ?_)
  refine rQ [] [1] [] (True) [(1, p0 b1)] (trivial) ?_
  refine rF ?_
  refine cQ [] (True) [(2, .func (.func 93) #[] #[p0 b1])] (trivial) ?_
  refine cd_ret (bot_ret (rv [.func (.func 93) #[] #[p0 b1]] (.func (.func 93) #[] #[p0 b1]) ?_))
  refine ⟨b1, ?_, rfl⟩
  all_goals first | with_reducible rfl | (skip; done) | with_reducible assumption | omega | rfl | (simp_all; done) | (simp_all; omega)

set_option maxRecDepth 100000 in
theorem records_raw (C : Ctx) (log : List UInt8) (b : Nat) (g : Fn) (c1 : Array Value) (c2 : Array Value) (I : List (List UInt8 × Nat) → Blks → Prop) (S : Blks → Prop) (Y : Blks) (hY : I [] Y) (hl : Ok (log.length ≤ 1073741824)) (hy : Ok (∀ pre x ar X Y, Tells (recs log) pre x → RecEnc x ar X → I pre Y → ValT Tryz.prog C (.func g c1 c2) ar [Y, X] (fun v L => ∃ Y', L = [Y'] ∧ ((v = .bool true ∧ I (pre ++ [x]) Y') ∨ (v = .bool false ∧ S Y'))))) :
    FnT Tryz.prog C 93 #[.func g c1 c2, p0 b] [Y, bk b 9 #[str log]] (fun rv_ rL_ => ∃ Y1 : Blks, (I (recs log) Y1 ∨ S Y1) ∧ rv_ = .tuple #[] ∧ rL_ = [Y1, bk b 9 #[str log]]) := by
  replace hl := hl.h
  replace hy := hy.h
  refine fE 22 Tryz.func93 rfl ?_
  refine cQ [] (True) [(0, .func g c1 c2), (1, p0 b), (3, z6 0)] (trivial) ?_
  refine cd_block ?_
  refine lp (fun x : (List (List UInt8 × Nat)) × Nat × Blks => [(0, .func g c1 c2), (1, p0 b), (3, n6 x.2.1)]) (fun x : (List (List UInt8 × Nat)) × Nat × Blks => [x.2.2, bk b 9 #[str log]]) (fun x : (List (List UInt8 × Nat)) × Nat × Blks => I x.1 x.2.2 ∧ x.1 ++ recsFrom log x.2.1 = recs log ∧ x.2.1 ≤ log.length) (fun x : (List (List UInt8 × Nat)) × Nat × Blks => log.length - x.2.1) (([], 0, Y)) (show I [] Y ∧ [] ++ recsFrom log 0 = recs log ∧ 0 ≤ log.length from ⟨hY, recsFrom_start log, by omega⟩) ?_
  rintro ⟨pre, q, Y2⟩ hI
  replace hI : I pre Y2 ∧ pre ++ recsFrom log q = recs log ∧ q ≤ log.length := hI
  obtain ⟨hY2, hI, hq⟩ := hI
  refine cd_block ?_
  refine cd_rg ?_
  refine rQ [(0, .at 1)] [0, 1] [2, 3, 4, 5, 6, 7] ((b = b)) [(0, .func g c1 c2), (1, p0 b), (7, str log), (8, n6 q)] (rfl) ?_
  refine rC 2 [3, 4, 5, 6, 7] [] [Y2, bk b 9 #[str log]] (record_any C log q {} {}) ?_
  rintro _ _ ⟨u1, z1, hf1, hf2, rfl, rfl⟩
  refine rQ [] [3, 4, 5, 6, 7] [] (True) [(0, .func g c1 c2), (1, p0 b), (4, str u1), (5, n6 z1)] (trivial) ?_
  refine rF ?_
  refine cd_seq ?_
  refine cd_rg ?_
  refine rQ [] [0, 1, 2] [3, 4, 5, 6, 7, 8] (True) [(0, .func g c1 c2), (1, p0 b), (4, str u1), (5, n6 z1), (14, .bool ((z1 : Int) == 0))] (trivial) ?_
  refine rI 14 ((z1 : Int) == 0) (fun g1 => ?_) (fun g1 => ?_)
  · have g1p : (z1 : Int) = 0 := by simpa using g1
    refine rQ [] [3, 4, 5, 6, 7, 8] [] (True) [(0, .func g c1 c2), (1, p0 b), (5, n6 z1), (20, .bool true)] (trivial) ?_
    refine rF ?_
    refine cYes ?_
    refine cd_ret (then_ret (block_ret (then_ret (block_ret (bot_ret (rv [] (.tuple #[]) ?_))))))
    refine ⟨Y2, ?_, ?_, rfl⟩
    all_goals first | with_reducible rfl | (exact .inl (recs_done hI (by assumption) (by omega) ▸ hY2); done) | (exact .inr (by assumption); done) | with_reducible assumption | omega | rfl | (simp_all; done) | (simp_all; omega)
  · have g1p : ¬ ((z1 : Int) = 0) := by simpa using g1
    refine rQ [] [3, 4, 5] [6, 7, 8] (True) [(0, .func g c1 c2), (1, p0 b), (5, n6 z1), (14, .bool false), (15, .func g c1 c2), (16, str u1), (17, n6 z1)] (trivial) ?_
    refine rg_more ?_
    refine rV 6 [7, 8] [0, 1] [bk b 9 #[str log]] (hy pre ((u1, z1) : List UInt8 × Nat) _ _ Y2 (recs_tell (by omega) hI (by assumption) (by omega)) ⟨rfl, rfl⟩ hY2) ?_
    rintro _ _ ⟨Y1, rfl, ⟨rfl, hY1⟩ | ⟨rfl, hY1⟩⟩
    ·
      refine rQ [] [7, 8] [] (True) [(0, .func g c1 c2), (1, p0 b), (5, n6 z1), (20, .bool false)] (trivial) ?_
      refine rF ?_
      refine cNo ?_
      refine cd_skip (then_n ?_)
      refine cQ0 [] (True) [(0, .func g c1 c2), (1, p0 b), (3, n6 z1)] (trivial) ?_
      refine (block_n (lM ((pre ++ [((u1, z1) : List UInt8 × Nat)], z1, Y1)) (show I (pre ++ [((u1, z1) : List UInt8 × Nat)]) Y1 ∧ (pre ++ [((u1, z1) : List UInt8 × Nat)]) ++ recsFrom log z1 = recs log ∧ z1 ≤ log.length from ⟨hY1, recs_next (by omega) hI (by assumption) (by omega), by omega⟩) (show (log.length - z1) < (log.length - q) by have := record_to (by assumption : recordF log q = _) (by omega); omega)))
    ·
      refine rQ [] [7, 8] [] (True) [(0, .func g c1 c2), (1, p0 b), (5, n6 z1), (20, .bool true)] (trivial) ?_
      refine rF ?_
      refine cYes ?_
      refine cd_ret (then_ret (block_ret (then_ret (block_ret (bot_ret (rv [] (.tuple #[]) ?_))))))
      refine ⟨Y1, ?_, ?_, rfl⟩
      all_goals first | with_reducible rfl | (exact .inl (recs_done hI (by assumption) (by omega) ▸ hY2); done) | (exact .inr (by assumption); done) | with_reducible assumption | omega | rfl | (simp_all; done) | (simp_all; omega)

theorem records_iter (C : Ctx) (log : List UInt8) (b : Nat) (hl : log.length ≤ 1073741824) :
    IterT Tryz.prog C 93 #[] #[.pointer (some ⟨b, 0, none⟩)] [[(b, .cells #[str log] 9 (0, 0))]] RecEnc (Tells (recs log)) (fun pre => pre = recs log) := by
  intro g c1 c2 I S hy Y hY
  refine FnT.mono (records_raw C log b g c1 c2 I S Y hY ⟨hl⟩ ⟨hy⟩) ?_
  rintro v L ⟨Y1, h1, rfl, rfl⟩
  exact ⟨rfl, Y1, rfl, h1.imp (fun h => ⟨_, rfl, h⟩) id⟩

set_option maxRecDepth 100000 in
theorem walRead_fn (C : Ctx) (s : List UInt8) :
    FnT Tryz.prog C 11 #[str s] [] (fun rv_ rL_ => ∃ b : Nat, rv_ = .func (.func 48) #[] #[p0 b] ∧ rL_ = [bk b 9 #[str s]]) := by
  refine fE 4 Tryz.func11 rfl ?_
  refine cd_rg ?_
  refine rQ [] [] [0, 1] (True) [(0, str s)] (trivial) ?_
  refine rN 0 [1] (.cells #[str s] 9 (0, 0)) p0 (fun b1 => ?_)
  refine rQ [] [1] [] (True) [(1, p0 b1)] (trivial) ?_
  refine rF ?_
  refine cQ [] (True) [(2, .func (.func 48) #[] #[p0 b1])] (trivial) ?_
  refine cd_ret (bot_ret (rv [.func (.func 48) #[] #[p0 b1]] (.func (.func 48) #[] #[p0 b1]) ?_))
  refine ⟨b1, ?_, rfl⟩
  all_goals first | with_reducible rfl | (skip; done) | with_reducible assumption | omega | rfl | (simp_all; done) | (simp_all; omega)

set_option maxRecDepth 100000 in
theorem walRead_raw (C : Ctx) (s : List UInt8) (b : Nat) (g : Fn) (c1 : Array Value) (c2 : Array Value) (I : List Bat → Blks → Prop) (S : Blks → Prop) (Y : Blks) (hY : I [] Y) (hl : Ok (s.length ≤ 1073741824)) (hy : Ok (∀ pre x ar X Y, Tells (batches s) pre x → BatEnc x ar X → I pre Y → ValT Tryz.prog C (.func g c1 c2) ar [Y, X] (fun v L => ∃ Y', L = [Y'] ∧ ((v = .bool true ∧ I (pre ++ [x]) Y') ∨ (v = .bool false ∧ S Y'))))) :
    FnT Tryz.prog C 48 #[.func g c1 c2, p0 b] [Y, bk b 9 #[str s]] (fun rv_ rL_ => ∃ Y1 : Blks, (I (batches s) Y1 ∨ S Y1) ∧ rv_ = .tuple #[] ∧ rL_ = [Y1, bk b 9 #[str s]]) := by
  replace hl := hl.h
  replace hy := hy.h
  refine fE 32 Tryz.func48 rfl ?_
  refine cd_rg ?_
  refine rQ [] [] [0] (True) [(0, .func g c1 c2), (1, p0 b)] (trivial) ?_
  refine rN 0 [] (.cells #[.func g c1 c2] 113 (0, 0)) p0 (fun b1 => ?_)
  refine rD [(1, p0 b), (2, p0 b1)] ?_
  refine cd_rg ?_
  refine rQ [] [] [0, 1] (True) [(1, p0 b), (2, p0 b1)] (trivial) ?_
  refine rN 0 [1] (.cells #[.int .u64 0] 29 (0, 0)) p0 (fun b2 => ?_)
  refine rS [(1, .at 3)] [1] [] ((b2 = b2)) [(1, p0 b), (2, p0 b1), (3, p0 b2)] [Y, bk b 9 #[str s], bk b1 113 #[.func g c1 c2], bk b2 29 #[.int .u64 0]] (rfl) ?_
  refine rF ?_
  refine cd_rg ?_
  refine rQ [(0, .at 1)] [0] [1] ((b = b)) [(2, p0 b1), (3, p0 b2), (7, str s)] (rfl) ?_
  refine rC 1 [] [] [Y, bk b 9 #[str s], bk b1 113 #[.func g c1 c2], bk b2 29 #[.int .u64 0]] (records_fn C s) ?_
  rintro _ _ ⟨b3, rfl, rfl⟩
  refine rD [(2, p0 b1), (3, p0 b2), (8, .func (.func 93) #[] #[p0 b3])] ?_
  refine cd_block ?_
  refine cd_rangeFunc (α := List UInt8 × Nat) (fun (pre_ : List (List UInt8 × Nat)) L => ∃ n : Nat, ∃ out : List Bat, ∃ Y2 : Blks, L = [bk b1 113 #[.func g c1 c2], bk b2 29 #[u6 n], Y2] ∧ (ReadInv s pre_ n out ∧ I out Y2)) (fun (e : Exit) (L : List Blks) => (e = .ret ∧ ∃ n : Nat, ∃ Y2 : Blks, L = [bk b1 113 #[.func g c1 c2], bk b2 29 #[u6 n], Y2] ∧ (I (batches s) Y2 ∨ S Y2))) [3, 3, 1] [0] [bk b1 113 #[.func g c1 c2], bk b2 29 #[.int .u64 0], Y] [bk b 9 #[str s]] [bk b3 9 #[str s], bk b 9 #[str s]] (records_iter C s b3 (by omega)) (by kernel_rfl) (by kernel_rfl) (by kernel_rfl) (by kernel_rfl) (by kernel_rfl) (⟨0, [], Y, rfl, show ReadInv s [] 0 [] ∧ I [] Y from ⟨ReadInv.start s, hY⟩⟩) ?_ ?_ ?_
  · rintro l_ pre x ar X L hN ⟨rfl, rfl⟩ ⟨n, out, Y2, rfl, hI⟩
    refine ⟨rfl, ?_⟩
    refine cE [(2, p0 b1), (3, p0 b2), (9, str x.1)] [[], bk b1 113 #[.func g c1 c2], bk b2 29 #[u6 n], Y2] ?_
    have hxl := recs_len hN.mem
    obtain ⟨hI, hY2⟩ := hI
    have hn := hI.1
    refine cQ0 [] (True) [(2, p0 b1), (3, p0 b2), (4, str x.1)] (trivial) ?_
    refine (body_n ?_)
    refine cd_block ?_
    refine cd_rg ?_
    refine rQ [] [0] [1, 2, 3, 4, 5, 6, 7] (True) [(2, p0 b1), (3, p0 b2), (12, str x.1)] (trivial) ?_
    refine rC 1 [2, 3, 4, 5, 6, 7] [] [[], bk b1 113 #[.func g c1 c2], bk b2 29 #[u6 n], Y2] (parse_any C x.1 {}) ?_
    rintro _ _ ⟨x1, seq1, l1, a1, cap1, L1_1, h1, hf1, hf2, hf3, hf4, hf5, rfl, rfl⟩
    refine rQ [] [2, 3, 4] [5, 6, 7] (True) [(2, p0 b1), (3, p0 b2), (14, .agg #[u6 seq1, .slice a1 l1.length cap1]), (15, n6 x1)] (trivial) ?_
    refine rN 5 [6, 7] (.cells #[.int .u64 0, .slice none 0 0] 32 (0, 0)) p0 (fun b4 => ?_)
    refine rS [(6, .at 5)] [6, 7] [] ((b4 = b4)) [(2, p0 b1), (3, p0 b2), (5, p0 b4), (6, n6 x1)] [L1_1, [], bk b1 113 #[.func g c1 c2], bk b2 29 #[u6 n], Y2, bk b4 32 #[u6 seq1, .slice a1 l1.length cap1]] (rfl) ?_
    refine rF ?_
    refine cd_seq ?_
    refine cd_rg ?_
    refine rQ [] [0, 1, 2] [3, 4, 5, 6, 7, 8, 9, 10, 11, 12, 13] (True) [(2, p0 b1), (3, p0 b2), (5, p0 b4), (18, .bool ((x1 : Int) != 0))] (trivial) ?_
    refine rg_join2 [8, 9, 10, 11, 12, 13] [(2, p0 b1), (3, p0 b2), (5, p0 b4), (23, .bool (((x1 : Int) != 0) || (decide ((seq1 : Int) < (n : Int)))))] [L1_1, [], bk b1 113 #[.func g c1 c2], bk b2 29 #[u6 n], Y2, bk b4 32 #[u6 seq1, .slice a1 l1.length cap1]] (fun hj => ?_) ?_
    · refine rI 18 ((x1 : Int) != 0) (fun g1 => ?_) (fun g1 => ?_)
      · have g1p : (x1 : Int) ≠ 0 := by simpa using g1
        refine rQ [] [3, 4, 5, 6, 7] [8, 9, 10, 11, 12, 13] (True) [(2, p0 b1), (3, p0 b2), (5, p0 b4), (23, .bool true)] (trivial) ?_
        refine rP 23 (.bool true) (.bool (((x1 : Int) != 0) || (decide ((seq1 : Int) < (n : Int))))) (by first | (rw [show ((x1 : Int) != 0) = true from g1]; done) | (rw [show ((x1 : Int) != 0) = true from g1]; rfl)) ?_
        exact rM hj
      · have g1p : ¬ ((x1 : Int) ≠ 0) := by simpa using g1
        refine rQ [(4, .at 5), (5, .at 3)] [3, 4, 5, 6, 7] [8, 9, 10, 11, 12, 13] ((b4 = b4) ∧ (b2 = b2)) [(2, p0 b1), (3, p0 b2), (5, p0 b4), (23, .bool (decide ((seq1 : Int) < (n : Int))))] (⟨rfl, rfl⟩) ?_
        refine rP 23 (.bool (decide ((seq1 : Int) < (n : Int)))) (.bool (((x1 : Int) != 0) || (decide ((seq1 : Int) < (n : Int))))) (by first | (rw [show ((x1 : Int) != 0) = false from g1]; done) | (rw [show ((x1 : Int) != 0) = false from g1]; rfl)) ?_
        exact rM hj
    refine rQ [] [8] [9, 10, 11, 12, 13] (True) [(2, p0 b1), (3, p0 b2), (5, p0 b4), (24, .bool (((x1 : Int) != 0) || (decide ((seq1 : Int) < (n : Int)))))] (trivial) ?_
    refine rI 24 (((x1 : Int) != 0) || (decide ((seq1 : Int) < (n : Int)))) (fun g2 => ?_) (fun g2 => ?_)
    · have g2p : ((x1 : Int) ≠ 0) ∨ ((seq1 : Int) < (n : Int)) := by simpa using g2
      refine rQ [] [9, 10, 11, 12, 13] [] (True) [(3, p0 b2), (5, p0 b4), (29, .bool true)] (trivial) ?_
      refine rF ?_
      refine cYes ?_
      refine cT [2, 2, 2] [bk b1 113 #[.func g c1 c2], bk b2 29 #[u6 n], Y2] ?_
      refine cd_ret (then_ret (block_ret (round_ret ⟨rfl, n, Y2, rfl, show I (batches s) Y2 ∨ S Y2 from hI.stop hN (by assumption) (by first | omega | (simp_all; done) | (simp_all; omega)) ▸ .inl hY2⟩)))
    · have g2p : ¬ (((x1 : Int) ≠ 0) ∨ ((seq1 : Int) < (n : Int))) := by simpa using g2
      refine rQ [(9, .at 2), (10, .at 5)] [9, 10] [11, 12, 13] ((b1 = b1) ∧ (b4 = b4)) [(3, p0 b2), (5, p0 b4), (24, .bool false), (25, .func g c1 c2), (26, .agg #[u6 seq1, .slice a1 l1.length cap1])] (⟨rfl, rfl⟩) ?_
      refine rV 11 [12, 13] [4, 0] [[], bk b1 113 #[.func g c1 c2], bk b2 29 #[u6 n], bk b4 32 #[u6 seq1, .slice a1 l1.length cap1]] (hy out ((seq1, l1) : Bat) _ _ Y2 (hI.tell hN (by assumption) (by first | omega | (simp_all; done) | (simp_all; omega))) ⟨_, _, rfl, h1⟩ hY2) ?_
      rintro _ _ ⟨Y1, rfl, ⟨rfl, hY1⟩ | ⟨rfl, hY1⟩⟩
      ·
        refine rQ [] [12, 13] [] (True) [(3, p0 b2), (5, p0 b4), (29, .bool false)] (trivial) ?_
        refine rF ?_
        refine cNo ?_
        refine cd_skip (then_n ?_)
        refine cd_region ?_
        refine rQ [(0, .at 4)] [0] [1, 2] ((b4 = b4)) [(3, p0 b2), (30, .agg #[u6 seq1, .slice a1 l1.length cap1])] (rfl) ?_
        refine rC 1 [2] [] [Y1, [], bk b1 113 #[.func g c1 c2], bk b2 29 #[u6 n], bk b4 32 #[u6 seq1, .slice a1 l1.length cap1]] (next_any C seq1 a1 l1.length cap1 {} {}) ?_
        rintro _ _ ⟨rfl, rfl⟩
        refine rS [(2, .at 3)] [2] [] ((b2 = b2)) [] [Y1, [], bk b1 113 #[.func g c1 c2], bk b2 29 #[u6 (seq1 + l1.length)], bk b4 32 #[u6 seq1, .slice a1 l1.length cap1]] (rfl) ?_
        refine rT [2, 2, 0] [bk b1 113 #[.func g c1 c2], bk b2 29 #[u6 (seq1 + l1.length)], Y1] ?_
        refine rg_nil ?_
        refine (block_n (round_n ⟨seq1 + l1.length, out ++ [((seq1, l1) : Bat)], Y1, rfl, show ReadInv s (pre ++ [x]) (seq1 + l1.length) (out ++ [((seq1, l1) : Bat)]) ∧ I (out ++ [((seq1, l1) : Bat)]) Y1 from ⟨hI.next hN (by assumption) (by first | omega | (simp_all; done) | (simp_all; omega)) (by omega) (by omega), hY1⟩⟩))
      ·
        refine rQ [] [12, 13] [] (True) [(3, p0 b2), (5, p0 b4), (29, .bool true)] (trivial) ?_
        refine rF ?_
        refine cYes ?_
        refine cT [2, 2, 0] [bk b1 113 #[.func g c1 c2], bk b2 29 #[u6 n], Y1] ?_
        refine cd_ret (then_ret (block_ret (round_ret ⟨rfl, n, Y1, rfl, show I (batches s) Y1 ∨ S Y1 from .inr hY1⟩)))
  · rintro r1 pre _ hZ ⟨n, out, Y2, rfl, hI⟩
    obtain ⟨hI, hY2⟩ := hI
    have hd := hI.done hZ
    show ∀ a, Agr _ _ _ a → _
    refine (block_n (bot_n (ret_mark 5 r1 (by kernel_rfl) (rvD [] (.tuple #[]) [2, 3] [Y2, bk b 9 #[str s]] ?_))))
    refine ⟨Y2, ?_, ?_, rfl⟩
    all_goals first | with_reducible rfl | (exact .inl (hd ▸ hY2); done) | (exact hI; done) | with_reducible assumption | omega | rfl | (simp_all; done) | (simp_all; omega)
  · rintro r1 e _ (⟨rfl, n, Y2, rfl, hI⟩)
    show ∀ a, Agr _ _ _ a → _
    refine (block_ret (bot_ret (ret_mark 5 r1 (by kernel_rfl) (rvD [] (.tuple #[]) [2, 3] [Y2, bk b 9 #[str s]] ?_))))
    refine ⟨Y2, ?_, ?_, rfl⟩
    all_goals first | with_reducible rfl | (exact .inl (hd ▸ hY2); done) | (exact hI; done) | with_reducible assumption | omega | rfl | (simp_all; done) | (simp_all; omega)

theorem walRead_iter (C : Ctx) (s : List UInt8) (b : Nat) (hl : s.length ≤ 1073741824) :
    IterT Tryz.prog C 48 #[] #[.pointer (some ⟨b, 0, none⟩)] [[(b, .cells #[str s] 9 (0, 0))]] BatEnc (Tells (batches s)) (fun pre => pre = batches s) := by
  intro g c1 c2 I S hy Y hY
  refine FnT.mono (walRead_raw C s b g c1 c2 I S Y hY ⟨hl⟩ ⟨hy⟩) ?_
  rintro v L ⟨Y1, h1, rfl, rfl⟩
  exact ⟨rfl, Y1, rfl, h1.imp (fun h => ⟨_, rfl, h⟩) id⟩

set_option maxRecDepth 100000 in
theorem appendSeq_any (C : Ctx) (f : Nat) (first : Array Value) (capt : Array Value) (N : List Bat → Bat → Prop) (Z : List Bat → Prop) (Li : Blks) (hgo : Ok (goes Tryz.prog f = true)) (hit : Ok (IterT Tryz.prog C f first capt [Li] BatEnc N Z)) (hcount : Ok (∀ pre x, N pre x → pre.length ≤ 1073741824)) :
    FnT Tryz.prog C 121 #[.slice none 0 0, .func (.func f) first capt] [Li] (fun rv_ rL_ => ∃ bs : List Bt, ∃ a : Option Addr, ∃ cap : Nat, ∃ L1 : Blks, ∃ LB1 : Blks, (Row 32 2 a bs.length cap (bs.flatMap btv) L1) ∧ (BtsIn C LB1 bs) ∧ (Z (bs.map Bt.bat)) ∧ rv_ = .slice a bs.length cap ∧ rL_ = [L1, LB1, Li]) := by
  replace hgo := hgo.h
  replace hit := hit.h
  replace hcount := hcount.h
  refine fE 13 Tryz.func121 rfl ?_
  refine cd_rg ?_
  refine rQ [] [] [0, 1] (True) [(0, .slice none 0 0), (1, .func (.func f) first capt)] (trivial) ?_
  refine rN 0 [1] (.cells #[.slice none 0 0] 25 (0, 0)) p0 (fun b1 => ?_)
  refine rQ [] [1] [] (True) [(1, .func (.func f) first capt), (2, p0 b1)] (trivial) ?_
  refine rF ?_
  refine cd_seq ?_
  refine cQ [] (True) [(2, p0 b1), (6, .func (.func f) first capt)] (trivial) ?_
  refine cd_block ?_
  refine cd_more ?_
  refine cd_more ?_
  refine cd_rangeFunc (α := Bat) (fun (pre_ : List Bat) L => ∃ bs : List Bt, ∃ a : Option Addr, ∃ cap : Nat, ∃ Lr : Blks, ∃ LB : Blks, L = [bk b1 25 #[.slice a bs.length cap], Lr, LB] ∧ (bs.map Bt.bat = pre_ ∧ Row 32 2 a bs.length cap (bs.flatMap btv) Lr ∧ BtsIn C LB bs)) (fun (e : Exit) (L : List Blks) => False) [1, 1, 1] [0] [bk b1 25 #[.slice none 0 0], [], []] [] [Li] (hit) (by kernel_rfl) (hgo) (by kernel_rfl) (by kernel_rfl) (by kernel_rfl) (⟨[], none, 0, [], [], rfl, show ([] : List Bt).map Bt.bat = [] ∧ Row 32 2 none ([] : List Bt).length 0 (([] : List Bt).flatMap btv) [] ∧ BtsIn C [] [] from ⟨rfl, Row.nil 32 2, BtsIn.nil C _⟩⟩) ?_ ?_ ?_
  · rintro l_ pre x ar X L hN ⟨a3, cap3, rfl, hX⟩ ⟨bs, a, cap, Lr, LB, rfl, hI⟩
    refine ⟨rfl, ?_⟩
    refine cE [(2, p0 b1), (7, .agg #[u6 x.1, .slice a3 x.2.length cap3])] [X, bk b1 25 #[.slice a bs.length cap], Lr, LB] ?_
    have hpl := hcount _ _ hN
    obtain ⟨hm, hR, hB⟩ := hI
    have hlen : bs.length = pre.length := by rw [← hm]; simp
    refine cd_region ?_
    refine rQ [] [] [0, 1] (True) [(2, p0 b1), (7, .agg #[u6 x.1, .slice a3 x.2.length cap3])] (trivial) ?_
    refine rN 0 [1] (.cells #[.int .u64 0, .slice none 0 0] 32 (0, 0)) p0 (fun b2 => ?_)
    refine rS [(1, .at 4)] [1] [] ((b2 = b2)) [(2, p0 b1), (5, p0 b2)] [X, bk b1 25 #[.slice a bs.length cap], Lr, LB, bk b2 32 #[u6 x.1, .slice a3 x.2.length cap3]] (rfl) ?_
    refine rg_nil ?_
    refine (body_n ?_)
    refine cd_block ?_
    refine cd_region ?_
    refine rQ [(0, .at 1), (1, .at 4)] [0, 1] [2, 3, 4] ((b1 = b1) ∧ (b2 = b2)) [(2, p0 b1), (8, .slice a bs.length cap), (9, .agg #[u6 x.1, .slice a3 x.2.length cap3])] (⟨rfl, rfl⟩) ?_
    refine rN 2 [3, 4] (.cells #[u6 x.1, .slice a3 x.2.length cap3] 32 (0, 0)) (fun b3 => sl b3 1 1) (fun b3 => ?_)
    refine rX 3 [4] (do pure (.value (← Builtin.append_ #[25, 25] 25 #[.slice a bs.length cap, sl b3 1 1]))) [2, 4] [Lr, bk b3 32 #[u6 x.1, .slice a3 x.2.length cap3]] [X, bk b1 25 #[.slice a bs.length cap], LB, bk b2 32 #[u6 x.1, .slice a3 x.2.length cap3]] (gv_push (bytes := 32) (l := bs) (enc := btv) (⟨x.1, x.2, a3, cap3⟩ : Bt) 25 (by kernel_rfl) hR rfl rfl (by kernel_rfl) (by omega) (by omega)) ?_
    rintro _ _ ⟨a1, cap1, L1, rfl, rfl, h1⟩
    refine rS [(4, .at 2)] [4] [] ((b1 = b1)) [] [L1, X, bk b1 25 #[.slice a1 ((bs ++ [(⟨x.1, x.2, a3, cap3⟩ : Bt)]).length) cap1], LB, bk b2 32 #[u6 x.1, .slice a3 x.2.length cap3]] (rfl) ?_
    refine rg_fuse [3, 1] LB X [L1, bk b1 25 #[.slice a1 ((bs ++ [(⟨x.1, x.2, a3, cap3⟩ : Bt)]).length) cap1], bk b2 32 #[u6 x.1, .slice a3 x.2.length cap3]] (by kernel_rfl) ?_
    refine rT [2, 1, 0] [bk b1 25 #[.slice a1 ((bs ++ [(⟨x.1, x.2, a3, cap3⟩ : Bt)]).length) cap1], L1, LB ++ X] ?_
    refine rg_nil ?_
    refine (block_n (round_n ⟨bs ++ [(⟨x.1, x.2, a3, cap3⟩ : Bt)], a1, cap1, L1, LB ++ X, rfl, show (bs ++ [(⟨x.1, x.2, a3, cap3⟩ : Bt)]).map Bt.bat = (pre ++ [x]) ∧ Row 32 2 a1 (bs ++ [(⟨x.1, x.2, a3, cap3⟩ : Bt)]).length cap1 ((bs ++ [(⟨x.1, x.2, a3, cap3⟩ : Bt)]).flatMap btv) L1 ∧ BtsIn C (LB ++ X) (bs ++ [(⟨x.1, x.2, a3, cap3⟩ : Bt)]) from ⟨bats_push hm, h1, hB.push hX⟩⟩))
  · rintro r1 pre _ hZ ⟨bs, a, cap, Lr, LB, rfl, hI⟩
    obtain ⟨hm, hR, hB⟩ := hI
    show ∀ a, Agr _ _ _ a → _
    refine (block_n (then_n ?_))
    refine cQ [(0, .at 0)] ((b1 = b1)) [(4, .slice a bs.length cap)] (rfl) ?_
    refine cd_ret (bot_ret (ret_mark 4 r1 (by kernel_rfl) (rvD [.slice a bs.length cap] (.slice a bs.length cap) [1, 1, 1] [Lr, LB, Li] ?_)))
    refine ⟨bs, a, cap, Lr, LB, hR, hB, ?_, ?_, rfl⟩
    all_goals first | with_reducible rfl | (exact hm ▸ hZ; done) | with_reducible assumption | omega | rfl | (simp_all; done) | (simp_all; omega)
  · rintro r e L h; exact h.elim

set_option maxRecDepth 100000 in
theorem collect_any (C : Ctx) (f : Nat) (first : Array Value) (capt : Array Value) (N : List Bat → Bat → Prop) (Z : List Bat → Prop) (Li : Blks) (hgo : Ok (goes Tryz.prog f = true)) (hit : Ok (IterT Tryz.prog C f first capt [Li] BatEnc N Z)) (hcount : Ok (∀ pre x, N pre x → pre.length ≤ 1073741824)) :
    FnT Tryz.prog C 65 #[.func (.func f) first capt] [Li] (fun rv_ rL_ => ∃ bs : List Bt, ∃ a : Option Addr, ∃ cap : Nat, ∃ L1 : Blks, ∃ LB1 : Blks, (Row 32 2 a bs.length cap (bs.flatMap btv) L1) ∧ (BtsIn C LB1 bs) ∧ (Z (bs.map Bt.bat)) ∧ rv_ = .slice a bs.length cap ∧ rL_ = [L1, LB1, Li]) := by
  replace hgo := hgo.h
  replace hit := hit.h
  replace hcount := hcount.h
  refine fE 5 Tryz.func65 rfl ?_
  refine cQ [] (True) [(0, .func (.func f) first capt)] (trivial) ?_
  refine cd_rg ?_
  refine rQ [] [0] [1, 2] (True) [(3, .func (.func f) first capt)] (trivial) ?_
  refine rC 1 [2] [0] [] (appendSeq_any C f first capt N Z Li ⟨by exact hgo⟩ ⟨by exact hit⟩ ⟨by exact hcount⟩) ?_
  rintro _ _ ⟨bs1, a1, cap1, L1_1, LB1_1, h1, h2, (hf1 : Z (bs1.map Bt.bat)), rfl, rfl⟩
  refine rQ [] [2] [] (True) [(2, .slice a1 bs1.length cap1)] (trivial) ?_
  refine rF ?_
  refine cd_ret (bot_ret (rv [.slice a1 bs1.length cap1] (.slice a1 bs1.length cap1) ?_))
  refine ⟨bs1, a1, cap1, L1_1, LB1_1, h1, h2, ?_, ?_, rfl⟩
  all_goals first | with_reducible rfl | (skip; done) | with_reducible assumption | omega | rfl | (simp_all; done) | (simp_all; omega)

set_option maxRecDepth 100000 in
theorem to_any (C : Ctx) (c0 : Nat) (bs : List Bt) (a0 : Option Addr) (L0 : Blks) (hl : SeesL C L0 a0 btv 2 bs) (hc : Ok (bs.length ≤ 1073741824)) :
    FnT Tryz.prog C 13 #[.slice a0 bs.length c0] [L0] (fun rv_ rL_ => ∃ a : Option Addr, ∃ cap : Nat, ∃ L1 : Blks, (Row 112 2 a bs.length cap (bs.flatMap btv) L1) ∧ rv_ = .slice a bs.length cap ∧ rL_ = [L1, L0]) := by
  replace hc := hc.h
  refine fE 18 Tryz.func13 rfl ?_
  refine cQ [] (True) [(0, .slice a0 bs.length c0)] (trivial) ?_
  refine cQ [] (True) [(0, .slice a0 bs.length c0), (3, .slice none 0 0)] (trivial) ?_
  refine cd_seq ?_
  refine cQ [] (True) [(3, .slice none 0 0), (6, .slice a0 bs.length c0), (7, n6 bs.length), (8, z6 0)] (trivial) ?_
  refine cd_block ?_
  refine cd_more ?_
  refine lp (fun x : (List Bt) × (Option Addr) × Nat × Blks × Nat => [(3, .slice x.2.1 x.1.length x.2.2.1), (6, .slice a0 bs.length c0), (7, n6 bs.length), (8, n6 x.2.2.2.2)]) (fun x : (List Bt) × (Option Addr) × Nat × Blks × Nat => [L0, x.2.2.2.1]) (fun x : (List Bt) × (Option Addr) × Nat × Blks × Nat => Row 112 2 x.2.1 x.1.length x.2.2.1 (x.1.flatMap btv) x.2.2.2.1 ∧ x.1 = bs.take x.2.2.2.2 ∧ x.2.2.2.2 ≤ bs.length) (fun x : (List Bt) × (Option Addr) × Nat × Blks × Nat => bs.length - x.2.2.2.2) (([], none, 0, [], 0)) (show Row 112 2 none ([] : List Bt).length 0 (([] : List Bt).flatMap btv) [] ∧ ([] : List Bt) = bs.take 0 ∧ 0 ≤ bs.length from ⟨Row.nil 112 2, rfl, by omega⟩) ?_
  rintro ⟨o, a, cap, Lr, i⟩ hI
  replace hI : Row 112 2 a o.length cap (o.flatMap btv) Lr ∧ o = bs.take i ∧ i ≤ bs.length := hI
  obtain ⟨hR, ho, hi⟩ := hI
  have hlen : o.length = i := by rw [ho]; simp; omega
  refine cQ [] (True) [(3, .slice a o.length cap), (6, .slice a0 bs.length c0), (7, n6 bs.length), (8, n6 i), (9, .bool (decide ((i : Int) < (bs.length : Int))))] (trivial) ?_
  refine cd_seq ?_
  refine cI (decide ((i : Int) < (bs.length : Int))) (fun h1 => ?_) (fun h1 => ?_)
  · have h1p : (i : Int) < (bs.length : Int) := by simpa using h1
    refine cd_skip (then_n ?_)
    refine cd_seq ?_
    refine cd_block ?_
    obtain ⟨b1, o1, ha1⟩ := (hl).addr (by first | omega | (simp at *; omega))
    subst ha1
    obtain ⟨x1, hx1⟩ : ∃ x, bs[i]? = some x := ⟨_, List.getElem?_eq_getElem (by first | omega | (simp at *; omega))⟩
    refine cd_rg ?_
    refine rQ [(1, .fact (.agg #[u6 x1.seq, .slice x1.a x1.l.length x1.cap]))] [0, 1] [2, 3] ((0 ≤ (i : Int) ∧ (i : Int) < (bs.length : Int)) ∧ (HasLoad Tryz.prog C [L0, Lr] 32 ⟨b1, o1 + i * 2, none⟩ (.agg #[u6 x1.seq, .slice x1.a x1.l.length x1.cap]))) [(3, .slice a o.length cap), (6, .slice (some ⟨b1, o1, none⟩) bs.length c0), (7, n6 bs.length), (8, n6 i), (11, .agg #[u6 x1.seq, .slice x1.a x1.l.length x1.cap])] (⟨⟨by omega, by omega⟩, (hl).elem (P := Tryz.prog) (by intro p hp; simp [hp]) 32 i hx1 (by kernel_rfl) (by kernel_rfl) (by first | exact .inl ⟨by kernel_rfl, rfl⟩ | exact .inr ⟨by kernel_rfl, rfl⟩)⟩) ?_
    refine rN 2 [3] (.cells #[.int .u64 0, .slice none 0 0] 32 (0, 0)) p0 (fun b2 => ?_)
    refine rS [(3, .at 2)] [3] [] ((b2 = b2)) [(3, .slice a o.length cap), (5, p0 b2), (6, .slice (some ⟨b1, o1, none⟩) bs.length c0), (7, n6 bs.length), (8, n6 i)] [L0, Lr, bk b2 32 #[u6 x1.seq, .slice x1.a x1.l.length x1.cap]] (rfl) ?_
    refine rF ?_
    refine cd_region ?_
    refine rQ [(1, .at 2)] [0, 1] [2, 3, 4] ((b2 = b2)) [(6, .slice (some ⟨b1, o1, none⟩) bs.length c0), (7, n6 bs.length), (8, n6 i), (12, .slice a o.length cap), (13, .agg #[u6 x1.seq, .slice x1.a x1.l.length x1.cap])] (rfl) ?_
    refine rN 2 [3, 4] (.cells #[u6 x1.seq, .slice x1.a x1.l.length x1.cap] 112 (0, 0)) (fun b3 => sl b3 1 1) (fun b3 => ?_)
    refine rX 3 [4] (do pure (.value (← Builtin.append_ #[23, 23] 23 #[.slice a o.length cap, sl b3 1 1]))) [1, 2] [Lr, bk b3 112 #[u6 x1.seq, .slice x1.a x1.l.length x1.cap]] [L0, bk b2 32 #[u6 x1.seq, .slice x1.a x1.l.length x1.cap]] (gv_push (bytes := 32) (l := o) (enc := btv) x1 23 (by kernel_rfl) hR rfl rfl (by kernel_rfl) (by omega) (by omega)) ?_
    rintro _ _ ⟨a1, cap1, L1, rfl, rfl, h2⟩
    refine rQ [] [4] [] (True) [(3, .slice a1 ((o ++ [x1]).length) cap1), (6, .slice (some ⟨b1, o1, none⟩) bs.length c0), (7, n6 bs.length), (8, n6 i)] (trivial) ?_
    refine rg_nil ?_
    refine (block_n (then_n ?_))
    refine cd_region ?_
    refine rQ [] [0, 1] [] ((inKind .i64 ((i : Int) + 1))) [(3, .slice a1 ((o ++ [x1]).length) cap1), (6, .slice (some ⟨b1, o1, none⟩) bs.length c0), (7, n6 bs.length), (8, n6 (i + 1))] (inK_i64 (by omega)) ?_
    refine rT [1, 0] [L0, L1] ?_
    refine rg_nil ?_
    refine (lM ((o ++ [x1], a1, cap1, L1, i + 1)) (show Row 112 2 a1 (o ++ [x1]).length cap1 ((o ++ [x1]).flatMap btv) L1 ∧ (o ++ [x1]) = bs.take (i + 1) ∧ (i + 1) ≤ bs.length from ⟨h2, by rw [ho]; exact take_push hx1, by omega⟩) (show (bs.length - (i + 1)) < (bs.length - i) by first | omega | (simp; omega)))
  · have h1p : ¬ ((i : Int) < (bs.length : Int)) := by simpa using h1
    refine cd_exit (then_exit (then_exit (block_hit (then_n ?_))))
    have ho2 : bs = o := by rw [ho, List.take_of_length_le (by omega)]
    subst ho2
    refine cQ [] (True) [(2, .slice a bs.length cap)] (trivial) ?_
    refine cT [1, 0] [Lr, L0] ?_
    refine cd_ret (bot_ret (rv [.slice a bs.length cap] (.slice a bs.length cap) ?_))
    refine ⟨a, cap, Lr, hR, ?_, rfl⟩
    all_goals first | with_reducible rfl | (skip; done) | with_reducible assumption | omega | rfl | (simp_all; done) | (simp_all; omega)

set_option maxRecDepth 100000 in
theorem same16_any (C : Ctx) (c1 : Nat) (c2 : Nat) (H : Blks) (a1 : Option Addr) (bs1 : List Bt) (a2 : Option Addr) (bs2 : List Bt) (hl1 : SeesL C H a1 btv 2 bs1) (hl2 : SeesL C H a2 btv 2 bs2) (h40 : Ok (bs1.length ≤ 1073741824)) (hb1 : Ok (BtsIn C H bs1)) (hb2 : Ok (BtsIn C H bs2)) (hsm : Ok (∀ b ∈ bs1, b.l.length ≤ 1099511627776)) :
    FnT Tryz.prog C 12 #[.slice a1 bs1.length c1, .slice a2 bs2.length c2] [H] (fun rv_ rL_ => rv_ = .bool (decide (bs1.map Bt.bat = bs2.map Bt.bat)) ∧ rL_ = [H]) := by
  replace h40 := h40.h
  replace hb1 := hb1.h
  replace hb2 := hb2.h
  replace hsm := hsm.h
  refine fE 42 Tryz.func12 rfl ?_
  refine cQ [] (True) [(0, .slice a1 bs1.length c1), (1, .slice a2 bs2.length c2)] (trivial) ?_
  refine cd_seq ?_
  refine cQ [] (True) [(0, .slice a1 bs1.length c1), (1, .slice a2 bs2.length c2), (10, .bool ((bs1.length : Int) != (bs2.length : Int)))] (trivial) ?_
  refine cI ((bs1.length : Int) != (bs2.length : Int)) (fun h1 => ?_) (fun h1 => ?_)
  · have h1p : (bs1.length : Int) ≠ (bs2.length : Int) := by simpa using h1
    refine cQ [] (True) [(4, .bool false)] (trivial) ?_
    refine cd_ret (then_ret (bot_ret (rv [.bool false] (.bool false) ?_)))
    refine ⟨?_, rfl⟩
    all_goals first | with_reducible rfl | (rw [decide_eq_false (ne_len (by simp; omega))]; done) | (rw [decide_eq_false (ne_at (bats_at hx1) (bats_at hx2) (bat_ne (by first | omega | assumption | exact Decidable.of_not_not (by assumption) | (simp_all; done) | (simp_all; omega))))]; done) | (rw [decide_eq_true (hI.done (by simp; omega))]; done) | with_reducible assumption | omega | rfl | (simp_all; done) | (simp_all; omega)
  · have h1p : ¬ ((bs1.length : Int) ≠ (bs2.length : Int)) := by simpa using h1
    refine cd_skip (then_n ?_)
    refine cd_seq ?_
    refine cQ [] (True) [(0, .slice a1 bs1.length c1), (1, .slice a2 bs2.length c2), (12, n6 bs1.length), (13, z6 0)] (trivial) ?_
    refine cd_block ?_
    refine lp (fun x : Nat => [(0, .slice a1 bs1.length c1), (1, .slice a2 bs2.length c2), (12, n6 bs1.length), (13, n6 x)]) (fun x : Nat => [H]) (fun x : Nat => EqInv (bs1.map Bt.bat) (bs2.map Bt.bat) x) (fun x : Nat => bs1.length - x) (0) (show EqInv (bs1.map Bt.bat) (bs2.map Bt.bat) 0 from EqInv.start (by simp; omega)) ?_
    rintro i hI
    replace hI : EqInv (bs1.map Bt.bat) (bs2.map Bt.bat) i := hI
    have hlen := hI.len
    simp only [List.length_map] at hlen
    refine cQ [] (True) [(0, .slice a1 bs1.length c1), (1, .slice a2 bs2.length c2), (12, n6 bs1.length), (13, n6 i), (14, .bool (decide ((i : Int) < (bs1.length : Int))))] (trivial) ?_
    refine cd_seq ?_
    refine cI (decide ((i : Int) < (bs1.length : Int))) (fun h2 => ?_) (fun h2 => ?_)
    · have h2p : (i : Int) < (bs1.length : Int) := by simpa using h2
      refine cd_skip (then_n ?_)
      refine cd_seq ?_
      refine cd_block ?_
      refine cQ [] (True) [(0, .slice a1 bs1.length c1), (1, .slice a2 bs2.length c2), (5, n6 i), (12, n6 bs1.length), (13, n6 i)] (trivial) ?_
      obtain ⟨b1, o1, ha1⟩ := (hl1).addr (by first | omega | (simp at *; omega))
      subst ha1
      obtain ⟨x1, hx1⟩ : ∃ x, bs1[i]? = some x := ⟨_, List.getElem?_eq_getElem (by first | omega | (simp at *; omega))⟩
      obtain ⟨b2, o2, ha2⟩ := (hl2).addr (by first | omega | (simp at *; omega))
      subst ha2
      obtain ⟨x2, hx2⟩ : ∃ x, bs2[i]? = some x := ⟨_, List.getElem?_eq_getElem (by first | omega | (simp at *; omega))⟩
      refine dr [H] [] [] 25 ?_
      refine aS [(4, .fact (u6 x1.seq)), (9, .fact (u6 x2.seq))] [0, 1, 5, 6, 2, 7, 3, 8, 4, 9, 10, 11] ((0 ≤ (i : Int) ∧ (i : Int) < (bs1.length : Int)) ∧ (0 ≤ (i : Int) ∧ (i : Int) < (bs2.length : Int)) ∧ (HasLoad Tryz.prog C [H] 29 ⟨b1, o1 + i * 2, none⟩ (u6 x1.seq)) ∧ (HasLoad Tryz.prog C [H] 29 ⟨b2, o2 + i * 2, none⟩ (u6 x2.seq))) [(0, .slice (some ⟨b1, o1, none⟩) bs1.length c1), (1, .slice (some ⟨b2, o2, none⟩) bs2.length c2), (5, n6 i), (12, n6 bs1.length), (13, n6 i), (27, .bool ((x1.seq : Int) != (x2.seq : Int)))] (bm 25 4095) 13 (⟨⟨by omega, by omega⟩, ⟨by omega, by omega⟩, (hl1).cell (P := Tryz.prog) (by intro p hp; simp [hp]) 29 i 0 hx1 (by kernel_rfl) rfl, (hl2).cell (P := Tryz.prog) (by intro p hp; simp [hp]) 29 i 0 hx2 (by kernel_rfl) rfl⟩) ?_
      refine aB 27 ((x1.seq : Int) != (x2.seq : Int)) (fun g1 => ?_) (fun g1 => ?_)
      · have g1p : (x1.seq : Int) ≠ (x2.seq : Int) := by simpa using g1
        refine aS [] [12, 13, 17, 18, 14, 19, 15, 20, 16, 21, 22, 23, 24] (True) [(0, .slice (some ⟨b1, o1, none⟩) bs1.length c1), (1, .slice (some ⟨b2, o2, none⟩) bs2.length c2), (12, n6 bs1.length), (13, n6 i), (40, .bool true)] (bm 25 33554431) 0 (trivial) ?_
        refine aE [(0, .slice (some ⟨b1, o1, none⟩) bs1.length c1), (1, .slice (some ⟨b2, o2, none⟩) bs2.length c2), (12, n6 bs1.length), (13, n6 i), (40, .bool true)] [H] ?_
        refine cYes ?_
        refine cQ [] (True) [(4, .bool false)] (trivial) ?_
        refine cd_ret (block_ret (then_ret (then_ret (block_ret (then_ret (bot_ret (rv [.bool false] (.bool false) ?_)))))))
        refine ⟨?_, rfl⟩
        all_goals first | with_reducible rfl | (rw [decide_eq_false (ne_len (by simp; omega))]; done) | (rw [decide_eq_false (ne_at (bats_at hx1) (bats_at hx2) (bat_ne (by first | omega | assumption | exact Decidable.of_not_not (by assumption) | (simp_all; done) | (simp_all; omega))))]; done) | (rw [decide_eq_true (hI.done (by simp; omega))]; done) | with_reducible assumption | omega | rfl | (simp_all; done) | (simp_all; omega)
      · have g1p : ¬ ((x1.seq : Int) ≠ (x2.seq : Int)) := by simpa using g1
        refine aS [(16, .fact (.slice x1.a x1.l.length x1.cap)), (21, .fact (.slice x2.a x2.l.length x2.cap))] [12, 13, 17, 18, 14, 19, 15, 20, 16, 21] ((0 ≤ (i : Int) ∧ (i : Int) < (bs1.length : Int)) ∧ (0 ≤ (i : Int) ∧ (i : Int) < (bs2.length : Int)) ∧ (HasLoad Tryz.prog C [H] 30 ⟨b1, o1 + i * 2 + 1, none⟩ (.slice x1.a x1.l.length x1.cap)) ∧ (HasLoad Tryz.prog C [H] 30 ⟨b2, o2 + i * 2 + 1, none⟩ (.slice x2.a x2.l.length x2.cap))) [(0, .slice (some ⟨b1, o1, none⟩) bs1.length c1), (1, .slice (some ⟨b2, o2, none⟩) bs2.length c2), (12, n6 bs1.length), (13, n6 i), (27, .bool false), (32, .slice x1.a x1.l.length x1.cap), (37, .slice x2.a x2.l.length x2.cap)] (bm 25 4194303) 3 (⟨⟨by omega, by omega⟩, ⟨by omega, by omega⟩, (hl1).cell (P := Tryz.prog) (by intro p hp; simp [hp]) 30 i 1 hx1 (by kernel_rfl) rfl, (hl2).cell (P := Tryz.prog) (by intro p hp; simp [hp]) 30 i 1 hx2 (by kernel_rfl) rfl⟩) ?_
        refine aI (i := 22) ?_
        refine xR [0, 1, 12, 13, 27, 38] (bm 25 8388607) (refSame_any C x1.cap x2.cap _ x1.a x1.l x2.a x2.l (SeesL.mono (hb1 x1 (List.mem_of_getElem? hx1)) (by intro p hp; first | exact hp | simp [hp])) (SeesL.mono (hb2 x2 (List.mem_of_getElem? hx2)) (by intro p hp; first | exact hp | simp [hp])) ⟨by first | (exact hsm _ (List.mem_of_getElem? hx1); done) | exact Ok.h {}⟩) ?_
        rintro _ rfl
        refine aS [] [23, 24] (True) [(0, .slice (some ⟨b1, o1, none⟩) bs1.length c1), (1, .slice (some ⟨b2, o2, none⟩) bs2.length c2), (12, n6 bs1.length), (13, n6 i), (40, .bool (!(decide (x1.l = x2.l))))] (bm 25 33554431) 0 (trivial) ?_
        refine aE [(0, .slice (some ⟨b1, o1, none⟩) bs1.length c1), (1, .slice (some ⟨b2, o2, none⟩) bs2.length c2), (12, n6 bs1.length), (13, n6 i), (40, .bool (!(decide (x1.l = x2.l))))] [H] ?_
        refine cI (!(decide (x1.l = x2.l))) (fun h3 => ?_) (fun h3 => ?_)
        · have h3p : ¬ ((decide (x1.l = x2.l)) = true) := by first | (simpa using h3; done) | (intro hx; rw [hx] at h3; simp at h3) | (intro hx; rw [Bool.not_eq_true] at hx; rw [hx] at h3; simp at h3)
          refine cQ [] (True) [(4, .bool false)] (trivial) ?_
          refine cd_ret (block_ret (then_ret (then_ret (block_ret (then_ret (bot_ret (rv [.bool false] (.bool false) ?_)))))))
          refine ⟨?_, rfl⟩
          all_goals first | with_reducible rfl | (rw [decide_eq_false (ne_len (by simp; omega))]; done) | (rw [decide_eq_false (ne_at (bats_at hx1) (bats_at hx2) (bat_ne (by first | omega | assumption | exact Decidable.of_not_not (by assumption) | (simp_all; done) | (simp_all; omega))))]; done) | (rw [decide_eq_true (hI.done (by simp; omega))]; done) | with_reducible assumption | omega | rfl | (simp_all; done) | (simp_all; omega)
        · have h3p : ¬ (¬ ((decide (x1.l = x2.l)) = true)) := by first | (simpa using h3; done) | (intro hx; rw [hx] at h3; simp at h3) | (intro hx; rw [Bool.not_eq_true] at hx; rw [hx] at h3; simp at h3)
          refine cd_skip (block_n (then_n ?_))
          refine cQ0 [] ((inKind .i64 ((i : Int) + 1))) [(0, .slice (some ⟨b1, o1, none⟩) bs1.length c1), (1, .slice (some ⟨b2, o2, none⟩) bs2.length c2), (12, n6 bs1.length), (13, n6 (i + 1))] (inK_i64 (by omega)) ?_
          refine (lM (i + 1) (show EqInv (bs1.map Bt.bat) (bs2.map Bt.bat) (i + 1) from hI.next (bats_at hx1) (bats_at hx2) (bat_eq (by first | omega | assumption | exact Decidable.of_not_not (by assumption) | (simp_all; done) | (simp_all; omega)) (by first | omega | assumption | exact Decidable.of_not_not (by assumption) | (simp_all; done) | (simp_all; omega)))) (show (bs1.length - (i + 1)) < (bs1.length - i) by first | omega | (simp; omega)))
    · have h2p : ¬ ((i : Int) < (bs1.length : Int)) := by simpa using h2
      refine cd_exit (then_exit (then_exit (block_hit (then_n ?_))))
      refine cQ [] (True) [(4, .bool true)] (trivial) ?_
      refine cd_ret (bot_ret (rv [.bool true] (.bool true) ?_))
      refine ⟨?_, rfl⟩
      all_goals first | with_reducible rfl | (rw [decide_eq_false (ne_len (by simp; omega))]; done) | (rw [decide_eq_false (ne_at (bats_at hx1) (bats_at hx2) (bat_ne (by first | omega | assumption | exact Decidable.of_not_not (by assumption) | (simp_all; done) | (simp_all; omega))))]; done) | (rw [decide_eq_true (hI.done (by simp; omega))]; done) | with_reducible assumption | omega | rfl | (simp_all; done) | (simp_all; omega)
end Go.Proofs
