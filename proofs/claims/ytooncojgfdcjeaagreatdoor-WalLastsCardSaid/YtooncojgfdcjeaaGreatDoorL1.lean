/- Walks: a log. No condition. -/
import Derived.Test.YtooncojgfdcjeaaGreatDoorK1
import Derived.Test.YtooncojgfdcjeaaGreatDoorProg
namespace Go.Proofs
open Go Go.Sep
set_option maxRecDepth 100000 in
theorem walCreate_any (C : Ctx) (d : Nat) (m : Nat) (fs : Files) (room : Nat) (st : Nat) (fu : Int) (fa : Int) (dn : Bool) (n : Nat) (Lm : Blks) (hm : MapL fileV m fs Lm) (hf : Ok (-1 ≤ fu ∧ fu ≤ 1099511627776)) (ha : Ok (-1 ≤ fa ∧ fa ≤ 1099511627776)) (hst : Ok (st ≤ 549755813888)) (hlen : Ok (fs.length ≤ 1099511627776)) (hn : Ok (n < 100)) (hc0 : Ok ((Dsk.create ⟨fs, room, st, fu, fa, dn⟩ (nameF [108] n)).1 = 0)) :
    FnT Tryz.prog C 15 #[p0 d, u6 n] [bk d 123 #[.map (some m), n6 room, n6 st, z6 fu, z6 fa, .bool dn], Lm] (fun rv_ rL_ => ∃ lb : Nat, ∃ fs1 : Files, ∃ st1 : Nat, ∃ fu1 : Int, ∃ fa1 : Int, ∃ dn1 : Bool, ∃ L1 : Blks, (MapL fileV m fs1 L1) ∧ (Dsk.create ⟨fs, room, st, fu, fa, dn⟩ (nameF [108] n) = (0, ⟨fs1, room, st1, fu1, fa1, dn1⟩)) ∧ rv_ = .tuple #[p0 lb, z6 0] ∧ rL_ = [bk lb 126 #[p0 d, str (nameF [108] n), z6 0, .int .u64 0, .bool false], bk d 123 #[.map (some m), n6 room, n6 st1, z6 fu1, z6 fa1, .bool dn1], L1]) := by
  replace hf := hf.h
  replace ha := ha.h
  replace hst := hst.h
  replace hlen := hlen.h
  replace hn := hn.h
  replace hc0 := hc0.h
  refine fE 20 Tryz.func15 rfl ?_
  refine cQ [] (True) [(0, p0 d), (1, u6 n)] (trivial) ?_
  refine cd_rg ?_
  refine rQ [] [0] [1, 2] (True) [(0, p0 d), (8, u6 n)] (trivial) ?_
  refine rC 1 [2] [] [bk d 123 #[.map (some m), n6 room, n6 st, z6 fu, z6 fa, .bool dn], Lm] (name_any C [108] n ⟨by first | (exact name_ok (by decide) (by decide) hn; done) | exact Ok.h {}⟩ ⟨by first | (exact name_ok (by decide) (by decide) hn; done) | exact Ok.h {}⟩) ?_
  rintro _ _ ⟨rfl, rfl⟩
  refine rQ [] [2] [] (True) [(0, p0 d), (6, str (nameF [108] n))] (trivial) ?_
  refine rF ?_
  refine cd_seq ?_
  refine cd_rg ?_
  refine rQ [] [0, 1] [2, 3] (True) [(0, p0 d), (6, str (nameF [108] n)), (10, p0 d), (11, str (nameF [108] n))] (trivial) ?_
  refine rC 2 [3] [0, 0] [] (create_any C d m fs room st fu fa dn (nameF [108] n) Lm hm ⟨by first | (exact name_ok (by decide) (by decide) hn; done) | exact Ok.h {}⟩ ⟨by first | (exact name_ok (by decide) (by decide) hn; done) | exact Ok.h {}⟩ ⟨by first | (exact name_ok (by decide) (by decide) hn; done) | exact Ok.h {}⟩ ⟨by first | (exact name_ok (by decide) (by decide) hn; done) | exact Ok.h {}⟩ ⟨by first | (exact name_ok (by decide) (by decide) hn; done) | exact Ok.h {}⟩) ?_
  rintro _ _ ⟨e1, fs1_1, st1_1, fu1_1, fa1_1, dn1_1, L1_1, h1, hf1, rfl, rfl⟩
  refine rQ [] [3] [] (True) [(0, p0 d), (6, str (nameF [108] n)), (7, n6 e1)] (trivial) ?_
  refine rF ?_
  refine cQ [] (True) [(0, p0 d), (6, str (nameF [108] n)), (7, n6 e1), (14, .bool ((e1 : Int) != 0))] (trivial) ?_
  refine cI ((e1 : Int) != 0) (fun h2 => ?_) (fun h2 => ?_)
  · have h2p : (e1 : Int) ≠ 0 := by simpa using h2
    exfalso; rw [hf1] at hc0; simp at hc0; omega
  · have h2p : ¬ ((e1 : Int) ≠ 0) := by simpa using h2
    refine cd_skip (then_n ?_)
    refine cd_rg ?_
    refine rQ [] [0, 1, 2] [3, 4, 5] (True) [(18, .agg #[p0 d, str (nameF [108] n), z6 0, .int .u64 0, .bool false])] (trivial) ?_
    refine rN 3 [4, 5] (.cells #[p0 d, str (nameF [108] n), z6 0, .int .u64 0, .bool false] 126 (0, 0)) p0 (fun b1 => ?_)
    refine rQ [] [4, 5] [] (True) [(4, p0 b1), (5, z6 0)] (trivial) ?_
    refine rF ?_
    refine cT [2, 0, 0] [bk b1 126 #[p0 d, str (nameF [108] n), z6 0, .int .u64 0, .bool false], bk d 123 #[.map (some m), n6 room, n6 st1_1, z6 fu1_1, z6 fa1_1, .bool dn1_1], L1_1] ?_
    refine cd_ret (bot_ret (rv [p0 b1, z6 0] (.tuple #[p0 b1, z6 0]) ?_))
    refine ⟨b1, fs1_1, st1_1, fu1_1, fa1_1, dn1_1, L1_1, h1, ?_, ?_, rfl⟩
    all_goals first | with_reducible rfl | (rw [hf1] at hc0 ⊢; simp at hc0; rw [hc0]; done) | with_reducible assumption | omega | rfl | (simp_all; done) | (simp_all; omega)

set_option maxRecDepth 100000 in
theorem walCreate_nil (C : Ctx) (n : Nat) (hn : Ok (n < 100)) :
    FnT Tryz.prog C 15 #[.pointer none, u6 n] [] (fun rv_ rL_ => rv_ = .tuple #[.pointer none, z6 1] ∧ rL_ = []) := by
  replace hn := hn.h
  refine fE 20 Tryz.func15 rfl ?_
  refine cQ [] (True) [(0, .pointer none), (1, u6 n)] (trivial) ?_
  refine cd_rg ?_
  refine rQ [] [0] [1, 2] (True) [(0, .pointer none), (8, u6 n)] (trivial) ?_
  refine rC 1 [2] [] [] (name_any C [108] n {} {}) ?_
  rintro _ _ ⟨rfl, rfl⟩
  refine rQ [] [2] [] (True) [(0, .pointer none), (6, str (nameF [108] n))] (trivial) ?_
  refine rF ?_
  refine cd_seq ?_
  refine cd_rg ?_
  refine rQ [] [0, 1] [2, 3] (True) [(0, .pointer none), (6, str (nameF [108] n)), (10, .pointer none), (11, str (nameF [108] n))] (trivial) ?_
  refine rC 2 [3] [] [] (create_nil C (nameF [108] n)) ?_
  rintro _ _ ⟨rfl, rfl⟩
  refine rQ [] [3] [] (True) [(0, .pointer none), (6, str (nameF [108] n)), (7, z6 1)] (trivial) ?_
  refine rF ?_
  refine cQ [] (True) [(0, .pointer none), (6, str (nameF [108] n)), (7, z6 1), (14, .bool true)] (trivial) ?_
  refine cYes ?_
  refine cQ [] (True) [(4, .pointer none), (5, z6 1)] (trivial) ?_
  refine cd_ret (then_ret (bot_ret (rv [.pointer none, z6 1] (.tuple #[.pointer none, z6 1]) ?_)))
  refine ⟨?_, rfl⟩
  all_goals first | with_reducible rfl | (skip; done) | with_reducible assumption | omega | rfl | (simp_all; done) | (simp_all; omega)

set_option maxRecDepth 100000 in
theorem walName_nil (C : Ctx)  :
    FnT Tryz.prog C 27 #[.pointer none] [] (fun rv_ rL_ => rv_ = str [] ∧ rL_ = []) := by
  refine fE 9 Tryz.func27 rfl ?_
  refine cQ [] (True) [(0, .pointer none)] (trivial) ?_
  refine cd_seq ?_
  refine cQ [] (True) [(0, .pointer none), (4, .bool true)] (trivial) ?_
  refine cYes ?_
  refine cQ [] (True) [(2, str [])] (trivial) ?_
  refine cd_ret (then_ret (bot_ret (rv [str []] (str []) ?_)))
  refine ⟨?_, rfl⟩
  all_goals first | with_reducible rfl | (skip; done) | with_reducible assumption | omega | rfl | (simp_all; done) | (simp_all; omega)

set_option maxRecDepth 100000 in
theorem walName_any (C : Ctx) (lb : Nat) (d : Nat) (nm : List UInt8) (v2 : Value) (v3 : Value) (v4 : Value) :
    FnT Tryz.prog C 27 #[p0 lb] [bk lb 126 #[p0 d, str nm, v2, v3, v4]] (fun rv_ rL_ => rv_ = str nm ∧ rL_ = [bk lb 126 #[p0 d, str nm, v2, v3, v4]]) := by
  refine fE 9 Tryz.func27 rfl ?_
  refine cQ [] (True) [(0, p0 lb)] (trivial) ?_
  refine cd_seq ?_
  refine cQ [] (True) [(0, p0 lb), (4, .bool false)] (trivial) ?_
  refine cNo ?_
  refine cd_skip (then_n ?_)
  refine cQ [(3, .at 0)] ((lb = lb)) [(2, str nm)] (rfl) ?_
  refine cd_ret (bot_ret (rv [str nm] (str nm) ?_))
  refine ⟨?_, rfl⟩
  all_goals first | with_reducible rfl | (skip; done) | with_reducible assumption | omega | rfl | (simp_all; done) | (simp_all; omega)

set_option maxRecDepth 100000 in
theorem walAdd_any (C : Ctx) (lb : Nat) (nm : List UInt8) (long : Nat) (nx : Nat) (br : Bool) (d : Nat) (m : Nat) (fs : Files) (room : Nat) (st : Nat) (fu : Int) (fa : Int) (dn : Bool) (seq : Nat) (cap : Nat) (Lm : Blks) (Lc : Blks) (a : Option Addr) (l : List Chg) (hm : MapL fileV m fs Lm) (hl : SeesL C Lc a chg 3 l) (hf : Ok (-1 ≤ fu ∧ fu ≤ 1099511627776)) (ha : Ok (-1 ≤ fa ∧ fa ≤ 1099511627776)) (hst : Ok (st ≤ 549755813888)) (hseq : Ok (seq < 18446744073709551616)) (hk : Ok (∀ x ∈ l, x.key.length ≤ 1099511627776 ∧ x.val.length ≤ 1099511627776)) (hl40 : Ok (l.length ≤ 1099511627776)) (hlong : Ok (long ≤ 274877906944)) (h12 : Ok (fs.length ≤ 12)) (hu : Ok (usedF fs ≤ 1099511627776)) (hfl : Ok (∀ k, (getF fs k).s.length ≤ 1099511627776)) :
    FnT Tryz.prog C 19 #[p0 lb, .agg #[u6 seq, .slice a l.length cap]] [bk lb 126 #[p0 d, str nm, n6 long, u6 nx, .bool br], bk d 123 #[.map (some m), n6 room, n6 st, z6 fu, z6 fa, .bool dn], Lm, Lc] (fun rv_ rL_ => ∃ e : Nat, ∃ long1 : Nat, ∃ nx1 : Nat, ∃ br1 : Bool, ∃ fs1 : Files, ∃ st1 : Nat, ∃ fu1 : Int, ∃ fa1 : Int, ∃ dn1 : Bool, ∃ L1 : Blks, (MapL fileV m fs1 L1) ∧ (addL ⟨fs, room, st, fu, fa, dn⟩ ⟨nm, long, nx, br⟩ seq l = (e, ⟨fs1, room, st1, fu1, fa1, dn1⟩, ⟨nm, long1, nx1, br1⟩)) ∧ rv_ = n6 e ∧ rL_ = [bk lb 126 #[p0 d, str nm, n6 long1, u6 nx1, .bool br1], bk d 123 #[.map (some m), n6 room, n6 st1, z6 fu1, z6 fa1, .bool dn1], L1, Lc]) := by
  replace hf := hf.h
  replace ha := ha.h
  replace hst := hst.h
  replace hseq := hseq.h
  replace hk := hk.h
  replace hl40 := hl40.h
  replace hlong := hlong.h
  replace h12 := h12.h
  replace hu := hu.h
  replace hfl := hfl.h
  refine fE 79 Tryz.func19 rfl ?_
  refine cd_rg ?_
  refine rQ [] [] [0, 1] (True) [(0, p0 lb), (1, .agg #[u6 seq, .slice a l.length cap])] (trivial) ?_
  refine rN 0 [1] (.cells #[u6 seq, .slice a l.length cap] 32 (0, 0)) p0 (fun b1 => ?_)
  refine rQ [] [1] [] (True) [(0, p0 lb), (3, p0 b1)] (trivial) ?_
  refine rF ?_
  refine cd_seq ?_
  refine cd_block ?_
  refine cQ [] (True) [(0, p0 lb), (3, p0 b1), (8, .bool false)] (trivial) ?_
  refine cNo ?_
  refine cQ [(3, .at 0)] ((lb = lb)) [(0, p0 lb), (3, p0 b1), (11, .bool br)] (rfl) ?_
  refine cI br (fun h1 => ?_) (fun h1 => ?_)
  · have h1p : br = true := by first | (simpa using h1; done) | (intro hx; rw [hx] at h1; simp at h1) | (intro hx; rw [Bool.not_eq_true] at hx; rw [hx] at h1; simp at h1)
    refine cQ [] (True) [(4, z6 20)] (trivial) ?_
    refine cT [0, 0, 0, 0] [bk lb 126 #[p0 d, str nm, n6 long, u6 nx, .bool br], bk d 123 #[.map (some m), n6 room, n6 st, z6 fu, z6 fa, .bool dn], Lm, Lc] ?_
    refine cd_ret (block_ret (then_ret (bot_ret (rv [z6 20] (z6 20) ?_))))
    refine ⟨20, long, nx, br, fs, st, fu, fa, dn, Lm, hm, ?_, ?_, rfl⟩
    all_goals first | with_reducible rfl | (exact addL_broken (by assumption); done) | (exact addL_order (by first | assumption | simpa using (by assumption)) (by omega); done) | (exact addL_bytes (by first | assumption | simp_all) (by omega) (by assumption) (by omega); done) | (exact addL_app (by first | assumption | simp_all) (by omega) (by assumption) (by omega) (by assumption) (by omega); done) | (exact addL_syn (by first | assumption | simp_all) (by omega) (by assumption) (by omega) (by assumption) (by omega) (by assumption) (by omega); done) | (exact addL_ok (by first | assumption | simp_all) (by omega) (by assumption) (by omega) (by assumption) (by omega) (by assumption) (by omega); done) | with_reducible assumption | omega | rfl | (simp_all; done) | (simp_all; omega)
  · have h1p : ¬ (br = true) := by first | (simpa using h1; done) | (intro hx; rw [hx] at h1; simp at h1) | (intro hx; rw [Bool.not_eq_true] at hx; rw [hx] at h1; simp at h1)
    refine dr [bk lb 126 #[p0 d, str nm, n6 long, u6 nx, .bool br], bk d 123 #[.map (some m), n6 room, n6 st, z6 fu, z6 fa, .bool dn], Lm, Lc, bk b1 32 #[u6 seq, .slice a l.length cap]] [] [] 8 ?_
    refine aS [(1, .at 4), (5, .at 0)] [0, 2, 1, 3, 4, 5, 6, 7] ((b1 = b1) ∧ (lb = lb)) [(0, p0 lb), (3, p0 b1), (16, .bool (decide ((seq : Int) < (nx : Int))))] (bm 8 255) 0 (⟨rfl, rfl⟩) ?_
    refine aE [(0, p0 lb), (3, p0 b1), (16, .bool (decide ((seq : Int) < (nx : Int))))] [bk lb 126 #[p0 d, str nm, n6 long, u6 nx, .bool br], bk d 123 #[.map (some m), n6 room, n6 st, z6 fu, z6 fa, .bool dn], Lm, Lc, bk b1 32 #[u6 seq, .slice a l.length cap]] ?_
    refine cI (decide ((seq : Int) < (nx : Int))) (fun h2 => ?_) (fun h2 => ?_)
    · have h2p : (seq : Int) < (nx : Int) := by simpa using h2
      refine cQ [] (True) [(4, z6 18)] (trivial) ?_
      refine cT [0, 0, 0, 0] [bk lb 126 #[p0 d, str nm, n6 long, u6 nx, .bool br], bk d 123 #[.map (some m), n6 room, n6 st, z6 fu, z6 fa, .bool dn], Lm, Lc] ?_
      refine cd_ret (block_ret (then_ret (bot_ret (rv [z6 18] (z6 18) ?_))))
      refine ⟨18, long, nx, br, fs, st, fu, fa, dn, Lm, hm, ?_, ?_, rfl⟩
      all_goals first | with_reducible rfl | (exact addL_broken (by assumption); done) | (exact addL_order (by first | assumption | simpa using (by assumption)) (by omega); done) | (exact addL_bytes (by first | assumption | simp_all) (by omega) (by assumption) (by omega); done) | (exact addL_app (by first | assumption | simp_all) (by omega) (by assumption) (by omega) (by assumption) (by omega); done) | (exact addL_syn (by first | assumption | simp_all) (by omega) (by assumption) (by omega) (by assumption) (by omega) (by assumption) (by omega); done) | (exact addL_ok (by first | assumption | simp_all) (by omega) (by assumption) (by omega) (by assumption) (by omega) (by assumption) (by omega); done) | with_reducible assumption | omega | rfl | (simp_all; done) | (simp_all; omega)
    · have h2p : ¬ ((seq : Int) < (nx : Int)) := by simpa using h2
      refine cd_skip (block_n (then_n ?_))
      refine cd_rg ?_
      refine rQ [(0, .at 4)] [0] [1, 2, 3, 4, 5, 6] ((b1 = b1)) [(0, p0 lb), (3, p0 b1), (25, .agg #[u6 seq, .slice a l.length cap])] (rfl) ?_
      refine rR 1 [2, 3, 4, 5, 6] (R := fun rv_ => ∃ t1 : List UInt8, ∃ e1 : Nat, (bytesB seq l = (t1, e1)) ∧ (t1.length ≤ 8800018) ∧ rv_ = .tuple #[str t1, n6 e1]) (FnT.mono (bytes_any C seq cap _ a l (SeesL.mono hl (by intro p hp; simp [hp])) ⟨by first | ((have h9 := append_bounds (M := 1099511627776) (by assumption) hf ha; omega); done) | exact Ok.h {}⟩ ⟨by first | ((have h9 := append_bounds (M := 1099511627776) (by assumption) hf ha; omega); done) | exact Ok.h {}⟩ ⟨by first | ((have h9 := append_bounds (M := 1099511627776) (by assumption) hf ha; omega); done) | exact Ok.h {}⟩) (by rintro v L ⟨x0, x1, x2, x3, hv, hL⟩; exact ⟨⟨x0, x1, x2, x3, hv⟩, hL⟩)) ?_
      rintro _ ⟨t1, e1, hf1, hf2, rfl⟩
      refine rQ [] [2, 3, 4, 5, 6] [] (True) [(0, p0 lb), (3, p0 b1), (5, str t1), (6, n6 e1)] (trivial) ?_
      refine rF ?_
      refine cd_seq ?_
      refine cQ [] (True) [(0, p0 lb), (3, p0 b1), (5, str t1), (6, n6 e1), (30, .bool ((e1 : Int) != 0))] (trivial) ?_
      refine cI ((e1 : Int) != 0) (fun h3 => ?_) (fun h3 => ?_)
      · have h3p : (e1 : Int) ≠ 0 := by simpa using h3
        refine cQ [] (True) [(4, n6 e1)] (trivial) ?_
        refine cT [0, 0, 0, 0] [bk lb 126 #[p0 d, str nm, n6 long, u6 nx, .bool br], bk d 123 #[.map (some m), n6 room, n6 st, z6 fu, z6 fa, .bool dn], Lm, Lc] ?_
        refine cd_ret (then_ret (bot_ret (rv [n6 e1] (n6 e1) ?_)))
        refine ⟨e1, long, nx, br, fs, st, fu, fa, dn, Lm, hm, ?_, ?_, rfl⟩
        all_goals first | with_reducible rfl | (exact addL_broken (by assumption); done) | (exact addL_order (by first | assumption | simpa using (by assumption)) (by omega); done) | (exact addL_bytes (by first | assumption | simp_all) (by omega) (by assumption) (by omega); done) | (exact addL_app (by first | assumption | simp_all) (by omega) (by assumption) (by omega) (by assumption) (by omega); done) | (exact addL_syn (by first | assumption | simp_all) (by omega) (by assumption) (by omega) (by assumption) (by omega) (by assumption) (by omega); done) | (exact addL_ok (by first | assumption | simp_all) (by omega) (by assumption) (by omega) (by assumption) (by omega) (by assumption) (by omega); done) | with_reducible assumption | omega | rfl | (simp_all; done) | (simp_all; omega)
      · have h3p : ¬ ((e1 : Int) ≠ 0) := by simpa using h3
        refine cd_skip (then_n ?_)
        refine cd_rg ?_
        refine rQ [(3, .at 0)] [0, 1, 2, 3, 4] [5, 6] ((lb = lb)) [(0, p0 lb), (3, p0 b1), (35, n6 long), (36, str t1)] (rfl) ?_
        refine rC 5 [6] [] [bk lb 126 #[p0 d, str nm, n6 long, u6 nx, .bool br], bk d 123 #[.map (some m), n6 room, n6 st, z6 fu, z6 fa, .bool dn], Lm, Lc, bk b1 32 #[u6 seq, .slice a l.length cap]] (lay_any C long t1 ⟨by first | ((have h9 := append_bounds (M := 1099511627776) (by assumption) hf ha; omega); done) | exact Ok.h {}⟩ ⟨by first | ((have h9 := append_bounds (M := 1099511627776) (by assumption) hf ha; omega); done) | exact Ok.h {}⟩) ?_
        rintro _ _ ⟨rfl, rfl⟩
        refine rQ [] [6] [] (True) [(0, p0 lb), (3, p0 b1), (7, str (layB long t1))] (trivial) ?_
        refine rF ?_
        refine cd_seq ?_
        have hll := layB_len long t1
        refine dr [bk lb 126 #[p0 d, str nm, n6 long, u6 nx, .bool br], Lc, bk b1 32 #[u6 seq, .slice a l.length cap]] [bk d 123 #[.map (some m), n6 room, n6 st, z6 fu, z6 fa, .bool dn], Lm] [1, 1] 11 ?_
        refine aS [(3, .at 0), (7, .at 0)] [0, 4, 8, 1, 5, 2, 6, 3, 7] ((lb = lb) ∧ (lb = lb)) [(0, p0 lb), (3, p0 b1), (7, str (layB long t1)), (41, p0 d), (45, str nm), (46, str (layB long t1))] (bm 11 511) 2 (⟨rfl, rfl⟩) ?_
        refine aI (i := 9) ?_
        refine xC [0, 0] [] [0, 3, 7, 47] (bm 11 1023) (append_any C d m fs room st fu fa dn nm (layB long t1) Lm hm ⟨by first | ((have h9 := append_bounds (M := 1099511627776) (by assumption) hf ha; omega); done) | exact Ok.h {}⟩ ⟨by first | ((have h9 := append_bounds (M := 1099511627776) (by assumption) hf ha; omega); done) | exact Ok.h {}⟩ ⟨by first | ((have h9 := append_bounds (M := 1099511627776) (by assumption) hf ha; omega); done) | exact Ok.h {}⟩ ⟨by first | ((have h9 := append_bounds (M := 1099511627776) (by assumption) hf ha; omega); done) | exact Ok.h {}⟩ ⟨by first | ((have h9 := append_bounds (M := 1099511627776) (by assumption) hf ha; omega); done) | exact Ok.h {}⟩ ⟨by first | ((have h9 := append_bounds (M := 1099511627776) (by assumption) hf ha; omega); done) | exact Ok.h {}⟩ ⟨by first | ((have h9 := append_bounds (M := 1099511627776) (by assumption) hf ha; omega); done) | exact Ok.h {}⟩) ?_
        rintro _ _ ⟨e2, fs1_1, st1_1, fu1_1, fa1_1, dn1_1, L1_1, h4, hf3, rfl, rfl⟩
        refine aS [] [10] (True) [(0, p0 lb), (3, p0 b1), (6, n6 e2), (7, str (layB long t1))] (bm 11 2047) 0 (trivial) ?_
        refine aE [(0, p0 lb), (3, p0 b1), (6, n6 e2), (7, str (layB long t1))] [bk lb 126 #[p0 d, str nm, n6 long, u6 nx, .bool br], Lc, bk b1 32 #[u6 seq, .slice a l.length cap], bk d 123 #[.map (some m), n6 room, n6 st1_1, z6 fu1_1, z6 fa1_1, .bool dn1_1], L1_1] ?_
        refine cQ [] (True) [(0, p0 lb), (3, p0 b1), (6, n6 e2), (7, str (layB long t1)), (49, .bool ((e2 : Int) == 0))] (trivial) ?_
        refine cI ((e2 : Int) == 0) (fun h5 => ?_) (fun h5 => ?_)
        · have h5p : (e2 : Int) = 0 := by simpa using h5
          refine dr0 [bk lb 126 #[p0 d, str nm, n6 long, u6 nx, .bool br], Lc, bk b1 32 #[u6 seq, .slice a l.length cap]] [bk d 123 #[.map (some m), n6 room, n6 st1_1, z6 fu1_1, z6 fa1_1, .bool dn1_1], L1_1] [3, 3] 10 ?_
          refine aS [(3, .at 0), (7, .at 0)] [0, 4, 1, 5, 2, 6, 3, 7] ((lb = lb) ∧ (lb = lb)) [(0, p0 lb), (3, p0 b1), (7, str (layB long t1)), (53, p0 d), (57, str nm)] (bm 10 255) 2 (⟨rfl, rfl⟩) ?_
          refine aI (i := 8) ?_
          refine xC [0, 0] [] [0, 3, 7, 58] (bm 10 511) (sync_any C d m fs1_1 room st1_1 fu1_1 fa1_1 dn1_1 nm L1_1 h4 ⟨by first | ((have h9 := append_bounds (M := 1099511627776) (by assumption) hf ha; omega); done) | exact Ok.h {}⟩ ⟨by first | ((have h9 := append_bounds (M := 1099511627776) (by assumption) hf ha; omega); done) | exact Ok.h {}⟩ ⟨by first | ((have h9 := append_bounds (M := 1099511627776) (by assumption) hf ha; omega); done) | exact Ok.h {}⟩) ?_
          rintro _ _ ⟨e3, fs1_2, st1_2, fu1_2, fa1_2, dn1_2, L1_2, h6, hf4, rfl, rfl⟩
          refine aS [] [9] (True) [(0, p0 lb), (3, p0 b1), (6, n6 e3), (7, str (layB long t1))] (bm 10 1023) 0 (trivial) ?_
          refine aK [0, 0, 0, 0, 0] [(0, p0 lb), (3, p0 b1), (6, n6 e3), (7, str (layB long t1))] [bk lb 126 #[p0 d, str nm, n6 long, u6 nx, .bool br], Lc, bk b1 32 #[u6 seq, .slice a l.length cap], bk d 123 #[.map (some m), n6 room, n6 st1_2, z6 fu1_2, z6 fa1_2, .bool dn1_2], L1_2] ?_
          refine (then_n ?_)
          refine cd_seq ?_
          refine cQ [] (True) [(0, p0 lb), (3, p0 b1), (6, n6 e3), (7, str (layB long t1)), (60, .bool ((e3 : Int) != 0))] (trivial) ?_
          refine cI ((e3 : Int) != 0) (fun h7 => ?_) (fun h7 => ?_)
          · have h7p : (e3 : Int) ≠ 0 := by simpa using h7
            refine cS [(3, .at 0)] ((lb = lb)) [(6, n6 e3)] [bk lb 126 #[p0 d, str nm, n6 long, u6 nx, .bool true], Lc, bk b1 32 #[u6 seq, .slice a l.length cap], bk d 123 #[.map (some m), n6 room, n6 st1_2, z6 fu1_2, z6 fa1_2, .bool dn1_2], L1_2] (rfl) ?_
            refine cQ [] (True) [(4, n6 e3)] (trivial) ?_
            refine cT [0, 2, 2, 0] [bk lb 126 #[p0 d, str nm, n6 long, u6 nx, .bool true], bk d 123 #[.map (some m), n6 room, n6 st1_2, z6 fu1_2, z6 fa1_2, .bool dn1_2], L1_2, Lc] ?_
            refine cd_ret (then_ret (bot_ret (rv [n6 e3] (n6 e3) ?_)))
            refine ⟨e3, long, nx, true, fs1_2, st1_2, fu1_2, fa1_2, dn1_2, L1_2, h6, ?_, ?_, rfl⟩
            all_goals first | with_reducible rfl | (exact addL_broken (by assumption); done) | (exact addL_order (by first | assumption | simpa using (by assumption)) (by omega); done) | (exact addL_bytes (by first | assumption | simp_all) (by omega) (by assumption) (by omega); done) | (exact addL_app (by first | assumption | simp_all) (by omega) (by assumption) (by omega) (by assumption) (by omega); done) | (exact addL_syn (by first | assumption | simp_all) (by omega) (by assumption) (by omega) (by assumption) (by omega) (by assumption) (by omega); done) | (exact addL_ok (by first | assumption | simp_all) (by omega) (by assumption) (by omega) (by assumption) (by omega) (by assumption) (by omega); done) | with_reducible assumption | omega | rfl | (simp_all; done) | (simp_all; omega)
          · have h7p : ¬ ((e3 : Int) ≠ 0) := by simpa using h7
            refine cd_skip (then_n ?_)
            have hbl := bytesB_seq (by assumption) (by omega)
            refine cS [(3, .at 0), (9, .at 0)] ((lb = lb) ∧ (inKind .i64 ((long : Int) + (((layB long t1).length : Nat) : Int))) ∧ (lb = lb)) [(0, p0 lb), (3, p0 b1)] [bk lb 126 #[p0 d, str nm, n6 (long + ((layB long t1).length)), u6 nx, .bool br], Lc, bk b1 32 #[u6 seq, .slice a l.length cap], bk d 123 #[.map (some m), n6 room, n6 st1_2, z6 fu1_2, z6 fa1_2, .bool dn1_2], L1_2] (⟨rfl, inK_i64 (by omega), rfl⟩) ?_
            refine cd_rg ?_
            refine rQ [(1, .at 2)] [0, 1] [2, 3, 4, 5] ((b1 = b1)) [(74, p0 lb), (75, .agg #[u6 seq, .slice a l.length cap])] (rfl) ?_
            refine rC 2 [3, 4, 5] [] [bk lb 126 #[p0 d, str nm, n6 (long + ((layB long t1).length)), u6 nx, .bool br], Lc, bk b1 32 #[u6 seq, .slice a l.length cap], bk d 123 #[.map (some m), n6 room, n6 st1_2, z6 fu1_2, z6 fa1_2, .bool dn1_2], L1_2] (next_any C seq a l.length cap ⟨by first | ((have h9 := append_bounds (M := 1099511627776) (by assumption) hf ha; omega); done) | exact Ok.h {}⟩ ⟨by first | ((have h9 := append_bounds (M := 1099511627776) (by assumption) hf ha; omega); done) | exact Ok.h {}⟩) ?_
            rintro _ _ ⟨rfl, rfl⟩
            refine rS [(5, .at 0)] [3, 4, 5] [] ((lb = lb)) [] [bk lb 126 #[p0 d, str nm, n6 (long + ((layB long t1).length)), u6 (seq + l.length), .bool br], Lc, bk b1 32 #[u6 seq, .slice a l.length cap], bk d 123 #[.map (some m), n6 room, n6 st1_2, z6 fu1_2, z6 fa1_2, .bool dn1_2], L1_2] (rfl) ?_
            refine rF ?_
            refine cQ [] (True) [(4, z6 0)] (trivial) ?_
            refine cT [0, 2, 2, 0] [bk lb 126 #[p0 d, str nm, n6 (long + ((layB long t1).length)), u6 (seq + l.length), .bool br], bk d 123 #[.map (some m), n6 room, n6 st1_2, z6 fu1_2, z6 fa1_2, .bool dn1_2], L1_2, Lc] ?_
            refine cd_ret (bot_ret (rv [z6 0] (z6 0) ?_))
            refine ⟨0, long + ((layB long t1).length), seq + l.length, br, fs1_2, st1_2, fu1_2, fa1_2, dn1_2, L1_2, h6, ?_, ?_, rfl⟩
            all_goals first | with_reducible rfl | (exact addL_broken (by assumption); done) | (exact addL_order (by first | assumption | simpa using (by assumption)) (by omega); done) | (exact addL_bytes (by first | assumption | simp_all) (by omega) (by assumption) (by omega); done) | (exact addL_app (by first | assumption | simp_all) (by omega) (by assumption) (by omega) (by assumption) (by omega); done) | (exact addL_syn (by first | assumption | simp_all) (by omega) (by assumption) (by omega) (by assumption) (by omega) (by assumption) (by omega); done) | (exact addL_ok (by first | assumption | simp_all) (by omega) (by assumption) (by omega) (by assumption) (by omega) (by assumption) (by omega); done) | with_reducible assumption | omega | rfl | (simp_all; done) | (simp_all; omega)
        · have h5p : ¬ ((e2 : Int) = 0) := by simpa using h5
          refine cd_skip (then_n ?_)
          refine cd_seq ?_
          refine cQ [] (True) [(0, p0 lb), (3, p0 b1), (6, n6 e2), (7, str (layB long t1)), (60, .bool ((e2 : Int) != 0))] (trivial) ?_
          refine cI ((e2 : Int) != 0) (fun h8 => ?_) (fun h8 => ?_)
          · have h8p : (e2 : Int) ≠ 0 := by simpa using h8
            refine cS [(3, .at 0)] ((lb = lb)) [(6, n6 e2)] [bk lb 126 #[p0 d, str nm, n6 long, u6 nx, .bool true], Lc, bk b1 32 #[u6 seq, .slice a l.length cap], bk d 123 #[.map (some m), n6 room, n6 st1_1, z6 fu1_1, z6 fa1_1, .bool dn1_1], L1_1] (rfl) ?_
            refine cQ [] (True) [(4, n6 e2)] (trivial) ?_
            refine cT [0, 2, 2, 0] [bk lb 126 #[p0 d, str nm, n6 long, u6 nx, .bool true], bk d 123 #[.map (some m), n6 room, n6 st1_1, z6 fu1_1, z6 fa1_1, .bool dn1_1], L1_1, Lc] ?_
            refine cd_ret (then_ret (bot_ret (rv [n6 e2] (n6 e2) ?_)))
            refine ⟨e2, long, nx, true, fs1_1, st1_1, fu1_1, fa1_1, dn1_1, L1_1, h4, ?_, ?_, rfl⟩
            all_goals first | with_reducible rfl | (exact addL_broken (by assumption); done) | (exact addL_order (by first | assumption | simpa using (by assumption)) (by omega); done) | (exact addL_bytes (by first | assumption | simp_all) (by omega) (by assumption) (by omega); done) | (exact addL_app (by first | assumption | simp_all) (by omega) (by assumption) (by omega) (by assumption) (by omega); done) | (exact addL_syn (by first | assumption | simp_all) (by omega) (by assumption) (by omega) (by assumption) (by omega) (by assumption) (by omega); done) | (exact addL_ok (by first | assumption | simp_all) (by omega) (by assumption) (by omega) (by assumption) (by omega) (by assumption) (by omega); done) | with_reducible assumption | omega | rfl | (simp_all; done) | (simp_all; omega)
          · have h8p : ¬ ((e2 : Int) ≠ 0) := by simpa using h8
            refine cd_skip (then_n ?_)
            have hbl := bytesB_seq (by assumption) (by omega)
            refine cS [(3, .at 0), (9, .at 0)] ((lb = lb) ∧ (inKind .i64 ((long : Int) + (((layB long t1).length : Nat) : Int))) ∧ (lb = lb)) [(0, p0 lb), (3, p0 b1)] [bk lb 126 #[p0 d, str nm, n6 (long + ((layB long t1).length)), u6 nx, .bool br], Lc, bk b1 32 #[u6 seq, .slice a l.length cap], bk d 123 #[.map (some m), n6 room, n6 st1_1, z6 fu1_1, z6 fa1_1, .bool dn1_1], L1_1] (⟨rfl, inK_i64 (by omega), rfl⟩) ?_
            refine cd_rg ?_
            refine rQ [(1, .at 2)] [0, 1] [2, 3, 4, 5] ((b1 = b1)) [(74, p0 lb), (75, .agg #[u6 seq, .slice a l.length cap])] (rfl) ?_
            refine rC 2 [3, 4, 5] [] [bk lb 126 #[p0 d, str nm, n6 (long + ((layB long t1).length)), u6 nx, .bool br], Lc, bk b1 32 #[u6 seq, .slice a l.length cap], bk d 123 #[.map (some m), n6 room, n6 st1_1, z6 fu1_1, z6 fa1_1, .bool dn1_1], L1_1] (next_any C seq a l.length cap ⟨by first | ((have h9 := append_bounds (M := 1099511627776) (by assumption) hf ha; omega); done) | exact Ok.h {}⟩ ⟨by first | ((have h9 := append_bounds (M := 1099511627776) (by assumption) hf ha; omega); done) | exact Ok.h {}⟩) ?_
            rintro _ _ ⟨rfl, rfl⟩
            refine rS [(5, .at 0)] [3, 4, 5] [] ((lb = lb)) [] [bk lb 126 #[p0 d, str nm, n6 (long + ((layB long t1).length)), u6 (seq + l.length), .bool br], Lc, bk b1 32 #[u6 seq, .slice a l.length cap], bk d 123 #[.map (some m), n6 room, n6 st1_1, z6 fu1_1, z6 fa1_1, .bool dn1_1], L1_1] (rfl) ?_
            refine rF ?_
            refine cQ [] (True) [(4, z6 0)] (trivial) ?_
            refine cT [0, 2, 2, 0] [bk lb 126 #[p0 d, str nm, n6 (long + ((layB long t1).length)), u6 (seq + l.length), .bool br], bk d 123 #[.map (some m), n6 room, n6 st1_1, z6 fu1_1, z6 fa1_1, .bool dn1_1], L1_1, Lc] ?_
            refine cd_ret (bot_ret (rv [z6 0] (z6 0) ?_))
            refine ⟨0, long + ((layB long t1).length), seq + l.length, br, fs1_1, st1_1, fu1_1, fa1_1, dn1_1, L1_1, h4, ?_, ?_, rfl⟩
            all_goals first | with_reducible rfl | (exact addL_broken (by assumption); done) | (exact addL_order (by first | assumption | simpa using (by assumption)) (by omega); done) | (exact addL_bytes (by first | assumption | simp_all) (by omega) (by assumption) (by omega); done) | (exact addL_app (by first | assumption | simp_all) (by omega) (by assumption) (by omega) (by assumption) (by omega); done) | (exact addL_syn (by first | assumption | simp_all) (by omega) (by assumption) (by omega) (by assumption) (by omega) (by assumption) (by omega); done) | (exact addL_ok (by first | assumption | simp_all) (by omega) (by assumption) (by omega) (by assumption) (by omega) (by assumption) (by omega); done) | with_reducible assumption | omega | rfl | (simp_all; done) | (simp_all; omega)

set_option maxRecDepth 100000 in
theorem walLoad_any (C : Ctx) (d : Nat) (m : Nat) (fs : Files) (room : Nat) (st : Nat) (fu : Int) (fa : Int) (dn : Bool) (n : Nat) (Lm : Blks) (hm : MapL fileV m fs Lm) (hn : Ok (n < 100)) (hfl : Ok (∀ k, (getF fs k).s.length ≤ 1073741824)) :
    FnT Tryz.prog C 26 #[p0 d, u6 n] [bk d 123 #[.map (some m), n6 room, n6 st, z6 fu, z6 fa, .bool dn], Lm] (fun rv_ rL_ => ∃ bs : List Bt, ∃ a : Option Addr, ∃ cap : Nat, ∃ Lr : Blks, ∃ LB1 : Blks, ∃ e : Nat, (Row 32 2 a bs.length cap (bs.flatMap btv) Lr) ∧ (BtsIn C LB1 bs) ∧ (bs.map Bt.bat = if e = 0 then batches (Dsk.read ⟨fs, room, st, fu, fa, dn⟩ (nameF [108] n)).1 else []) ∧ ((Dsk.read ⟨fs, room, st, fu, fa, dn⟩ (nameF [108] n)).2 = e) ∧ rv_ = .tuple #[.slice a bs.length cap, n6 e] ∧ rL_ = [Lr, LB1, bk d 123 #[.map (some m), n6 room, n6 st, z6 fu, z6 fa, .bool dn], Lm]) := by
  replace hn := hn.h
  replace hfl := hfl.h
  refine fE 21 Tryz.func26 rfl ?_
  refine cQ [] (True) [(0, p0 d), (1, u6 n)] (trivial) ?_
  refine cd_rg ?_
  refine rQ [] [0, 1] [2, 3, 4, 5, 6, 7, 8] (True) [(9, p0 d), (10, u6 n)] (trivial) ?_
  refine rC 2 [3, 4, 5, 6, 7, 8] [] [bk d 123 #[.map (some m), n6 room, n6 st, z6 fu, z6 fa, .bool dn], Lm] (name_any C [108] n ⟨by first | ((simp; omega); done) | exact Ok.h {}⟩ ⟨by first | ((simp; omega); done) | exact Ok.h {}⟩) ?_
  rintro _ _ ⟨rfl, rfl⟩
  refine rC 3 [4, 5, 6, 7, 8] [0, 0] [] (dread_any C d m fs room st fu fa dn (nameF [108] n) Lm hm) ?_
  rintro _ _ ⟨t1, e1, hf1, rfl, rfl⟩
  refine rQ [] [4, 5, 6, 7, 8] [] (True) [(6, str t1), (7, n6 e1)] (trivial) ?_
  refine rF ?_
  refine cd_seq ?_
  refine cQ [] (True) [(6, str t1), (7, n6 e1), (16, .bool ((e1 : Int) != 0))] (trivial) ?_
  refine cI ((e1 : Int) != 0) (fun h1 => ?_) (fun h1 => ?_)
  · have h1p : (e1 : Int) ≠ 0 := by simpa using h1
    refine cQ [] (True) [(4, .slice none 0 0), (5, n6 e1)] (trivial) ?_
    refine cd_more ?_
    refine cd_more ?_
    refine cT [2, 2, 0, 0] [[], [], bk d 123 #[.map (some m), n6 room, n6 st, z6 fu, z6 fa, .bool dn], Lm] ?_
    refine cd_ret (then_ret (bot_ret (rv [.slice none 0 0, n6 e1] (.tuple #[.slice none 0 0, n6 e1]) ?_)))
    refine ⟨[], none, 0, [], [], e1, (Row.nil 32 2), (BtsIn.nil C []), ?_, ?_, ?_, rfl⟩
    all_goals first | with_reducible rfl | ((rw [if_neg (by omega)]; rfl); done) | ((rw [hf1, if_pos (by first | rfl | omega)]; assumption); done) | (rw [hf1]; done) | ((rw [hf1]; omega); done) | with_reducible assumption | omega | rfl | (simp_all; done) | (simp_all; omega)
  · have h1p : ¬ ((e1 : Int) ≠ 0) := by simpa using h1
    refine cd_skip (then_n ?_)
    have htl := read_len (by assumption) hfl
    refine cd_rg ?_
    refine rQ [] [0] [1, 2, 3, 4] (True) [(18, str t1)] (trivial) ?_
    refine rC 1 [2, 3, 4] [] [bk d 123 #[.map (some m), n6 room, n6 st, z6 fu, z6 fa, .bool dn], Lm] (walRead_fn C t1) ?_
    rintro _ _ ⟨b1, rfl, rfl⟩
    refine rC 2 [3, 4] [0] [bk d 123 #[.map (some m), n6 room, n6 st, z6 fu, z6 fa, .bool dn], Lm] (collect_any C 48 #[] #[p0 b1] (Tells (batches t1)) (fun (pre : List Bat) => pre = batches t1) (bk b1 9 #[str t1]) ⟨by kernel_rfl⟩ ⟨by exact walRead_iter C t1 b1 (by omega)⟩ ⟨by intro pre x hN; have := hN.len; have := batches_count t1; omega⟩) ?_
    rintro _ _ ⟨bs1, a1, cap1, L1_1, LB1_1, h2, h3, (hf2 : (fun (pre : List Bat) => pre = batches t1) (bs1.map Bt.bat)), rfl, rfl⟩
    refine rQ [] [3, 4] [] (True) [(4, .slice a1 bs1.length cap1), (5, z6 0)] (trivial) ?_
    refine rF ?_
    refine cT [0, 0, 1, 1] [L1_1, LB1_1, bk d 123 #[.map (some m), n6 room, n6 st, z6 fu, z6 fa, .bool dn], Lm] ?_
    refine cd_ret (bot_ret (rv [.slice a1 bs1.length cap1, z6 0] (.tuple #[.slice a1 bs1.length cap1, z6 0]) ?_))
    refine ⟨bs1, a1, cap1, L1_1, LB1_1, 0, h2, h3, ?_, ?_, ?_, rfl⟩
    all_goals first | with_reducible rfl | ((rw [if_neg (by omega)]; rfl); done) | ((rw [hf1, if_pos (by first | rfl | omega)]; assumption); done) | (rw [hf1]; done) | ((rw [hf1]; omega); done) | with_reducible assumption | omega | rfl | (simp_all; done) | (simp_all; omega)

set_option maxRecDepth 100000 in
theorem whole_any (C : Ctx) (log : List UInt8) (hl : Ok (log.length ≤ 1073741824)) :
    FnT Tryz.prog C 143 #[str log] [] (fun rv_ rL_ => rv_ = n6 (lastTo (recs log)) ∧ rL_ = []) := by
  replace hl := hl.h
  refine fE 12 Tryz.func143 rfl ?_
  refine cQ [] (True) [(0, str log)] (trivial) ?_
  refine cd_rg ?_
  refine rQ [] [] [0, 1] (True) [(0, str log)] (trivial) ?_
  refine rN 0 [1] (.cells #[z6 0] 3 (0, 0)) p0 (fun b1 => ?_)
  refine rS [(1, .at 0)] [1] [] ((b1 = b1)) [(0, str log), (3, p0 b1)] [bk b1 3 #[z6 0]] (rfl) ?_
  refine rF ?_
  refine cd_seq ?_
  refine cd_rg ?_
  refine rQ [] [0] [1] (True) [(3, p0 b1), (6, str log)] (trivial) ?_
  refine rC 1 [] [] [bk b1 3 #[z6 0]] (records_fn C log) ?_
  rintro _ _ ⟨b2, rfl, rfl⟩
  refine rD [(3, p0 b1), (7, .func (.func 93) #[] #[p0 b2])] ?_
  refine cd_block ?_
  refine cd_rangeFunc (α := List UInt8 × Nat) (fun (pre_ : List (List UInt8 × Nat)) L => ∃ q : Nat, L = [bk b1 3 #[n6 q]] ∧ (q = lastTo pre_)) (fun (e : Exit) (L : List Blks) => False) [1] [0] [bk b1 3 #[z6 0]] [] [bk b2 9 #[str log]] (records_iter C log b2 (by omega)) (by kernel_rfl) (by kernel_rfl) (by kernel_rfl) (by kernel_rfl) (by kernel_rfl) (⟨0, rfl, show 0 = lastTo [] from rfl⟩) ?_ ?_ ?_
  · rintro l_ pre x ar X L hN ⟨rfl, rfl⟩ ⟨q, rfl, hI⟩
    refine ⟨rfl, ?_⟩
    refine cE [(3, p0 b1), (9, n6 x.2)] [[], bk b1 3 #[n6 q]] ?_
    have hxl := recs_len hN.mem
    refine cQ0 [] (True) [(3, p0 b1), (5, n6 x.2)] (trivial) ?_
    refine (body_n ?_)
    refine cd_block ?_
    refine cd_region ?_
    refine rS [(1, .at 1)] [0, 1] [] ((b1 = b1)) [] [[], bk b1 3 #[n6 x.2]] (rfl) ?_
    refine rT [1] [bk b1 3 #[n6 x.2]] ?_
    refine rg_nil ?_
    refine (block_n (round_n ⟨x.2, rfl, show x.2 = lastTo (pre ++ [x]) from (lastTo_push pre x).symm⟩))
  · rintro r1 pre _ hZ ⟨q, rfl, hI⟩
    show ∀ a, Agr _ _ _ a → _
    refine (block_n (then_n ?_))
    refine cQ [(0, .at 0)] ((b1 = b1)) [(2, n6 q)] (rfl) ?_
    refine cd_ret (bot_ret (ret_mark 2 r1 (by kernel_rfl) (rvD [n6 q] (n6 q) [] [] ?_)))
    refine ⟨?_, rfl⟩
    all_goals first | with_reducible rfl | (rw [hI, hZ]; done) | with_reducible assumption | omega | rfl | (simp_all; done) | (simp_all; omega)
  · rintro r e L h; exact h.elim

set_option maxRecDepth 100000 in
theorem awake05_1 (C : Ctx)  :
    FnT Tryz.prog C 86 #[] [] (fun rv_ rL_ => rv_ = .bool true ∧ rL_ = []) := by
  refine fE 14 Tryz.func86 rfl ?_
  refine cQ [] (True) [] (trivial) ?_
  refine cd_rg ?_
  refine rQ [] [] [0, 1] (True) [] (trivial) ?_
  refine rC 0 [1] [] [] (lay_any C 0 [104, 105] {} {}) ?_
  rintro _ _ ⟨rfl, rfl⟩
  refine rQ [] [1] [] (True) [(1, str (layB 0 [104, 105]))] (trivial) ?_
  refine rF ?_
  refine cd_seq ?_
  rw [lay_hi]
  refine cQ [] (True) [(1, str [139, 110, 172, 224, 2, 0, 1, 104, 105]), (5, .bool false)] (trivial) ?_
  refine cNo ?_
  refine cd_skip (then_n ?_)
  refine cd_rg ?_
  refine rQ [] [0, 1, 2, 3] [4, 5, 6, 7, 8] ((0 ≤ (4 : Int) ∧ (4 : Int) ≤ ([139, 110, 172, 224, 2, 0, 1, 104, 105].length : Int) ∧ ([139, 110, 172, 224, 2, 0, 1, 104, 105].length : Int) ≤ ([139, 110, 172, 224, 2, 0, 1, 104, 105].length : Int))) [(1, str [139, 110, 172, 224, 2, 0, 1, 104, 105]), (9, .bool ((([139, 110, 172, 224, 2, 0, 1, 104, 105].take [139, 110, 172, 224, 2, 0, 1, 104, 105].length).drop 4) == [2, 0, 1, 104, 105]))] (⟨by omega, by simp, by simp⟩) ?_
  refine rg_join2 [8] [(13, .bool (((([139, 110, 172, 224, 2, 0, 1, 104, 105].take [139, 110, 172, 224, 2, 0, 1, 104, 105].length).drop 4) == [2, 0, 1, 104, 105]) && (((lastTo (recs [139, 110, 172, 224, 2, 0, 1, 104, 105]) : Nat) : Int) == 9)))] [] (fun hj => ?_) ?_
  · refine rI 9 ((([139, 110, 172, 224, 2, 0, 1, 104, 105].take [139, 110, 172, 224, 2, 0, 1, 104, 105].length).drop 4) == [2, 0, 1, 104, 105]) (fun g1 => ?_) (fun g1 => ?_)
    · have g1p : (([139, 110, 172, 224, 2, 0, 1, 104, 105].take [139, 110, 172, 224, 2, 0, 1, 104, 105].length).drop 4) = [2, 0, 1, 104, 105] := by simp
      refine rQ [] [4] [5, 6, 7, 8] (True) [(9, .bool true), (10, str [139, 110, 172, 224, 2, 0, 1, 104, 105])] (trivial) ?_
      refine rC 5 [6, 7, 8] [] [] (whole_any C [139, 110, 172, 224, 2, 0, 1, 104, 105] {}) ?_
      rintro _ _ ⟨rfl, rfl⟩
      refine rQ [] [6, 7] [8] (True) [(13, .bool (((lastTo (recs [139, 110, 172, 224, 2, 0, 1, 104, 105]) : Nat) : Int) == 9))] (trivial) ?_
      refine rP 13 (.bool (((lastTo (recs [139, 110, 172, 224, 2, 0, 1, 104, 105]) : Nat) : Int) == 9)) (.bool (((([139, 110, 172, 224, 2, 0, 1, 104, 105].take [139, 110, 172, 224, 2, 0, 1, 104, 105].length).drop 4) == [2, 0, 1, 104, 105]) && (((lastTo (recs [139, 110, 172, 224, 2, 0, 1, 104, 105]) : Nat) : Int) == 9))) (by first | (rw [show ((([139, 110, 172, 224, 2, 0, 1, 104, 105].take [139, 110, 172, 224, 2, 0, 1, 104, 105].length).drop 4) == [2, 0, 1, 104, 105]) = true from g1]; done) | (rw [show ((([139, 110, 172, 224, 2, 0, 1, 104, 105].take [139, 110, 172, 224, 2, 0, 1, 104, 105].length).drop 4) == [2, 0, 1, 104, 105]) = true from g1]; rfl)) ?_
      exact rM hj
    · have g1p : ¬ ((([139, 110, 172, 224, 2, 0, 1, 104, 105].take [139, 110, 172, 224, 2, 0, 1, 104, 105].length).drop 4) = [2, 0, 1, 104, 105]) := by simp at g1
      refine rQ [] [4, 5, 6, 7] [8] (True) [(13, .bool false)] (trivial) ?_
      refine rP 13 (.bool false) (.bool (((([139, 110, 172, 224, 2, 0, 1, 104, 105].take [139, 110, 172, 224, 2, 0, 1, 104, 105].length).drop 4) == [2, 0, 1, 104, 105]) && (((lastTo (recs [139, 110, 172, 224, 2, 0, 1, 104, 105]) : Nat) : Int) == 9))) (by first | (rw [show ((([139, 110, 172, 224, 2, 0, 1, 104, 105].take [139, 110, 172, 224, 2, 0, 1, 104, 105].length).drop 4) == [2, 0, 1, 104, 105]) = false from g1]; done) | (rw [show ((([139, 110, 172, 224, 2, 0, 1, 104, 105].take [139, 110, 172, 224, 2, 0, 1, 104, 105].length).drop 4) == [2, 0, 1, 104, 105]) = false from g1]; rfl)) ?_
      exact rM hj
  refine rQ [] [8] [] (True) [(0, .bool (((([139, 110, 172, 224, 2, 0, 1, 104, 105].take [139, 110, 172, 224, 2, 0, 1, 104, 105].length).drop 4) == [2, 0, 1, 104, 105]) && (((lastTo (recs [139, 110, 172, 224, 2, 0, 1, 104, 105]) : Nat) : Int) == 9)))] (trivial) ?_
  refine rF ?_
  refine cd_ret (bot_ret (rv [.bool (((([139, 110, 172, 224, 2, 0, 1, 104, 105].take [139, 110, 172, 224, 2, 0, 1, 104, 105].length).drop 4) == [2, 0, 1, 104, 105]) && (((lastTo (recs [139, 110, 172, 224, 2, 0, 1, 104, 105]) : Nat) : Int) == 9))] (.bool (((([139, 110, 172, 224, 2, 0, 1, 104, 105].take [139, 110, 172, 224, 2, 0, 1, 104, 105].length).drop 4) == [2, 0, 1, 104, 105]) && (((lastTo (recs [139, 110, 172, 224, 2, 0, 1, 104, 105]) : Nat) : Int) == 9))) ?_))
  refine ⟨?_, rfl⟩
  all_goals first | with_reducible rfl | (kernel_rfl; done) | with_reducible assumption | omega | rfl | (simp_all; done) | (simp_all; omega)

set_option maxRecDepth 100000 in
theorem awake05 (C : Ctx)  :
    FnT Tryz.prog C 46 #[] [] (fun rv_ rL_ => rv_ = .bool true ∧ rL_ = []) := by
  refine fE 2 Tryz.func46 rfl ?_
  refine cQ [] (True) [] (trivial) ?_
  refine cd_rg ?_
  refine rQ [] [] [0, 1] (True) [] (trivial) ?_
  refine rC 0 [1] [] [] (awake05_1 C) ?_
  rintro _ _ ⟨rfl, rfl⟩
  refine rQ [] [1] [] (True) [(0, .bool true)] (trivial) ?_
  refine rF ?_
  refine cd_ret (bot_ret (rv [.bool true] (.bool true) ?_))
  refine ⟨?_, rfl⟩
  all_goals first | with_reducible rfl | (skip; done) | with_reducible assumption | omega | rfl | (simp_all; done) | (simp_all; omega)
end Go.Proofs
