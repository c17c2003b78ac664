/- Walks: the disk. No condition. -/
import Derived.Test.YtooncojgfdcjeaaGreatDoorH1
import Derived.Test.YtooncojgfdcjeaaGreatDoorProg
namespace Go.Proofs
open Go Go.Sep
set_option maxRecDepth 100000 in
theorem list_nil (C : Ctx)  :
    FnT Tryz.prog C 60 #[.pointer none] [] (fun rv_ rL_ => rv_ = .slice none 0 0 ∧ rL_ = []) := by
  refine fE 11 Tryz.func60 rfl ?_
  refine cQ [] (True) [(0, .pointer none)] (trivial) ?_
  refine cd_seq ?_
  refine cQ [] (True) [(0, .pointer none), (4, .bool true)] (trivial) ?_
  refine cYes ?_
  refine cQ [] (True) [(2, .slice none 0 0)] (trivial) ?_
  refine cd_ret (then_ret (bot_ret (rv [.slice none 0 0] (.slice none 0 0) ?_)))
  refine ⟨?_, rfl⟩
  all_goals first | with_reducible rfl | (skip; done) | with_reducible assumption | omega | rfl | (simp_all; done) | (simp_all; omega)

set_option maxRecDepth 100000 in
theorem list_any (C : Ctx) (d : Nat) (m : Nat) (fs : Files) (room : Nat) (st : Nat) (fu : Int) (fa : Int) (dn : Bool) (Lm : Blks) (hm : MapL fileV m fs Lm) (h12 : Ok (fs.length ≤ 12)) :
    FnT Tryz.prog C 60 #[p0 d] [bk d 123 #[.map (some m), n6 room, n6 st, z6 fu, z6 fa, .bool dn], Lm] (fun rv_ rL_ => ∃ ks : Strs, ∃ a : Option Addr, ∃ cap : Nat, ∃ L1 : Blks, (RowZ 9 1 a ks.length cap (ks.flatMap strv) L1) ∧ (ks.Perm (fs.map Prod.fst) ∧ Sorted ks) ∧ rv_ = .slice a ks.length cap ∧ rL_ = [L1, bk d 123 #[.map (some m), n6 room, n6 st, z6 fu, z6 fa, .bool dn], Lm]) := by
  replace h12 := h12.h
  refine fE 11 Tryz.func60 rfl ?_
  refine cQ [] (True) [(0, p0 d)] (trivial) ?_
  refine cd_seq ?_
  refine cQ [] (True) [(0, p0 d), (4, .bool false)] (trivial) ?_
  refine cNo ?_
  refine cd_skip (then_n ?_)
  refine cd_rg ?_
  refine rQ [(3, .at 0)] [0, 1, 2, 3] [4, 5, 6] ((d = d)) [(8, .map (some m))] (rfl) ?_
  refine rC 4 [5, 6] [] [bk d 123 #[.map (some m), n6 room, n6 st, z6 fu, z6 fa, .bool dn], Lm] (keys_fn C m) ?_
  rintro _ _ ⟨b1, rfl, rfl⟩
  refine rC 5 [6] [0, 1] [bk d 123 #[.map (some m), n6 room, n6 st, z6 fu, z6 fa, .bool dn]] (sorted_any C 164 #[] #[p0 b1] (KeysN fs) (fun (pre : Strs) => pre.Perm (fs.map Prod.fst)) (bk b1 121 #[.map (some m)]) Lm ⟨by kernel_rfl⟩ ⟨by exact keys_iter C fs m b1 Lm hm⟩ ⟨by intro pre x hN; have := hN.len; omega⟩ ⟨by exact fun l h => by have := h.length_eq; simp at this; omega⟩) ?_
  rintro _ _ ⟨l1, a1, cap1, L1_1, h1, (hf1 : ∃ l0, (fun (pre : Strs) => pre.Perm (fs.map Prod.fst)) l0 ∧ l1.Perm l0 ∧ Sorted l1), rfl, rfl⟩
  refine rQ [] [6] [] (True) [(2, .slice a1 l1.length cap1)] (trivial) ?_
  refine rF ?_
  refine cT [0, 2, 1] [L1_1, bk d 123 #[.map (some m), n6 room, n6 st, z6 fu, z6 fa, .bool dn], Lm] ?_
  refine cd_ret (bot_ret (rv [.slice a1 l1.length cap1] (.slice a1 l1.length cap1) ?_))
  refine ⟨l1, a1, cap1, L1_1, h1, ?_, ?_, rfl⟩
  all_goals first | with_reducible rfl | (obtain ⟨l0, z1, z2, z3⟩ := hf1; exact ⟨z2.trans z1, z3⟩; done) | with_reducible assumption | omega | rfl | (simp_all; done) | (simp_all; omega)

set_option maxRecDepth 100000 in
theorem used_any (C : Ctx) (d : Nat) (m : Nat) (fs : Files) (room : Nat) (st : Nat) (fu : Int) (fa : Int) (dn : Bool) (Lm : Blks) (hm : MapL fileV m fs Lm) (h12 : Ok (fs.length ≤ 12)) (hu : Ok (usedF fs ≤ 1099511627776)) :
    FnT Tryz.prog C 115 #[p0 d] [bk d 123 #[.map (some m), n6 room, n6 st, z6 fu, z6 fa, .bool dn], Lm] (fun rv_ rL_ => rv_ = n6 (usedF fs) ∧ rL_ = [bk d 123 #[.map (some m), n6 room, n6 st, z6 fu, z6 fa, .bool dn], Lm]) := by
  replace h12 := h12.h
  replace hu := hu.h
  refine fE 25 Tryz.func115 rfl ?_
  refine cQ [] (True) [(0, p0 d)] (trivial) ?_
  refine cQ [] (True) [(0, p0 d), (3, z6 0)] (trivial) ?_
  refine cd_seq ?_
  refine cd_rg ?_
  refine rQ [] [0] [1, 2, 3] (True) [(0, p0 d), (3, z6 0), (6, p0 d)] (trivial) ?_
  refine rC 1 [2, 3] [0, 0] [] (list_any C d m fs room st fu fa dn Lm hm {}) ?_
  rintro _ _ ⟨ks1, a1, cap1, L1_1, h1, hf1, rfl, rfl⟩
  refine rQ [] [2, 3] [] (True) [(0, p0 d), (3, z6 0), (7, .slice a1 ks1.length cap1), (8, n6 ks1.length), (9, z6 0)] (trivial) ?_
  refine rF ?_
  refine cd_block ?_
  refine lp (fun x : Nat × Nat => [(0, p0 d), (3, n6 x.1), (7, .slice a1 ks1.length cap1), (8, n6 ks1.length), (9, n6 x.2)]) (fun x : Nat × Nat => [L1_1, bk d 123 #[.map (some m), n6 room, n6 st, z6 fu, z6 fa, .bool dn], Lm]) (fun x : Nat × Nat => UsedInv fs ks1 x.2 x.1) (fun x : Nat × Nat => ks1.length - x.2) ((0, 0)) (show UsedInv fs ks1 0 0 from UsedInv.start fs ks1) ?_
  rintro ⟨n, i⟩ hI
  replace hI : UsedInv fs ks1 i n := hI
  have hle := hI.le hm.nodup hf1.1
  have hil := hI.2
  have hkl := hf1.1.length_eq
  simp only [List.length_map] at hkl
  refine cQ [] (True) [(0, p0 d), (3, n6 n), (7, .slice a1 ks1.length cap1), (8, n6 ks1.length), (9, n6 i), (10, .bool (decide ((i : Int) < (ks1.length : Int))))] (trivial) ?_
  refine cd_seq ?_
  refine cI (decide ((i : Int) < (ks1.length : Int))) (fun h2 => ?_) (fun h2 => ?_)
  · have h2p : (i : Int) < (ks1.length : Int) := by simpa using h2
    refine cd_skip (then_n ?_)
    refine cd_seq ?_
    refine cd_block ?_
    obtain ⟨b1, o1, ha1⟩ := ((Row.seesL (C := C) (l := ks1) (enc := strv) (RowG.row h1) rfl rfl (fun _ => rfl) (by decide))).addr (by first | omega | (simp at *; omega))
    subst ha1
    obtain ⟨x1, hx1⟩ : ∃ x, ks1[i]? = some x := ⟨_, List.getElem?_eq_getElem (by first | omega | (simp at *; omega))⟩
    refine cQ [(1, .fact (str x1))] ((0 ≤ (i : Int) ∧ (i : Int) < (ks1.length : Int)) ∧ (HasLoad Tryz.prog C [L1_1, bk d 123 #[.map (some m), n6 room, n6 st, z6 fu, z6 fa, .bool dn], Lm] 9 ⟨b1, o1 + i * 1, none⟩ (str x1))) [(0, p0 d), (3, n6 n), (5, str x1), (7, .slice (some ⟨b1, o1, none⟩) ks1.length cap1), (8, n6 ks1.length), (9, n6 i)] (⟨⟨by omega, by omega⟩, ((Row.seesL (C := C) (l := ks1) (enc := strv) (RowG.row h1) rfl rfl (fun _ => rfl) (by decide))).elem (P := Tryz.prog) (by intro p hp; simp [hp]) 9 i hx1 (by kernel_rfl) (by kernel_rfl) (by first | exact .inl ⟨by kernel_rfl, rfl⟩ | exact .inr ⟨by kernel_rfl, rfl⟩)⟩) ?_
    refine cd_region ?_
    refine rQ [(4, .at 1)] [0, 1, 2, 3, 4, 5] [6, 7, 8, 9, 10] ((d = d)) [(0, p0 d), (7, .slice (some ⟨b1, o1, none⟩) ks1.length cap1), (8, n6 ks1.length), (9, n6 i), (13, n6 n), (17, .map (some m)), (18, str x1)] (rfl) ?_
    refine rX 6 [7, 8, 9, 10] (do pure (.value (← Instr.lookup 121 (.map (some m)) (str x1) false))) [2] [Lm] [L1_1, bk d 123 #[.map (some m), n6 room, n6 st, z6 fu, z6 fa, .bool dn]] (gv_lookup (enc := fileV) x1 (⟨[], 0⟩ : FileS) (by kernel_rfl) (by kernel_rfl) hm) ?_
    rintro _ _ ⟨rfl, rfl⟩
    refine rQ [] [7, 8, 9, 10] [] ((inKind .i64 ((n : Int) + ((((getF fs x1).s).length : Nat) : Int)))) [(0, p0 d), (3, n6 (n + (((getF fs x1).s).length))), (7, .slice (some ⟨b1, o1, none⟩) ks1.length cap1), (8, n6 ks1.length), (9, n6 i)] (inK_i64 (by have := (hI.next hx1).le hm.nodup hf1.1; omega)) ?_
    refine rg_nil ?_
    refine (block_n (then_n ?_))
    refine cd_region ?_
    refine rQ [] [0, 1] [] ((inKind .i64 ((i : Int) + 1))) [(0, p0 d), (3, n6 (n + (((getF fs x1).s).length))), (7, .slice (some ⟨b1, o1, none⟩) ks1.length cap1), (8, n6 ks1.length), (9, n6 (i + 1))] (inK_i64 (by omega)) ?_
    refine rT [1, 1, 0] [L1_1, bk d 123 #[.map (some m), n6 room, n6 st, z6 fu, z6 fa, .bool dn], Lm] ?_
    refine rg_nil ?_
    refine (lM ((n + (((getF fs x1).s).length), i + 1)) (show UsedInv fs ks1 (i + 1) (n + (((getF fs x1).s).length)) from hI.next hx1) (show (ks1.length - (i + 1)) < (ks1.length - i) by first | omega | (simp; omega)))
  · have h2p : ¬ ((i : Int) < (ks1.length : Int)) := by simpa using h2
    refine cd_exit (then_exit (then_exit (block_hit (then_n ?_))))
    refine cQ [] (True) [(2, n6 n)] (trivial) ?_
    refine cT [1, 1] [bk d 123 #[.map (some m), n6 room, n6 st, z6 fu, z6 fa, .bool dn], Lm] ?_
    refine cd_ret (bot_ret (rv [n6 n] (n6 n) ?_))
    refine ⟨?_, rfl⟩
    all_goals first | with_reducible rfl | (rw [hI.done hm.nodup hf1.1 (by omega)]; done) | with_reducible assumption | omega | rfl | (simp_all; done) | (simp_all; omega)

set_option maxRecDepth 100000 in
theorem may_nil (C : Ctx)  :
    FnT Tryz.prog C 58 #[.pointer none] [] (fun rv_ rL_ => rv_ = z6 1 ∧ rL_ = []) := by
  refine fE 11 Tryz.func58 rfl ?_
  refine cQ [] (True) [(0, .pointer none)] (trivial) ?_
  refine cd_seq ?_
  refine cd_block ?_
  refine cQ [] (True) [(0, .pointer none), (3, .bool true)] (trivial) ?_
  refine cYes ?_
  refine cQ [] (True) [(2, z6 1)] (trivial) ?_
  refine cd_ret (block_ret (then_ret (bot_ret (rv [z6 1] (z6 1) ?_))))
  refine ⟨?_, rfl⟩
  all_goals first | with_reducible rfl | (skip; done) | with_reducible assumption | omega | rfl | (simp_all; done) | (simp_all; omega)

set_option maxRecDepth 100000 in
theorem may_any (C : Ctx) (d : Nat) (v0 : Value) (v1 : Value) (v2 : Value) (v3 : Value) (v4 : Value) (dn : Bool) :
    FnT Tryz.prog C 58 #[p0 d] [bk d 123 #[v0, v1, v2, v3, v4, .bool dn]] (fun rv_ rL_ => ∃ e : Nat, (e = if dn then 13 else 0) ∧ rv_ = n6 e ∧ rL_ = [bk d 123 #[v0, v1, v2, v3, v4, .bool dn]]) := by
  refine fE 11 Tryz.func58 rfl ?_
  refine cQ [] (True) [(0, p0 d)] (trivial) ?_
  refine cd_seq ?_
  refine cd_block ?_
  refine cQ [] (True) [(0, p0 d), (3, .bool false)] (trivial) ?_
  refine cNo ?_
  refine cQ [(3, .at 0)] ((d = d)) [(6, .bool dn)] (rfl) ?_
  refine cI dn (fun h1 => ?_) (fun h1 => ?_)
  · have h1p : dn = true := by first | (simpa using h1; done) | (intro hx; rw [hx] at h1; simp at h1) | (intro hx; rw [Bool.not_eq_true] at hx; rw [hx] at h1; simp at h1)
    refine cQ [] (True) [(2, z6 13)] (trivial) ?_
    refine cd_ret (block_ret (then_ret (bot_ret (rv [z6 13] (z6 13) ?_))))
    refine ⟨13, ?_, ?_, rfl⟩
    all_goals first | with_reducible rfl | (skip; done) | with_reducible assumption | omega | rfl | (simp_all; done) | (simp_all; omega)
  · have h1p : ¬ (dn = true) := by first | (simpa using h1; done) | (intro hx; rw [hx] at h1; simp at h1) | (intro hx; rw [Bool.not_eq_true] at hx; rw [hx] at h1; simp at h1)
    refine cd_skip (block_n (then_n ?_))
    refine cQ [] (True) [(2, z6 0)] (trivial) ?_
    refine cd_ret (bot_ret (rv [z6 0] (z6 0) ?_))
    refine ⟨0, ?_, ?_, rfl⟩
    all_goals first | with_reducible rfl | (skip; done) | with_reducible assumption | omega | rfl | (simp_all; done) | (simp_all; omega)

set_option maxRecDepth 100000 in
theorem there_any (C : Ctx) (d : Nat) (m : Nat) (fs : Files) (v1 : Value) (v2 : Value) (v3 : Value) (v4 : Value) (v5 : Value) (name : List UInt8) (Lm : Blks) (hm : MapL fileV m fs Lm) :
    FnT Tryz.prog C 59 #[p0 d, str name] [bk d 123 #[.map (some m), v1, v2, v3, v4, v5], Lm] (fun rv_ rL_ => ∃ e : Nat, (e = if (getA fs name).isSome then 0 else 16) ∧ rv_ = n6 e ∧ rL_ = [bk d 123 #[.map (some m), v1, v2, v3, v4, v5], Lm]) := by
  refine fE 18 Tryz.func59 rfl ?_
  refine cQ [] (True) [(0, p0 d), (1, str name)] (trivial) ?_
  refine cd_seq ?_
  refine cd_rg ?_
  refine rQ [(3, .at 0)] [0, 1, 2, 3, 4] [5, 6, 7, 8, 9, 10, 11] ((d = d)) [(11, .map (some m)), (12, str name)] (rfl) ?_
  refine rX 5 [6, 7, 8, 9, 10, 11] (do pure (.value (← Instr.lookup 121 (.map (some m)) (str name) true))) [1] [Lm] [bk d 123 #[.map (some m), v1, v2, v3, v4, v5]] (gv_lookup_ok (enc := fileV) name (⟨[], 0⟩ : FileS) (by kernel_rfl) (by kernel_rfl) hm) ?_
  rintro _ _ ⟨rfl, rfl⟩
  refine rQ [] [6, 7, 8] [9, 10, 11] (True) [(14, .agg #[str ((getF fs name).s), n6 ((getF fs name).sure)]), (15, .bool ((getA fs name).isSome))] (trivial) ?_
  refine rN 9 [10, 11] (.cells #[str [], z6 0] 132 (0, 0)) p0 (fun b1 => ?_)
  refine rS [(10, .at 2)] [10, 11] [] ((b1 = b1)) [(6, .bool ((getA fs name).isSome))] [Lm, bk d 123 #[.map (some m), v1, v2, v3, v4, v5], bk b1 132 #[str ((getF fs name).s), n6 ((getF fs name).sure)]] (rfl) ?_
  refine rF ?_
  refine cQ [] (True) [(17, .bool (!((getA fs name).isSome)))] (trivial) ?_
  refine cI (!((getA fs name).isSome)) (fun h1 => ?_) (fun h1 => ?_)
  · have h1p : ¬ (((getA fs name).isSome) = true) := by first | (simpa using h1; done) | (intro hx; rw [hx] at h1; simp at h1) | (intro hx; rw [Bool.not_eq_true] at hx; rw [hx] at h1; simp at h1)
    refine cQ [] (True) [(4, z6 16)] (trivial) ?_
    refine cT [1, 0] [bk d 123 #[.map (some m), v1, v2, v3, v4, v5], Lm] ?_
    refine cd_ret (then_ret (bot_ret (rv [z6 16] (z6 16) ?_)))
    refine ⟨16, ?_, ?_, rfl⟩
    all_goals first | with_reducible rfl | (skip; done) | with_reducible assumption | omega | rfl | (simp_all; done) | (simp_all; omega)
  · have h1p : ¬ (¬ (((getA fs name).isSome) = true)) := by first | (simpa using h1; done) | (intro hx; rw [hx] at h1; simp at h1) | (intro hx; rw [Bool.not_eq_true] at hx; rw [hx] at h1; simp at h1)
    refine cd_skip (then_n ?_)
    refine cQ [] (True) [(4, z6 0)] (trivial) ?_
    refine cT [1, 0] [bk d 123 #[.map (some m), v1, v2, v3, v4, v5], Lm] ?_
    refine cd_ret (bot_ret (rv [z6 0] (z6 0) ?_))
    refine ⟨0, ?_, ?_, rfl⟩
    all_goals first | with_reducible rfl | (skip; done) | with_reducible assumption | omega | rfl | (simp_all; done) | (simp_all; omega)

set_option maxRecDepth 100000 in
theorem step_any (C : Ctx) (d : Nat) (v0 : Value) (v1 : Value) (st : Nat) (fu : Int) (fa : Int) (dn : Bool) (own : Nat) (hf : Ok (-1 ≤ fu ∧ fu ≤ 1099511627776)) (ha : Ok (-1 ≤ fa ∧ fa ≤ 1099511627776)) (hst : Ok (st ≤ 1099511627776)) :
    FnT Tryz.prog C 104 #[p0 d, n6 own] [bk d 123 #[v0, v1, n6 st, z6 fu, z6 fa, .bool dn]] (fun rv_ rL_ => ∃ e : Nat, ∃ st1 : Nat, ∃ fu1 : Int, ∃ fa1 : Int, ∃ dn1 : Bool, (stepC st fu fa dn own = (e, st1, fu1, fa1, dn1)) ∧ rv_ = n6 e ∧ rL_ = [bk d 123 #[v0, v1, n6 st1, z6 fu1, z6 fa1, .bool dn1]]) := by
  replace hf := hf.h
  replace ha := ha.h
  replace hst := hst.h
  refine fE 62 Tryz.func104 rfl ?_
  refine cQ [] (True) [(0, p0 d), (1, n6 own)] (trivial) ?_
  refine cd_seq ?_
  refine cd_block ?_
  refine cQ [] (True) [(0, p0 d), (1, n6 own), (5, .bool ((own : Int) != 0))] (trivial) ?_
  refine cI ((own : Int) != 0) (fun h1 => ?_) (fun h1 => ?_)
  · have h1p : (own : Int) ≠ 0 := by simpa using h1
    refine cQ [] (True) [(4, n6 own)] (trivial) ?_
    refine cd_ret (block_ret (then_ret (bot_ret (rv [n6 own] (n6 own) ?_))))
    refine ⟨own, st, fu, fa, dn, ?_, ?_, rfl⟩
    all_goals first | with_reducible rfl | (rw [stepC, if_pos (by omega)]; done) | (rw [stepC, if_neg (by omega), if_pos (by omega)]; done) | (rw [stepC, if_neg (by omega), if_neg (by omega), if_pos (by omega)]; done) | (rw [stepC, if_neg (by omega), if_neg (by omega), if_neg (by omega), fuseD_max' hf.1, fuseD_max' ha.1]; done) | (rw [stepC, if_neg (by omega), if_neg (by omega), if_neg (by omega), fuseD_max hf.1, fuseD_max ha.1]; done) | with_reducible assumption | omega | rfl | (simp_all; done) | (simp_all; omega)
  · have h1p : ¬ ((own : Int) ≠ 0) := by simpa using h1
    refine cQ [(3, .at 0)] ((d = d)) [(0, p0 d), (9, .bool (fu == 0))] (rfl) ?_
    refine cI (fu == 0) (fun h2 => ?_) (fun h2 => ?_)
    · have h2p : fu = 0 := by simpa using h2
      refine cS [(3, .at 0)] ((d = d)) [] [bk d 123 #[v0, v1, n6 st, z6 fu, z6 fa, .bool true]] (rfl) ?_
      refine cQ [] (True) [(4, z6 13)] (trivial) ?_
      refine cd_ret (block_ret (then_ret (bot_ret (rv [z6 13] (z6 13) ?_))))
      refine ⟨13, st, fu, fa, true, ?_, ?_, rfl⟩
      all_goals first | with_reducible rfl | (rw [stepC, if_pos (by omega)]; done) | (rw [stepC, if_neg (by omega), if_pos (by omega)]; done) | (rw [stepC, if_neg (by omega), if_neg (by omega), if_pos (by omega)]; done) | (rw [stepC, if_neg (by omega), if_neg (by omega), if_neg (by omega), fuseD_max' hf.1, fuseD_max' ha.1]; done) | (rw [stepC, if_neg (by omega), if_neg (by omega), if_neg (by omega), fuseD_max hf.1, fuseD_max ha.1]; done) | with_reducible assumption | omega | rfl | (simp_all; done) | (simp_all; omega)
    · have h2p : ¬ (fu = 0) := by simpa using h2
      refine cQ [(3, .at 0)] ((d = d)) [(0, p0 d), (18, .bool (fa == 0))] (rfl) ?_
      refine cI (fa == 0) (fun h3 => ?_) (fun h3 => ?_)
      · have h3p : fa = 0 := by simpa using h3
        refine cS [(3, .at 0)] ((d = d)) [] [bk d 123 #[v0, v1, n6 st, z6 fu, z6 (-1), .bool dn]] (rfl) ?_
        refine cQ [] (True) [(4, z6 15)] (trivial) ?_
        refine cd_ret (block_ret (then_ret (bot_ret (rv [z6 15] (z6 15) ?_))))
        refine ⟨15, st, fu, -1, dn, ?_, ?_, rfl⟩
        all_goals first | with_reducible rfl | (rw [stepC, if_pos (by omega)]; done) | (rw [stepC, if_neg (by omega), if_pos (by omega)]; done) | (rw [stepC, if_neg (by omega), if_neg (by omega), if_pos (by omega)]; done) | (rw [stepC, if_neg (by omega), if_neg (by omega), if_neg (by omega), fuseD_max' hf.1, fuseD_max' ha.1]; done) | (rw [stepC, if_neg (by omega), if_neg (by omega), if_neg (by omega), fuseD_max hf.1, fuseD_max ha.1]; done) | with_reducible assumption | omega | rfl | (simp_all; done) | (simp_all; omega)
      · have h3p : ¬ (fa = 0) := by simpa using h3
        refine cd_skip (block_n (then_n ?_))
        refine dr [] [bk d 123 #[v0, v1, n6 st, z6 fu, z6 fa, .bool dn]] [0] 30 ?_
        refine aS [] [0, 1, 2, 7, 13, 18, 3, 8, 14, 19, 4, 9, 15, 20] (True) [(0, p0 d), (27, p0 d), (28, p0 d), (31, pq d 3), (36, pq d 3), (42, pq d 4), (47, pq d 4)] (bm 30 1893279) 16 (trivial) ?_
        refine aH 0 (bm 30 1073741823) [(0, p0 d)] [bk d 123 #[v0, v1, n6 st, z6 (if (if (-1) < fu then -1 else fu) > (fu - 1) then if (-1) < fu then -1 else fu else fu - 1), z6 (if (if (-1) < fa then -1 else fa) > (fa - 1) then if (-1) < fa then -1 else fa else fa - 1), .bool dn]] ?_ (fun hs1 => ?_)
        ·
          refine aE [(0, p0 d)] [bk d 123 #[v0, v1, n6 st, z6 (if (if (-1) < fu then -1 else fu) > (fu - 1) then if (-1) < fu then -1 else fu else fu - 1), z6 (if (if (-1) < fa then -1 else fa) > (fa - 1) then if (-1) < fa then -1 else fa else fa - 1), .bool dn]] ?_
          refine cS [(3, .at 0), (7, .at 0)] ((d = d) ∧ (inKind .i64 ((st : Int) + 1)) ∧ (d = d)) [] [bk d 123 #[v0, v1, n6 (st + 1), z6 (if (if (-1) < fu then -1 else fu) > (fu - 1) then if (-1) < fu then -1 else fu else fu - 1), z6 (if (if (-1) < fa then -1 else fa) > (fa - 1) then if (-1) < fa then -1 else fa else fa - 1), .bool dn]] (⟨rfl, inK_i64 (by omega), rfl⟩) ?_
          refine cQ [] (True) [(4, z6 0)] (trivial) ?_
          refine cd_ret (bot_ret (rv [z6 0] (z6 0) ?_))
          refine ⟨0, st + 1, if (if (-1) < fu then -1 else fu) > (fu - 1) then if (-1) < fu then -1 else fu else fu - 1, if (if (-1) < fa then -1 else fa) > (fa - 1) then if (-1) < fa then -1 else fa else fa - 1, dn, ?_, ?_, rfl⟩
          all_goals first | with_reducible rfl | (rw [stepC, if_pos (by omega)]; done) | (rw [stepC, if_neg (by omega), if_pos (by omega)]; done) | (rw [stepC, if_neg (by omega), if_neg (by omega), if_pos (by omega)]; done) | (rw [stepC, if_neg (by omega), if_neg (by omega), if_neg (by omega), fuseD_max' hf.1, fuseD_max' ha.1]; done) | (rw [stepC, if_neg (by omega), if_neg (by omega), if_neg (by omega), fuseD_max hf.1, fuseD_max ha.1]; done) | with_reducible assumption | omega | rfl | (simp_all; done) | (simp_all; omega)
        refine aH 1 (bm 30 536870911) [(0, p0 d), (50, z6 (if (if (-1) < fa then -1 else fa) > (fa - 1) then if (-1) < fa then -1 else fa else fa - 1)), (54, pq d 4)] [bk d 123 #[v0, v1, n6 st, z6 (if (if (-1) < fu then -1 else fu) > (fu - 1) then if (-1) < fu then -1 else fu else fu - 1), z6 fa, .bool dn]] ?_ (fun hs2 => ?_)
        ·
          refine aI (i := 29) ?_
          refine xS [(29, .at 0)] (d = d) [(0, p0 d)] [bk d 123 #[v0, v1, n6 st, z6 (if (if (-1) < fu then -1 else fu) > (fu - 1) then if (-1) < fu then -1 else fu else fu - 1), z6 (if (if (-1) < fa then -1 else fa) > (fa - 1) then if (-1) < fa then -1 else fa else fa - 1), .bool dn]] (bm 30 1073741823) (rfl) ?_
          exact hs1
        refine aH 4 (bm 30 67108863) [(0, p0 d), (28, p0 d), (39, z6 (if (if (-1) < fu then -1 else fu) > (fu - 1) then if (-1) < fu then -1 else fu else fu - 1)), (50, z6 (if (if (-1) < fa then -1 else fa) > (fa - 1) then if (-1) < fa then -1 else fa else fa - 1)), (52, pq d 3)] [bk d 123 #[v0, v1, n6 st, z6 fu, z6 fa, .bool dn]] ?_ (fun hs3 => ?_)
        ·
          refine aI (i := 26) ?_
          refine xS [(26, .at 0)] (d = d) [(0, p0 d), (28, p0 d), (50, z6 (if (if (-1) < fa then -1 else fa) > (fa - 1) then if (-1) < fa then -1 else fa else fa - 1))] [bk d 123 #[v0, v1, n6 st, z6 (if (if (-1) < fu then -1 else fu) > (fu - 1) then if (-1) < fu then -1 else fu else fu - 1), z6 fa, .bool dn]] (bm 30 134217727) (rfl) ?_
          refine aS [] [27, 28] (True) [(0, p0 d), (50, z6 (if (if (-1) < fa then -1 else fa) > (fa - 1) then if (-1) < fa then -1 else fa else fa - 1)), (54, pq d 4)] (bm 30 536870911) 1 (trivial) ?_
          exact hs2
        refine aH 9 (bm 30 2097151) [(0, p0 d), (27, p0 d), (28, p0 d), (39, z6 (if (if (-1) < fu then -1 else fu) > (fu - 1) then if (-1) < fu then -1 else fu else fu - 1)), (44, z6 (fa - 1)), (47, pq d 4)] [bk d 123 #[v0, v1, n6 st, z6 fu, z6 fa, .bool dn]] ?_ (fun hs4 => ?_)
        ·
          refine aI (i := 21) ?_
          refine xQ [(21, .at 0)] (d = d) [(0, p0 d), (27, p0 d), (28, p0 d), (39, z6 (if (if (-1) < fu then -1 else fu) > (fu - 1) then if (-1) < fu then -1 else fu else fu - 1)), (44, z6 (fa - 1)), (48, z6 fa)] (bm 30 4194303) (rfl) ?_
          refine aS [] [22, 24, 23, 25] (True) [(0, p0 d), (28, p0 d), (39, z6 (if (if (-1) < fu then -1 else fu) > (fu - 1) then if (-1) < fu then -1 else fu else fu - 1)), (50, z6 (if (if (-1) < fa then -1 else fa) > (fa - 1) then if (-1) < fa then -1 else fa else fa - 1)), (52, pq d 3)] (bm 30 67108863) 4 (trivial) ?_
          exact hs3
        refine aH 9 (bm 30 8191999) [(0, p0 d), (27, p0 d), (28, p0 d), (39, z6 (if (if (-1) < fu then -1 else fu) > (fu - 1) then if (-1) < fu then -1 else fu else fu - 1)), (42, pq d 4), (49, z6 (if (-1) < fa then -1 else fa))] [bk d 123 #[v0, v1, n6 st, z6 fu, z6 fa, .bool dn]] ?_ (fun hs5 => ?_)
        ·
          refine aI (i := 16) ?_
          refine xQ [(16, .at 0)] (d = d) [(0, p0 d), (27, p0 d), (28, p0 d), (39, z6 (if (if (-1) < fu then -1 else fu) > (fu - 1) then if (-1) < fu then -1 else fu else fu - 1)), (43, z6 fa), (49, z6 (if (-1) < fa then -1 else fa))] (bm 30 8257535) (rfl) ?_
          refine aS [] [17, 24, 23, 25] ((inKind .i64 (fa - 1))) [(0, p0 d), (28, p0 d), (39, z6 (if (if (-1) < fu then -1 else fu) > (fu - 1) then if (-1) < fu then -1 else fu else fu - 1)), (50, z6 (if (if (-1) < fa then -1 else fa) > (fa - 1) then if (-1) < fa then -1 else fa else fa - 1)), (52, pq d 3)] (bm 30 67108863) 4 (inK_i64 (by omega)) ?_
          exact hs3
        refine aH 11 (bm 30 1900543) [(0, p0 d), (27, p0 d), (28, p0 d), (39, z6 (if (if (-1) < fu then -1 else fu) > (fu - 1) then if (-1) < fu then -1 else fu else fu - 1)), (42, pq d 4), (47, pq d 4)] [bk d 123 #[v0, v1, n6 st, z6 fu, z6 fa, .bool dn]] ?_ (fun hs6 => ?_)
        ·
          refine aII (i := 16) (j := 21) ?_ ?_
          ·
            refine xQ [(16, .at 0)] (d = d) [(0, p0 d), (27, p0 d), (28, p0 d), (39, z6 (if (if (-1) < fu then -1 else fu) > (fu - 1) then if (-1) < fu then -1 else fu else fu - 1)), (43, z6 fa), (47, pq d 4)] (bm 30 1966079) (rfl) ?_
            refine aS [] [17] ((inKind .i64 (fa - 1))) [(0, p0 d), (27, p0 d), (28, p0 d), (39, z6 (if (if (-1) < fu then -1 else fu) > (fu - 1) then if (-1) < fu then -1 else fu else fu - 1)), (44, z6 (fa - 1)), (47, pq d 4)] (bm 30 2097151) 9 (inK_i64 (by omega)) ?_
            exact hs4
          ·
            refine xQ [(21, .at 0)] (d = d) [(0, p0 d), (27, p0 d), (28, p0 d), (39, z6 (if (if (-1) < fu then -1 else fu) > (fu - 1) then if (-1) < fu then -1 else fu else fu - 1)), (42, pq d 4), (48, z6 fa)] (bm 30 3997695) (rfl) ?_
            refine aS [] [22] (True) [(0, p0 d), (27, p0 d), (28, p0 d), (39, z6 (if (if (-1) < fu then -1 else fu) > (fu - 1) then if (-1) < fu then -1 else fu else fu - 1)), (42, pq d 4), (49, z6 (if (-1) < fa then -1 else fa))] (bm 30 8191999) 9 (trivial) ?_
            exact hs5
        refine aH 9 (bm 30 16770047) [(0, p0 d), (27, p0 d), (28, p0 d), (33, z6 (fu - 1)), (36, pq d 3), (50, z6 (if (if (-1) < fa then -1 else fa) > (fa - 1) then if (-1) < fa then -1 else fa else fa - 1))] [bk d 123 #[v0, v1, n6 st, z6 fu, z6 fa, .bool dn]] ?_ (fun hs7 => ?_)
        ·
          refine aI (i := 10) ?_
          refine xQ [(10, .at 0)] (d = d) [(0, p0 d), (27, p0 d), (28, p0 d), (33, z6 (fu - 1)), (37, z6 fu), (50, z6 (if (if (-1) < fa then -1 else fa) > (fa - 1) then if (-1) < fa then -1 else fa else fa - 1))] (bm 30 16771071) (rfl) ?_
          refine aS [] [11, 12, 24, 25] (True) [(0, p0 d), (28, p0 d), (39, z6 (if (if (-1) < fu then -1 else fu) > (fu - 1) then if (-1) < fu then -1 else fu else fu - 1)), (50, z6 (if (if (-1) < fa then -1 else fa) > (fa - 1) then if (-1) < fa then -1 else fa else fa - 1)), (52, pq d 3)] (bm 30 67108863) 4 (trivial) ?_
          exact hs3
        refine aH 12 (bm 30 2089983) [(0, p0 d), (27, p0 d), (28, p0 d), (33, z6 (fu - 1)), (36, pq d 3), (44, z6 (fa - 1)), (47, pq d 4)] [bk d 123 #[v0, v1, n6 st, z6 fu, z6 fa, .bool dn]] ?_ (fun hs8 => ?_)
        ·
          refine aII (i := 10) (j := 21) ?_ ?_
          ·
            refine xQ [(10, .at 0)] (d = d) [(0, p0 d), (27, p0 d), (28, p0 d), (33, z6 (fu - 1)), (37, z6 fu), (44, z6 (fa - 1)), (47, pq d 4)] (bm 30 2091007) (rfl) ?_
            refine aS [] [11, 12] (True) [(0, p0 d), (27, p0 d), (28, p0 d), (39, z6 (if (if (-1) < fu then -1 else fu) > (fu - 1) then if (-1) < fu then -1 else fu else fu - 1)), (44, z6 (fa - 1)), (47, pq d 4)] (bm 30 2097151) 9 (trivial) ?_
            exact hs4
          ·
            refine xQ [(21, .at 0)] (d = d) [(0, p0 d), (27, p0 d), (28, p0 d), (33, z6 (fu - 1)), (36, pq d 3), (44, z6 (fa - 1)), (48, z6 fa)] (bm 30 4187135) (rfl) ?_
            refine aS [] [22, 23] (True) [(0, p0 d), (27, p0 d), (28, p0 d), (33, z6 (fu - 1)), (36, pq d 3), (50, z6 (if (if (-1) < fa then -1 else fa) > (fa - 1) then if (-1) < fa then -1 else fa else fa - 1))] (bm 30 16770047) 9 (trivial) ?_
            exact hs7
        refine aH 12 (bm 30 8184831) [(0, p0 d), (27, p0 d), (28, p0 d), (33, z6 (fu - 1)), (36, pq d 3), (42, pq d 4), (49, z6 (if (-1) < fa then -1 else fa))] [bk d 123 #[v0, v1, n6 st, z6 fu, z6 fa, .bool dn]] ?_ (fun hs9 => ?_)
        ·
          refine aII (i := 10) (j := 16) ?_ ?_
          ·
            refine xQ [(10, .at 0)] (d = d) [(0, p0 d), (27, p0 d), (28, p0 d), (33, z6 (fu - 1)), (37, z6 fu), (42, pq d 4), (49, z6 (if (-1) < fa then -1 else fa))] (bm 30 8185855) (rfl) ?_
            refine aS [] [11, 12] (True) [(0, p0 d), (27, p0 d), (28, p0 d), (39, z6 (if (if (-1) < fu then -1 else fu) > (fu - 1) then if (-1) < fu then -1 else fu else fu - 1)), (42, pq d 4), (49, z6 (if (-1) < fa then -1 else fa))] (bm 30 8191999) 9 (trivial) ?_
            exact hs5
          ·
            refine xQ [(16, .at 0)] (d = d) [(0, p0 d), (27, p0 d), (28, p0 d), (33, z6 (fu - 1)), (36, pq d 3), (43, z6 fa), (49, z6 (if (-1) < fa then -1 else fa))] (bm 30 8250367) (rfl) ?_
            refine aS [] [17, 23] ((inKind .i64 (fa - 1))) [(0, p0 d), (27, p0 d), (28, p0 d), (33, z6 (fu - 1)), (36, pq d 3), (50, z6 (if (if (-1) < fa then -1 else fa) > (fa - 1) then if (-1) < fa then -1 else fa else fa - 1))] (bm 30 16770047) 9 (inK_i64 (by omega)) ?_
            exact hs7
        refine aH 14 (bm 30 1893375) [(0, p0 d), (27, p0 d), (28, p0 d), (33, z6 (fu - 1)), (36, pq d 3), (42, pq d 4), (47, pq d 4)] [bk d 123 #[v0, v1, n6 st, z6 fu, z6 fa, .bool dn]] ?_ (fun hs10 => ?_)
        ·
          refine aIII (i := 10) (j := 16) (l := 21) ?_ ?_ ?_
          ·
            refine xQ [(10, .at 0)] (d = d) [(0, p0 d), (27, p0 d), (28, p0 d), (33, z6 (fu - 1)), (37, z6 fu), (42, pq d 4), (47, pq d 4)] (bm 30 1894399) (rfl) ?_
            refine aS [] [11, 12] (True) [(0, p0 d), (27, p0 d), (28, p0 d), (39, z6 (if (if (-1) < fu then -1 else fu) > (fu - 1) then if (-1) < fu then -1 else fu else fu - 1)), (42, pq d 4), (47, pq d 4)] (bm 30 1900543) 11 (trivial) ?_
            exact hs6
          ·
            refine xQ [(16, .at 0)] (d = d) [(0, p0 d), (27, p0 d), (28, p0 d), (33, z6 (fu - 1)), (36, pq d 3), (43, z6 fa), (47, pq d 4)] (bm 30 1958911) (rfl) ?_
            refine aS [] [17] ((inKind .i64 (fa - 1))) [(0, p0 d), (27, p0 d), (28, p0 d), (33, z6 (fu - 1)), (36, pq d 3), (44, z6 (fa - 1)), (47, pq d 4)] (bm 30 2089983) 12 (inK_i64 (by omega)) ?_
            exact hs8
          ·
            refine xQ [(21, .at 0)] (d = d) [(0, p0 d), (27, p0 d), (28, p0 d), (33, z6 (fu - 1)), (36, pq d 3), (42, pq d 4), (48, z6 fa)] (bm 30 3990527) (rfl) ?_
            refine aS [] [22] (True) [(0, p0 d), (27, p0 d), (28, p0 d), (33, z6 (fu - 1)), (36, pq d 3), (42, pq d 4), (49, z6 (if (-1) < fa then -1 else fa))] (bm 30 8184831) 12 (trivial) ?_
            exact hs9
        refine aH 9 (bm 30 16773023) [(0, p0 d), (27, p0 d), (28, p0 d), (31, pq d 3), (38, z6 (if (-1) < fu then -1 else fu)), (50, z6 (if (if (-1) < fa then -1 else fa) > (fa - 1) then if (-1) < fa then -1 else fa else fa - 1))] [bk d 123 #[v0, v1, n6 st, z6 fu, z6 fa, .bool dn]] ?_ (fun hs11 => ?_)
        ·
          refine aI (i := 5) ?_
          refine xQ [(5, .at 0)] (d = d) [(0, p0 d), (27, p0 d), (28, p0 d), (32, z6 fu), (38, z6 (if (-1) < fu then -1 else fu)), (50, z6 (if (if (-1) < fa then -1 else fa) > (fa - 1) then if (-1) < fa then -1 else fa else fa - 1))] (bm 30 16773055) (rfl) ?_
          refine aS [] [6, 12, 24, 25] ((inKind .i64 (fu - 1))) [(0, p0 d), (28, p0 d), (39, z6 (if (if (-1) < fu then -1 else fu) > (fu - 1) then if (-1) < fu then -1 else fu else fu - 1)), (50, z6 (if (if (-1) < fa then -1 else fa) > (fa - 1) then if (-1) < fa then -1 else fa else fa - 1)), (52, pq d 3)] (bm 30 67108863) 4 (inK_i64 (by omega)) ?_
          exact hs3
        refine aH 12 (bm 30 2092959) [(0, p0 d), (27, p0 d), (28, p0 d), (31, pq d 3), (38, z6 (if (-1) < fu then -1 else fu)), (44, z6 (fa - 1)), (47, pq d 4)] [bk d 123 #[v0, v1, n6 st, z6 fu, z6 fa, .bool dn]] ?_ (fun hs12 => ?_)
        ·
          refine aII (i := 5) (j := 21) ?_ ?_
          ·
            refine xQ [(5, .at 0)] (d = d) [(0, p0 d), (27, p0 d), (28, p0 d), (32, z6 fu), (38, z6 (if (-1) < fu then -1 else fu)), (44, z6 (fa - 1)), (47, pq d 4)] (bm 30 2092991) (rfl) ?_
            refine aS [] [6, 12] ((inKind .i64 (fu - 1))) [(0, p0 d), (27, p0 d), (28, p0 d), (39, z6 (if (if (-1) < fu then -1 else fu) > (fu - 1) then if (-1) < fu then -1 else fu else fu - 1)), (44, z6 (fa - 1)), (47, pq d 4)] (bm 30 2097151) 9 (inK_i64 (by omega)) ?_
            exact hs4
          ·
            refine xQ [(21, .at 0)] (d = d) [(0, p0 d), (27, p0 d), (28, p0 d), (31, pq d 3), (38, z6 (if (-1) < fu then -1 else fu)), (44, z6 (fa - 1)), (48, z6 fa)] (bm 30 4190111) (rfl) ?_
            refine aS [] [22, 23] (True) [(0, p0 d), (27, p0 d), (28, p0 d), (31, pq d 3), (38, z6 (if (-1) < fu then -1 else fu)), (50, z6 (if (if (-1) < fa then -1 else fa) > (fa - 1) then if (-1) < fa then -1 else fa else fa - 1))] (bm 30 16773023) 9 (trivial) ?_
            exact hs11
        refine aH 12 (bm 30 8187807) [(0, p0 d), (27, p0 d), (28, p0 d), (31, pq d 3), (38, z6 (if (-1) < fu then -1 else fu)), (42, pq d 4), (49, z6 (if (-1) < fa then -1 else fa))] [bk d 123 #[v0, v1, n6 st, z6 fu, z6 fa, .bool dn]] ?_ (fun hs13 => ?_)
        ·
          refine aII (i := 5) (j := 16) ?_ ?_
          ·
            refine xQ [(5, .at 0)] (d = d) [(0, p0 d), (27, p0 d), (28, p0 d), (32, z6 fu), (38, z6 (if (-1) < fu then -1 else fu)), (42, pq d 4), (49, z6 (if (-1) < fa then -1 else fa))] (bm 30 8187839) (rfl) ?_
            refine aS [] [6, 12] ((inKind .i64 (fu - 1))) [(0, p0 d), (27, p0 d), (28, p0 d), (39, z6 (if (if (-1) < fu then -1 else fu) > (fu - 1) then if (-1) < fu then -1 else fu else fu - 1)), (42, pq d 4), (49, z6 (if (-1) < fa then -1 else fa))] (bm 30 8191999) 9 (inK_i64 (by omega)) ?_
            exact hs5
          ·
            refine xQ [(16, .at 0)] (d = d) [(0, p0 d), (27, p0 d), (28, p0 d), (31, pq d 3), (38, z6 (if (-1) < fu then -1 else fu)), (43, z6 fa), (49, z6 (if (-1) < fa then -1 else fa))] (bm 30 8253343) (rfl) ?_
            refine aS [] [17, 23] ((inKind .i64 (fa - 1))) [(0, p0 d), (27, p0 d), (28, p0 d), (31, pq d 3), (38, z6 (if (-1) < fu then -1 else fu)), (50, z6 (if (if (-1) < fa then -1 else fa) > (fa - 1) then if (-1) < fa then -1 else fa else fa - 1))] (bm 30 16773023) 9 (inK_i64 (by omega)) ?_
            exact hs11
        refine aH 14 (bm 30 1896351) [(0, p0 d), (27, p0 d), (28, p0 d), (31, pq d 3), (38, z6 (if (-1) < fu then -1 else fu)), (42, pq d 4), (47, pq d 4)] [bk d 123 #[v0, v1, n6 st, z6 fu, z6 fa, .bool dn]] ?_ (fun hs14 => ?_)
        ·
          refine aIII (i := 5) (j := 16) (l := 21) ?_ ?_ ?_
          ·
            refine xQ [(5, .at 0)] (d = d) [(0, p0 d), (27, p0 d), (28, p0 d), (32, z6 fu), (38, z6 (if (-1) < fu then -1 else fu)), (42, pq d 4), (47, pq d 4)] (bm 30 1896383) (rfl) ?_
            refine aS [] [6, 12] ((inKind .i64 (fu - 1))) [(0, p0 d), (27, p0 d), (28, p0 d), (39, z6 (if (if (-1) < fu then -1 else fu) > (fu - 1) then if (-1) < fu then -1 else fu else fu - 1)), (42, pq d 4), (47, pq d 4)] (bm 30 1900543) 11 (inK_i64 (by omega)) ?_
            exact hs6
          ·
            refine xQ [(16, .at 0)] (d = d) [(0, p0 d), (27, p0 d), (28, p0 d), (31, pq d 3), (38, z6 (if (-1) < fu then -1 else fu)), (43, z6 fa), (47, pq d 4)] (bm 30 1961887) (rfl) ?_
            refine aS [] [17] ((inKind .i64 (fa - 1))) [(0, p0 d), (27, p0 d), (28, p0 d), (31, pq d 3), (38, z6 (if (-1) < fu then -1 else fu)), (44, z6 (fa - 1)), (47, pq d 4)] (bm 30 2092959) 12 (inK_i64 (by omega)) ?_
            exact hs12
          ·
            refine xQ [(21, .at 0)] (d = d) [(0, p0 d), (27, p0 d), (28, p0 d), (31, pq d 3), (38, z6 (if (-1) < fu then -1 else fu)), (42, pq d 4), (48, z6 fa)] (bm 30 3993503) (rfl) ?_
            refine aS [] [22] (True) [(0, p0 d), (27, p0 d), (28, p0 d), (31, pq d 3), (38, z6 (if (-1) < fu then -1 else fu)), (42, pq d 4), (49, z6 (if (-1) < fa then -1 else fa))] (bm 30 8187807) 12 (trivial) ?_
            exact hs13
        refine aH 11 (bm 30 16769951) [(0, p0 d), (27, p0 d), (28, p0 d), (31, pq d 3), (36, pq d 3), (50, z6 (if (if (-1) < fa then -1 else fa) > (fa - 1) then if (-1) < fa then -1 else fa else fa - 1))] [bk d 123 #[v0, v1, n6 st, z6 fu, z6 fa, .bool dn]] ?_ (fun hs15 => ?_)
        ·
          refine aII (i := 5) (j := 10) ?_ ?_
          ·
            refine xQ [(5, .at 0)] (d = d) [(0, p0 d), (27, p0 d), (28, p0 d), (32, z6 fu), (36, pq d 3), (50, z6 (if (if (-1) < fa then -1 else fa) > (fa - 1) then if (-1) < fa then -1 else fa else fa - 1))] (bm 30 16769983) (rfl) ?_
            refine aS [] [6] ((inKind .i64 (fu - 1))) [(0, p0 d), (27, p0 d), (28, p0 d), (33, z6 (fu - 1)), (36, pq d 3), (50, z6 (if (if (-1) < fa then -1 else fa) > (fa - 1) then if (-1) < fa then -1 else fa else fa - 1))] (bm 30 16770047) 9 (inK_i64 (by omega)) ?_
            exact hs7
          ·
            refine xQ [(10, .at 0)] (d = d) [(0, p0 d), (27, p0 d), (28, p0 d), (31, pq d 3), (37, z6 fu), (50, z6 (if (if (-1) < fa then -1 else fa) > (fa - 1) then if (-1) < fa then -1 else fa else fa - 1))] (bm 30 16770975) (rfl) ?_
            refine aS [] [11] (True) [(0, p0 d), (27, p0 d), (28, p0 d), (31, pq d 3), (38, z6 (if (-1) < fu then -1 else fu)), (50, z6 (if (if (-1) < fa then -1 else fa) > (fa - 1) then if (-1) < fa then -1 else fa else fa - 1))] (bm 30 16773023) 9 (trivial) ?_
            exact hs11
        refine aH 14 (bm 30 2089887) [(0, p0 d), (27, p0 d), (28, p0 d), (31, pq d 3), (36, pq d 3), (44, z6 (fa - 1)), (47, pq d 4)] [bk d 123 #[v0, v1, n6 st, z6 fu, z6 fa, .bool dn]] ?_ (fun hs16 => ?_)
        ·
          refine aIII (i := 5) (j := 10) (l := 21) ?_ ?_ ?_
          ·
            refine xQ [(5, .at 0)] (d = d) [(0, p0 d), (27, p0 d), (28, p0 d), (32, z6 fu), (36, pq d 3), (44, z6 (fa - 1)), (47, pq d 4)] (bm 30 2089919) (rfl) ?_
            refine aS [] [6] ((inKind .i64 (fu - 1))) [(0, p0 d), (27, p0 d), (28, p0 d), (33, z6 (fu - 1)), (36, pq d 3), (44, z6 (fa - 1)), (47, pq d 4)] (bm 30 2089983) 12 (inK_i64 (by omega)) ?_
            exact hs8
          ·
            refine xQ [(10, .at 0)] (d = d) [(0, p0 d), (27, p0 d), (28, p0 d), (31, pq d 3), (37, z6 fu), (44, z6 (fa - 1)), (47, pq d 4)] (bm 30 2090911) (rfl) ?_
            refine aS [] [11] (True) [(0, p0 d), (27, p0 d), (28, p0 d), (31, pq d 3), (38, z6 (if (-1) < fu then -1 else fu)), (44, z6 (fa - 1)), (47, pq d 4)] (bm 30 2092959) 12 (trivial) ?_
            exact hs12
          ·
            refine xQ [(21, .at 0)] (d = d) [(0, p0 d), (27, p0 d), (28, p0 d), (31, pq d 3), (36, pq d 3), (44, z6 (fa - 1)), (48, z6 fa)] (bm 30 4187039) (rfl) ?_
            refine aS [] [22, 23] (True) [(0, p0 d), (27, p0 d), (28, p0 d), (31, pq d 3), (36, pq d 3), (50, z6 (if (if (-1) < fa then -1 else fa) > (fa - 1) then if (-1) < fa then -1 else fa else fa - 1))] (bm 30 16769951) 11 (trivial) ?_
            exact hs15
        refine aH 14 (bm 30 8184735) [(0, p0 d), (27, p0 d), (28, p0 d), (31, pq d 3), (36, pq d 3), (42, pq d 4), (49, z6 (if (-1) < fa then -1 else fa))] [bk d 123 #[v0, v1, n6 st, z6 fu, z6 fa, .bool dn]] ?_ (fun hs17 => ?_)
        ·
          refine aIII (i := 5) (j := 10) (l := 16) ?_ ?_ ?_
          ·
            refine xQ [(5, .at 0)] (d = d) [(0, p0 d), (27, p0 d), (28, p0 d), (32, z6 fu), (36, pq d 3), (42, pq d 4), (49, z6 (if (-1) < fa then -1 else fa))] (bm 30 8184767) (rfl) ?_
            refine aS [] [6] ((inKind .i64 (fu - 1))) [(0, p0 d), (27, p0 d), (28, p0 d), (33, z6 (fu - 1)), (36, pq d 3), (42, pq d 4), (49, z6 (if (-1) < fa then -1 else fa))] (bm 30 8184831) 12 (inK_i64 (by omega)) ?_
            exact hs9
          ·
            refine xQ [(10, .at 0)] (d = d) [(0, p0 d), (27, p0 d), (28, p0 d), (31, pq d 3), (37, z6 fu), (42, pq d 4), (49, z6 (if (-1) < fa then -1 else fa))] (bm 30 8185759) (rfl) ?_
            refine aS [] [11] (True) [(0, p0 d), (27, p0 d), (28, p0 d), (31, pq d 3), (38, z6 (if (-1) < fu then -1 else fu)), (42, pq d 4), (49, z6 (if (-1) < fa then -1 else fa))] (bm 30 8187807) 12 (trivial) ?_
            exact hs13
          ·
            refine xQ [(16, .at 0)] (d = d) [(0, p0 d), (27, p0 d), (28, p0 d), (31, pq d 3), (36, pq d 3), (43, z6 fa), (49, z6 (if (-1) < fa then -1 else fa))] (bm 30 8250271) (rfl) ?_
            refine aS [] [17, 23] ((inKind .i64 (fa - 1))) [(0, p0 d), (27, p0 d), (28, p0 d), (31, pq d 3), (36, pq d 3), (50, z6 (if (if (-1) < fa then -1 else fa) > (fa - 1) then if (-1) < fa then -1 else fa else fa - 1))] (bm 30 16769951) 11 (inK_i64 (by omega)) ?_
            exact hs15
        refine aIV (i := 5) (j := 10) (l := 16) (q := 21) ?_ ?_ ?_ ?_
        ·
          refine xQ [(5, .at 0)] (d = d) [(0, p0 d), (27, p0 d), (28, p0 d), (32, z6 fu), (36, pq d 3), (42, pq d 4), (47, pq d 4)] (bm 30 1893311) (rfl) ?_
          refine aS [] [6] ((inKind .i64 (fu - 1))) [(0, p0 d), (27, p0 d), (28, p0 d), (33, z6 (fu - 1)), (36, pq d 3), (42, pq d 4), (47, pq d 4)] (bm 30 1893375) 14 (inK_i64 (by omega)) ?_
          exact hs10
        ·
          refine xQ [(10, .at 0)] (d = d) [(0, p0 d), (27, p0 d), (28, p0 d), (31, pq d 3), (37, z6 fu), (42, pq d 4), (47, pq d 4)] (bm 30 1894303) (rfl) ?_
          refine aS [] [11] (True) [(0, p0 d), (27, p0 d), (28, p0 d), (31, pq d 3), (38, z6 (if (-1) < fu then -1 else fu)), (42, pq d 4), (47, pq d 4)] (bm 30 1896351) 14 (trivial) ?_
          exact hs14
        ·
          refine xQ [(16, .at 0)] (d = d) [(0, p0 d), (27, p0 d), (28, p0 d), (31, pq d 3), (36, pq d 3), (43, z6 fa), (47, pq d 4)] (bm 30 1958815) (rfl) ?_
          refine aS [] [17] ((inKind .i64 (fa - 1))) [(0, p0 d), (27, p0 d), (28, p0 d), (31, pq d 3), (36, pq d 3), (44, z6 (fa - 1)), (47, pq d 4)] (bm 30 2089887) 14 (inK_i64 (by omega)) ?_
          exact hs16
        ·
          refine xQ [(21, .at 0)] (d = d) [(0, p0 d), (27, p0 d), (28, p0 d), (31, pq d 3), (36, pq d 3), (42, pq d 4), (48, z6 fa)] (bm 30 3990431) (rfl) ?_
          refine aS [] [22] (True) [(0, p0 d), (27, p0 d), (28, p0 d), (31, pq d 3), (36, pq d 3), (42, pq d 4), (49, z6 (if (-1) < fa then -1 else fa))] (bm 30 8184735) 14 (trivial) ?_
          exact hs17

set_option maxRecDepth 100000 in
theorem create_any (C : Ctx) (d : Nat) (m : Nat) (fs : Files) (room : Nat) (st : Nat) (fu : Int) (fa : Int) (dn : Bool) (name : List UInt8) (Lm : Blks) (hm : MapL fileV m fs Lm) (hf : Ok (-1 ≤ fu ∧ fu ≤ 1099511627776)) (ha : Ok (-1 ≤ fa ∧ fa ≤ 1099511627776)) (hst : Ok (st ≤ 1099511627776)) (hn : Ok (nameOk name)) (hlen : Ok (fs.length ≤ 1099511627776)) :
    FnT Tryz.prog C 53 #[p0 d, str name] [bk d 123 #[.map (some m), n6 room, n6 st, z6 fu, z6 fa, .bool dn], Lm] (fun rv_ rL_ => ∃ e : Nat, ∃ fs1 : Files, ∃ st1 : Nat, ∃ fu1 : Int, ∃ fa1 : Int, ∃ dn1 : Bool, ∃ L1 : Blks, (MapL fileV m fs1 L1) ∧ (Dsk.create ⟨fs, room, st, fu, fa, dn⟩ name = (e, ⟨fs1, room, st1, fu1, fa1, dn1⟩)) ∧ rv_ = n6 e ∧ rL_ = [bk d 123 #[.map (some m), n6 room, n6 st1, z6 fu1, z6 fa1, .bool dn1], L1]) := by
  replace hf := hf.h
  replace ha := ha.h
  replace hst := hst.h
  replace hn := hn.h
  replace hlen := hlen.h
  refine fE 41 Tryz.func53 rfl ?_
  refine cQ [] (True) [(0, p0 d), (1, str name)] (trivial) ?_
  refine cd_seq ?_
  refine cd_rg ?_
  refine rQ [] [0] [1, 2] (True) [(0, p0 d), (1, str name), (8, p0 d)] (trivial) ?_
  refine rC 1 [2] [0] [Lm] (may_any C d (.map (some m)) (n6 room) (n6 st) (z6 fu) (z6 fa) dn) ?_
  rintro _ _ ⟨e1, hf1, rfl, rfl⟩
  refine rQ [] [2] [] (True) [(0, p0 d), (1, str name), (5, n6 e1)] (trivial) ?_
  refine rF ?_
  refine cQ [] (True) [(0, p0 d), (1, str name), (5, n6 e1), (11, .bool ((e1 : Int) != 0))] (trivial) ?_
  refine cI ((e1 : Int) != 0) (fun h1 => ?_) (fun h1 => ?_)
  · have h1p : (e1 : Int) ≠ 0 := by simpa using h1
    refine cQ [] (True) [(4, n6 e1)] (trivial) ?_
    refine cd_ret (then_ret (bot_ret (rv [n6 e1] (n6 e1) ?_)))
    refine ⟨e1, fs, st, fu, fa, dn, Lm, hm, ?_, ?_, rfl⟩
    all_goals first | with_reducible rfl | (exact does_down2 (may_down hf1 (by omega)).1 (may_down hf1 (by omega)).2; done) | (exact does_no2 (by assumption) (by omega) rfl (may_up hf1 (by omega)) (by (try unfold Dsk.there); (try dsimp only); first | rfl | omega | (exact hf2.symm) | (split at hf2 <;> first | omega | rfl | (rw [if_pos (by assumption)]; done) | (rw [if_neg (by assumption)]; done) | (rw [if_pos (by assumption), if_pos (by omega)]; done) | (rw [if_pos (by assumption), if_neg (by omega)]; omega) | (rw [if_neg (by assumption), if_pos (by omega)]; done) | (rw [if_neg (by assumption), if_neg (by omega)]; done) | (rw [if_neg (by assumption)]; omega))); done) | (exact does_yes2 (by assumption) (by omega) rfl (may_up hf1 (by omega)) (by (try unfold Dsk.there); (try dsimp only); first | rfl | omega | (exact hf2.symm) | (split at hf2 <;> first | omega | rfl | (rw [if_pos (by assumption)]; done) | (rw [if_neg (by assumption)]; done) | (rw [if_pos (by assumption), if_pos (by omega)]; done) | (rw [if_pos (by assumption), if_neg (by omega)]; omega) | (rw [if_neg (by assumption), if_pos (by omega)]; done) | (rw [if_neg (by assumption), if_neg (by omega)]; done) | (rw [if_neg (by assumption)]; omega))); done) | with_reducible assumption | omega | rfl | (simp_all; done) | (simp_all; omega)
  · have h1p : ¬ ((e1 : Int) ≠ 0) := by simpa using h1
    refine cd_skip (then_n ?_)
    refine cQ [] (True) [(0, p0 d), (1, str name), (6, z6 0)] (trivial) ?_
    refine cd_seq ?_
    refine cd_block ?_
    refine cd_rg ?_
    refine rQ [] [0] [1, 2, 3] (True) [(0, p0 d), (1, str name), (6, z6 0), (14, str name)] (trivial) ?_
    refine rC 1 [2, 3] [] [bk d 123 #[.map (some m), n6 room, n6 st, z6 fu, z6 fa, .bool dn], Lm] (named_ok C name {}) ?_
    rintro _ _ ⟨rfl, rfl⟩
    refine rQ [] [2, 3] [] (True) [(0, p0 d), (1, str name), (6, z6 0), (13, .bool false)] (trivial) ?_
    refine rF ?_
    refine cNo ?_
    refine cd_rg ?_
    refine rQ [] [0, 1] [2, 3, 4] (True) [(0, p0 d), (1, str name), (6, z6 0), (18, p0 d), (19, str name)] (trivial) ?_
    refine rC 2 [3, 4] [0, 0] [] (there_any C d m fs (n6 room) (n6 st) (z6 fu) (z6 fa) (.bool dn) name Lm hm) ?_
    rintro _ _ ⟨e2, hf2, rfl, rfl⟩
    refine rQ [] [3, 4] [] (True) [(0, p0 d), (1, str name), (6, z6 0), (17, .bool ((e2 : Int) == 0))] (trivial) ?_
    refine rF ?_
    refine cI ((e2 : Int) == 0) (fun h2 => ?_) (fun h2 => ?_)
    · have h2p : (e2 : Int) = 0 := by simpa using h2
      refine cQ0 [] (True) [(0, p0 d), (1, str name), (6, z6 17)] (trivial) ?_
      refine (block_n (then_n ?_))
      refine cd_seq ?_
      refine cd_rg ?_
      refine rQ [] [0, 1] [2, 3] (True) [(0, p0 d), (1, str name), (29, p0 d), (30, z6 17)] (trivial) ?_
      refine rC 2 [3] [0] [Lm] (step_any C d (.map (some m)) (n6 room) st fu fa dn 17 {} {} {}) ?_
      rintro _ _ ⟨e3, st1_1, fu1_1, fa1_1, dn1_1, hf3, rfl, rfl⟩
      refine rQ [] [3] [] (True) [(0, p0 d), (1, str name), (7, n6 e3)] (trivial) ?_
      refine rF ?_
      refine cQ [] (True) [(0, p0 d), (1, str name), (7, n6 e3), (33, .bool ((e3 : Int) != 0))] (trivial) ?_
      refine cI ((e3 : Int) != 0) (fun h3 => ?_) (fun h3 => ?_)
      · have h3p : (e3 : Int) ≠ 0 := by simpa using h3
        refine cQ [] (True) [(4, n6 e3)] (trivial) ?_
        refine cd_ret (then_ret (bot_ret (rv [n6 e3] (n6 e3) ?_)))
        refine ⟨e3, fs, st1_1, fu1_1, fa1_1, dn1_1, Lm, hm, ?_, ?_, rfl⟩
        all_goals first | with_reducible rfl | (exact does_down2 (may_down hf1 (by omega)).1 (may_down hf1 (by omega)).2; done) | (exact does_no2 (by assumption) (by omega) rfl (may_up hf1 (by omega)) (by (try unfold Dsk.there); (try dsimp only); first | rfl | omega | (exact hf2.symm) | (split at hf2 <;> first | omega | rfl | (rw [if_pos (by assumption)]; done) | (rw [if_neg (by assumption)]; done) | (rw [if_pos (by assumption), if_pos (by omega)]; done) | (rw [if_pos (by assumption), if_neg (by omega)]; omega) | (rw [if_neg (by assumption), if_pos (by omega)]; done) | (rw [if_neg (by assumption), if_neg (by omega)]; done) | (rw [if_neg (by assumption)]; omega))); done) | (exact does_yes2 (by assumption) (by omega) rfl (may_up hf1 (by omega)) (by (try unfold Dsk.there); (try dsimp only); first | rfl | omega | (exact hf2.symm) | (split at hf2 <;> first | omega | rfl | (rw [if_pos (by assumption)]; done) | (rw [if_neg (by assumption)]; done) | (rw [if_pos (by assumption), if_pos (by omega)]; done) | (rw [if_pos (by assumption), if_neg (by omega)]; omega) | (rw [if_neg (by assumption), if_pos (by omega)]; done) | (rw [if_neg (by assumption), if_neg (by omega)]; done) | (rw [if_neg (by assumption)]; omega))); done) | with_reducible assumption | omega | rfl | (simp_all; done) | (simp_all; omega)
      · have h3p : ¬ ((e3 : Int) ≠ 0) := by simpa using h3
        refine cd_skip (then_n ?_)
        refine cd_rg ?_
        refine rQ [(3, .at 0)] [0, 1, 2, 3, 4, 5] [6] ((d = d)) [(38, .map (some m)), (39, str name), (40, .agg #[str [], z6 0])] (rfl) ?_
        refine rX 6 [] (do Instr.mapUpdate 121 (.map (some m)) (str name) (.agg #[str [], z6 0]); pure .skip) [1] [Lm] [bk d 123 #[.map (some m), n6 room, n6 st1_1, z6 fu1_1, z6 fa1_1, .bool dn1_1]] (gv_put (enc := fileV) name (⟨[], 0⟩ : FileS) (by kernel_rfl) hm) ?_
        rintro _ _ ⟨rfl, L1, rfl, h4⟩
        refine rD [] ?_
        refine cQ [] (True) [(4, z6 0)] (trivial) ?_
        refine cT [1, 0] [bk d 123 #[.map (some m), n6 room, n6 st1_1, z6 fu1_1, z6 fa1_1, .bool dn1_1], L1] ?_
        refine cd_ret (bot_ret (rv [z6 0] (z6 0) ?_))
        refine ⟨0, putA fs name (⟨[], 0⟩ : FileS), st1_1, fu1_1, fa1_1, dn1_1, L1, h4, ?_, ?_, rfl⟩
        all_goals first | with_reducible rfl | (exact does_down2 (may_down hf1 (by omega)).1 (may_down hf1 (by omega)).2; done) | (exact does_no2 (by assumption) (by omega) rfl (may_up hf1 (by omega)) (by (try unfold Dsk.there); (try dsimp only); first | rfl | omega | (exact hf2.symm) | (split at hf2 <;> first | omega | rfl | (rw [if_pos (by assumption)]; done) | (rw [if_neg (by assumption)]; done) | (rw [if_pos (by assumption), if_pos (by omega)]; done) | (rw [if_pos (by assumption), if_neg (by omega)]; omega) | (rw [if_neg (by assumption), if_pos (by omega)]; done) | (rw [if_neg (by assumption), if_neg (by omega)]; done) | (rw [if_neg (by assumption)]; omega))); done) | (exact does_yes2 (by assumption) (by omega) rfl (may_up hf1 (by omega)) (by (try unfold Dsk.there); (try dsimp only); first | rfl | omega | (exact hf2.symm) | (split at hf2 <;> first | omega | rfl | (rw [if_pos (by assumption)]; done) | (rw [if_neg (by assumption)]; done) | (rw [if_pos (by assumption), if_pos (by omega)]; done) | (rw [if_pos (by assumption), if_neg (by omega)]; omega) | (rw [if_neg (by assumption), if_pos (by omega)]; done) | (rw [if_neg (by assumption), if_neg (by omega)]; done) | (rw [if_neg (by assumption)]; omega))); done) | with_reducible assumption | omega | rfl | (simp_all; done) | (simp_all; omega)
    · have h2p : ¬ ((e2 : Int) = 0) := by simpa using h2
      refine cd_rg ?_
      refine rQ [(3, .at 0)] [0, 1, 2, 3] [4, 5, 6] ((d = d)) [(0, p0 d), (1, str name), (6, z6 0), (26, .map (some m))] (rfl) ?_
      refine rX 4 [5, 6] (do pure (.value (← Builtin.len_ #[121] 3 #[.map (some m)]))) [1] [Lm] [bk d 123 #[.map (some m), n6 room, n6 st, z6 fu, z6 fa, .bool dn]] (gv_maplen (enc := fileV) 3 rfl (by kernel_rfl) hm) ?_
      rintro _ _ ⟨rfl, rfl⟩
      refine rQ [] [5, 6] [] (True) [(0, p0 d), (1, str name), (6, z6 0), (22, .bool (decide ((fs.length : Int) ≥ 200)))] (trivial) ?_
      refine rF ?_
      refine cI (decide ((fs.length : Int) ≥ 200)) (fun h5 => ?_) (fun h5 => ?_)
      · have h5p : (fs.length : Int) ≥ 200 := by simpa using h5
        refine cQ0 [] (True) [(0, p0 d), (1, str name), (6, z6 6)] (trivial) ?_
        refine (block_n (then_n ?_))
        refine cd_seq ?_
        refine cd_rg ?_
        refine rQ [] [0, 1] [2, 3] (True) [(0, p0 d), (1, str name), (29, p0 d), (30, z6 6)] (trivial) ?_
        refine rC 2 [3] [1] [Lm] (step_any C d (.map (some m)) (n6 room) st fu fa dn 6 {} {} {}) ?_
        rintro _ _ ⟨e4, st1_2, fu1_2, fa1_2, dn1_2, hf4, rfl, rfl⟩
        refine rQ [] [3] [] (True) [(0, p0 d), (1, str name), (7, n6 e4)] (trivial) ?_
        refine rF ?_
        refine cQ [] (True) [(0, p0 d), (1, str name), (7, n6 e4), (33, .bool ((e4 : Int) != 0))] (trivial) ?_
        refine cI ((e4 : Int) != 0) (fun h6 => ?_) (fun h6 => ?_)
        · have h6p : (e4 : Int) ≠ 0 := by simpa using h6
          refine cQ [] (True) [(4, n6 e4)] (trivial) ?_
          refine cd_ret (then_ret (bot_ret (rv [n6 e4] (n6 e4) ?_)))
          refine ⟨e4, fs, st1_2, fu1_2, fa1_2, dn1_2, Lm, hm, ?_, ?_, rfl⟩
          all_goals first | with_reducible rfl | (exact does_down2 (may_down hf1 (by omega)).1 (may_down hf1 (by omega)).2; done) | (exact does_no2 (by assumption) (by omega) rfl (may_up hf1 (by omega)) (by (try unfold Dsk.there); (try dsimp only); first | rfl | omega | (exact hf2.symm) | (split at hf2 <;> first | omega | rfl | (rw [if_pos (by assumption)]; done) | (rw [if_neg (by assumption)]; done) | (rw [if_pos (by assumption), if_pos (by omega)]; done) | (rw [if_pos (by assumption), if_neg (by omega)]; omega) | (rw [if_neg (by assumption), if_pos (by omega)]; done) | (rw [if_neg (by assumption), if_neg (by omega)]; done) | (rw [if_neg (by assumption)]; omega))); done) | (exact does_yes2 (by assumption) (by omega) rfl (may_up hf1 (by omega)) (by (try unfold Dsk.there); (try dsimp only); first | rfl | omega | (exact hf2.symm) | (split at hf2 <;> first | omega | rfl | (rw [if_pos (by assumption)]; done) | (rw [if_neg (by assumption)]; done) | (rw [if_pos (by assumption), if_pos (by omega)]; done) | (rw [if_pos (by assumption), if_neg (by omega)]; omega) | (rw [if_neg (by assumption), if_pos (by omega)]; done) | (rw [if_neg (by assumption), if_neg (by omega)]; done) | (rw [if_neg (by assumption)]; omega))); done) | with_reducible assumption | omega | rfl | (simp_all; done) | (simp_all; omega)
        · have h6p : ¬ ((e4 : Int) ≠ 0) := by simpa using h6
          refine cd_skip (then_n ?_)
          refine cd_rg ?_
          refine rQ [(3, .at 0)] [0, 1, 2, 3, 4, 5] [6] ((d = d)) [(38, .map (some m)), (39, str name), (40, .agg #[str [], z6 0])] (rfl) ?_
          refine rX 6 [] (do Instr.mapUpdate 121 (.map (some m)) (str name) (.agg #[str [], z6 0]); pure .skip) [1] [Lm] [bk d 123 #[.map (some m), n6 room, n6 st1_2, z6 fu1_2, z6 fa1_2, .bool dn1_2]] (gv_put (enc := fileV) name (⟨[], 0⟩ : FileS) (by kernel_rfl) hm) ?_
          rintro _ _ ⟨rfl, L2, rfl, h7⟩
          refine rD [] ?_
          refine cQ [] (True) [(4, z6 0)] (trivial) ?_
          refine cT [1, 0] [bk d 123 #[.map (some m), n6 room, n6 st1_2, z6 fu1_2, z6 fa1_2, .bool dn1_2], L2] ?_
          refine cd_ret (bot_ret (rv [z6 0] (z6 0) ?_))
          refine ⟨0, putA fs name (⟨[], 0⟩ : FileS), st1_2, fu1_2, fa1_2, dn1_2, L2, h7, ?_, ?_, rfl⟩
          all_goals first | with_reducible rfl | (exact does_down2 (may_down hf1 (by omega)).1 (may_down hf1 (by omega)).2; done) | (exact does_no2 (by assumption) (by omega) rfl (may_up hf1 (by omega)) (by (try unfold Dsk.there); (try dsimp only); first | rfl | omega | (exact hf2.symm) | (split at hf2 <;> first | omega | rfl | (rw [if_pos (by assumption)]; done) | (rw [if_neg (by assumption)]; done) | (rw [if_pos (by assumption), if_pos (by omega)]; done) | (rw [if_pos (by assumption), if_neg (by omega)]; omega) | (rw [if_neg (by assumption), if_pos (by omega)]; done) | (rw [if_neg (by assumption), if_neg (by omega)]; done) | (rw [if_neg (by assumption)]; omega))); done) | (exact does_yes2 (by assumption) (by omega) rfl (may_up hf1 (by omega)) (by (try unfold Dsk.there); (try dsimp only); first | rfl | omega | (exact hf2.symm) | (split at hf2 <;> first | omega | rfl | (rw [if_pos (by assumption)]; done) | (rw [if_neg (by assumption)]; done) | (rw [if_pos (by assumption), if_pos (by omega)]; done) | (rw [if_pos (by assumption), if_neg (by omega)]; omega) | (rw [if_neg (by assumption), if_pos (by omega)]; done) | (rw [if_neg (by assumption), if_neg (by omega)]; done) | (rw [if_neg (by assumption)]; omega))); done) | with_reducible assumption | omega | rfl | (simp_all; done) | (simp_all; omega)
      · have h5p : ¬ ((fs.length : Int) ≥ 200) := by simpa using h5
        refine cd_skip (block_n (then_n ?_))
        refine cd_seq ?_
        refine cd_rg ?_
        refine rQ [] [0, 1] [2, 3] (True) [(0, p0 d), (1, str name), (29, p0 d), (30, z6 0)] (trivial) ?_
        refine rC 2 [3] [1] [Lm] (step_any C d (.map (some m)) (n6 room) st fu fa dn 0 {} {} {}) ?_
        rintro _ _ ⟨e5, st1_3, fu1_3, fa1_3, dn1_3, hf5, rfl, rfl⟩
        refine rQ [] [3] [] (True) [(0, p0 d), (1, str name), (7, n6 e5)] (trivial) ?_
        refine rF ?_
        refine cQ [] (True) [(0, p0 d), (1, str name), (7, n6 e5), (33, .bool ((e5 : Int) != 0))] (trivial) ?_
        refine cI ((e5 : Int) != 0) (fun h8 => ?_) (fun h8 => ?_)
        · have h8p : (e5 : Int) ≠ 0 := by simpa using h8
          refine cQ [] (True) [(4, n6 e5)] (trivial) ?_
          refine cd_ret (then_ret (bot_ret (rv [n6 e5] (n6 e5) ?_)))
          refine ⟨e5, fs, st1_3, fu1_3, fa1_3, dn1_3, Lm, hm, ?_, ?_, rfl⟩
          all_goals first | with_reducible rfl | (exact does_down2 (may_down hf1 (by omega)).1 (may_down hf1 (by omega)).2; done) | (exact does_no2 (by assumption) (by omega) rfl (may_up hf1 (by omega)) (by (try unfold Dsk.there); (try dsimp only); first | rfl | omega | (exact hf2.symm) | (split at hf2 <;> first | omega | rfl | (rw [if_pos (by assumption)]; done) | (rw [if_neg (by assumption)]; done) | (rw [if_pos (by assumption), if_pos (by omega)]; done) | (rw [if_pos (by assumption), if_neg (by omega)]; omega) | (rw [if_neg (by assumption), if_pos (by omega)]; done) | (rw [if_neg (by assumption), if_neg (by omega)]; done) | (rw [if_neg (by assumption)]; omega))); done) | (exact does_yes2 (by assumption) (by omega) rfl (may_up hf1 (by omega)) (by (try unfold Dsk.there); (try dsimp only); first | rfl | omega | (exact hf2.symm) | (split at hf2 <;> first | omega | rfl | (rw [if_pos (by assumption)]; done) | (rw [if_neg (by assumption)]; done) | (rw [if_pos (by assumption), if_pos (by omega)]; done) | (rw [if_pos (by assumption), if_neg (by omega)]; omega) | (rw [if_neg (by assumption), if_pos (by omega)]; done) | (rw [if_neg (by assumption), if_neg (by omega)]; done) | (rw [if_neg (by assumption)]; omega))); done) | with_reducible assumption | omega | rfl | (simp_all; done) | (simp_all; omega)
        · have h8p : ¬ ((e5 : Int) ≠ 0) := by simpa using h8
          refine cd_skip (then_n ?_)
          refine cd_rg ?_
          refine rQ [(3, .at 0)] [0, 1, 2, 3, 4, 5] [6] ((d = d)) [(38, .map (some m)), (39, str name), (40, .agg #[str [], z6 0])] (rfl) ?_
          refine rX 6 [] (do Instr.mapUpdate 121 (.map (some m)) (str name) (.agg #[str [], z6 0]); pure .skip) [1] [Lm] [bk d 123 #[.map (some m), n6 room, n6 st1_3, z6 fu1_3, z6 fa1_3, .bool dn1_3]] (gv_put (enc := fileV) name (⟨[], 0⟩ : FileS) (by kernel_rfl) hm) ?_
          rintro _ _ ⟨rfl, L3, rfl, h9⟩
          refine rD [] ?_
          refine cQ [] (True) [(4, z6 0)] (trivial) ?_
          refine cT [1, 0] [bk d 123 #[.map (some m), n6 room, n6 st1_3, z6 fu1_3, z6 fa1_3, .bool dn1_3], L3] ?_
          refine cd_ret (bot_ret (rv [z6 0] (z6 0) ?_))
          refine ⟨0, putA fs name (⟨[], 0⟩ : FileS), st1_3, fu1_3, fa1_3, dn1_3, L3, h9, ?_, ?_, rfl⟩
          all_goals first | with_reducible rfl | (exact does_down2 (may_down hf1 (by omega)).1 (may_down hf1 (by omega)).2; done) | (exact does_no2 (by assumption) (by omega) rfl (may_up hf1 (by omega)) (by (try unfold Dsk.there); (try dsimp only); first | rfl | omega | (exact hf2.symm) | (split at hf2 <;> first | omega | rfl | (rw [if_pos (by assumption)]; done) | (rw [if_neg (by assumption)]; done) | (rw [if_pos (by assumption), if_pos (by omega)]; done) | (rw [if_pos (by assumption), if_neg (by omega)]; omega) | (rw [if_neg (by assumption), if_pos (by omega)]; done) | (rw [if_neg (by assumption), if_neg (by omega)]; done) | (rw [if_neg (by assumption)]; omega))); done) | (exact does_yes2 (by assumption) (by omega) rfl (may_up hf1 (by omega)) (by (try unfold Dsk.there); (try dsimp only); first | rfl | omega | (exact hf2.symm) | (split at hf2 <;> first | omega | rfl | (rw [if_pos (by assumption)]; done) | (rw [if_neg (by assumption)]; done) | (rw [if_pos (by assumption), if_pos (by omega)]; done) | (rw [if_pos (by assumption), if_neg (by omega)]; omega) | (rw [if_neg (by assumption), if_pos (by omega)]; done) | (rw [if_neg (by assumption), if_neg (by omega)]; done) | (rw [if_neg (by assumption)]; omega))); done) | with_reducible assumption | omega | rfl | (simp_all; done) | (simp_all; omega)

set_option maxRecDepth 100000 in
theorem create_nil (C : Ctx) (name : List UInt8) :
    FnT Tryz.prog C 53 #[.pointer none, str name] [] (fun rv_ rL_ => rv_ = z6 1 ∧ rL_ = []) := by
  refine fE 41 Tryz.func53 rfl ?_
  refine cQ [] (True) [(0, .pointer none), (1, str name)] (trivial) ?_
  refine cd_seq ?_
  refine cd_rg ?_
  refine rQ [] [0] [1, 2] (True) [(0, .pointer none), (1, str name), (8, .pointer none)] (trivial) ?_
  refine rC 1 [2] [] [] (may_nil C) ?_
  rintro _ _ ⟨rfl, rfl⟩
  refine rQ [] [2] [] (True) [(0, .pointer none), (1, str name), (5, z6 1)] (trivial) ?_
  refine rF ?_
  refine cQ [] (True) [(0, .pointer none), (1, str name), (5, z6 1), (11, .bool true)] (trivial) ?_
  refine cYes ?_
  refine cQ [] (True) [(4, z6 1)] (trivial) ?_
  refine cd_ret (then_ret (bot_ret (rv [z6 1] (z6 1) ?_)))
  refine ⟨?_, rfl⟩
  all_goals first | with_reducible rfl | (skip; done) | with_reducible assumption | omega | rfl | (simp_all; done) | (simp_all; omega)

set_option maxRecDepth 100000 in
theorem sync_any (C : Ctx) (d : Nat) (m : Nat) (fs : Files) (room : Nat) (st : Nat) (fu : Int) (fa : Int) (dn : Bool) (name : List UInt8) (Lm : Blks) (hm : MapL fileV m fs Lm) (hf : Ok (-1 ≤ fu ∧ fu ≤ 1099511627776)) (ha : Ok (-1 ≤ fa ∧ fa ≤ 1099511627776)) (hst : Ok (st ≤ 1099511627776)) :
    FnT Tryz.prog C 57 #[p0 d, str name] [bk d 123 #[.map (some m), n6 room, n6 st, z6 fu, z6 fa, .bool dn], Lm] (fun rv_ rL_ => ∃ e : Nat, ∃ fs1 : Files, ∃ st1 : Nat, ∃ fu1 : Int, ∃ fa1 : Int, ∃ dn1 : Bool, ∃ L1 : Blks, (MapL fileV m fs1 L1) ∧ (Dsk.sync ⟨fs, room, st, fu, fa, dn⟩ name = (e, ⟨fs1, room, st1, fu1, fa1, dn1⟩)) ∧ rv_ = n6 e ∧ rL_ = [bk d 123 #[.map (some m), n6 room, n6 st1, z6 fu1, z6 fa1, .bool dn1], L1]) := by
  replace hf := hf.h
  replace ha := ha.h
  replace hst := hst.h
  refine fE 37 Tryz.func57 rfl ?_
  refine cQ [] (True) [(0, p0 d), (1, str name)] (trivial) ?_
  refine cd_seq ?_
  refine cd_rg ?_
  refine rQ [] [0] [1, 2] (True) [(0, p0 d), (1, str name), (8, p0 d)] (trivial) ?_
  refine rC 1 [2] [0] [Lm] (may_any C d (.map (some m)) (n6 room) (n6 st) (z6 fu) (z6 fa) dn) ?_
  rintro _ _ ⟨e1, hf1, rfl, rfl⟩
  refine rQ [] [2] [] (True) [(0, p0 d), (1, str name), (5, n6 e1)] (trivial) ?_
  refine rF ?_
  refine cQ [] (True) [(0, p0 d), (1, str name), (5, n6 e1), (11, .bool ((e1 : Int) != 0))] (trivial) ?_
  refine cI ((e1 : Int) != 0) (fun h1 => ?_) (fun h1 => ?_)
  · have h1p : (e1 : Int) ≠ 0 := by simpa using h1
    refine cQ [] (True) [(4, n6 e1)] (trivial) ?_
    refine cd_ret (then_ret (bot_ret (rv [n6 e1] (n6 e1) ?_)))
    refine ⟨e1, fs, st, fu, fa, dn, Lm, hm, ?_, ?_, rfl⟩
    all_goals first | with_reducible rfl | (exact does_down2 (may_down hf1 (by omega)).1 (may_down hf1 (by omega)).2; done) | (exact does_no2 (by assumption) (by omega) rfl (may_up hf1 (by omega)) (by (try unfold Dsk.there); (try dsimp only); first | rfl | omega | (exact hf2.symm) | (split at hf2 <;> first | omega | rfl | (rw [if_pos (by assumption)]; done) | (rw [if_neg (by assumption)]; done) | (rw [if_pos (by assumption), if_pos (by omega)]; done) | (rw [if_pos (by assumption), if_neg (by omega)]; omega) | (rw [if_neg (by assumption), if_pos (by omega)]; done) | (rw [if_neg (by assumption), if_neg (by omega)]; done) | (rw [if_neg (by assumption)]; omega))); done) | (exact does_yes2 (by assumption) (by omega) rfl (may_up hf1 (by omega)) (by (try unfold Dsk.there); (try dsimp only); first | rfl | omega | (exact hf2.symm) | (split at hf2 <;> first | omega | rfl | (rw [if_pos (by assumption)]; done) | (rw [if_neg (by assumption)]; done) | (rw [if_pos (by assumption), if_pos (by omega)]; done) | (rw [if_pos (by assumption), if_neg (by omega)]; omega) | (rw [if_neg (by assumption), if_pos (by omega)]; done) | (rw [if_neg (by assumption), if_neg (by omega)]; done) | (rw [if_neg (by assumption)]; omega))); done) | with_reducible assumption | omega | rfl | (simp_all; done) | (simp_all; omega)
  · have h1p : ¬ ((e1 : Int) ≠ 0) := by simpa using h1
    refine cd_skip (then_n ?_)
    refine cd_seq ?_
    refine cd_rg ?_
    refine rQ [] [0, 1, 2] [3, 4, 5] (True) [(0, p0 d), (1, str name), (13, p0 d), (14, p0 d), (15, str name)] (trivial) ?_
    refine rC 3 [4, 5] [0, 0] [] (there_any C d m fs (n6 room) (n6 st) (z6 fu) (z6 fa) (.bool dn) name Lm hm) ?_
    rintro _ _ ⟨e2, hf2, rfl, rfl⟩
    refine rC 4 [5] [0] [Lm] (step_any C d (.map (some m)) (n6 room) st fu fa dn e2 {} {} {}) ?_
    rintro _ _ ⟨e3, st1_1, fu1_1, fa1_1, dn1_1, hf3, rfl, rfl⟩
    refine rQ [] [5] [] (True) [(0, p0 d), (1, str name), (6, n6 e3)] (trivial) ?_
    refine rF ?_
    refine cQ [] (True) [(0, p0 d), (1, str name), (6, n6 e3), (19, .bool ((e3 : Int) != 0))] (trivial) ?_
    refine cI ((e3 : Int) != 0) (fun h2 => ?_) (fun h2 => ?_)
    · have h2p : (e3 : Int) ≠ 0 := by simpa using h2
      refine cQ [] (True) [(4, n6 e3)] (trivial) ?_
      refine cd_ret (then_ret (bot_ret (rv [n6 e3] (n6 e3) ?_)))
      refine ⟨e3, fs, st1_1, fu1_1, fa1_1, dn1_1, Lm, hm, ?_, ?_, rfl⟩
      all_goals first | with_reducible rfl | (exact does_down2 (may_down hf1 (by omega)).1 (may_down hf1 (by omega)).2; done) | (exact does_no2 (by assumption) (by omega) rfl (may_up hf1 (by omega)) (by (try unfold Dsk.there); (try dsimp only); first | rfl | omega | (exact hf2.symm) | (split at hf2 <;> first | omega | rfl | (rw [if_pos (by assumption)]; done) | (rw [if_neg (by assumption)]; done) | (rw [if_pos (by assumption), if_pos (by omega)]; done) | (rw [if_pos (by assumption), if_neg (by omega)]; omega) | (rw [if_neg (by assumption), if_pos (by omega)]; done) | (rw [if_neg (by assumption), if_neg (by omega)]; done) | (rw [if_neg (by assumption)]; omega))); done) | (exact does_yes2 (by assumption) (by omega) rfl (may_up hf1 (by omega)) (by (try unfold Dsk.there); (try dsimp only); first | rfl | omega | (exact hf2.symm) | (split at hf2 <;> first | omega | rfl | (rw [if_pos (by assumption)]; done) | (rw [if_neg (by assumption)]; done) | (rw [if_pos (by assumption), if_pos (by omega)]; done) | (rw [if_pos (by assumption), if_neg (by omega)]; omega) | (rw [if_neg (by assumption), if_pos (by omega)]; done) | (rw [if_neg (by assumption), if_neg (by omega)]; done) | (rw [if_neg (by assumption)]; omega))); done) | with_reducible assumption | omega | rfl | (simp_all; done) | (simp_all; omega)
    · have h2p : ¬ ((e3 : Int) ≠ 0) := by simpa using h2
      refine cd_skip (then_n ?_)
      refine cd_rg ?_
      refine rQ [(3, .at 0)] [0, 1, 2, 3, 4] [5, 6, 7] ((d = d)) [(0, p0 d), (1, str name), (24, .map (some m)), (25, str name)] (rfl) ?_
      refine rX 5 [6, 7] (do pure (.value (← Instr.lookup 121 (.map (some m)) (str name) false))) [1] [Lm] [bk d 123 #[.map (some m), n6 room, n6 st1_1, z6 fu1_1, z6 fa1_1, .bool dn1_1]] (gv_lookup (enc := fileV) name (⟨[], 0⟩ : FileS) (by kernel_rfl) (by kernel_rfl) hm) ?_
      rintro _ _ ⟨rfl, rfl⟩
      refine rN 6 [7] (.cells #[str [], z6 0] 132 (0, 0)) p0 (fun b1 => ?_)
      refine rS [(7, .at 2)] [7] [] ((b1 = b1)) [(0, p0 d), (1, str name), (7, p0 b1)] [Lm, bk d 123 #[.map (some m), n6 room, n6 st1_1, z6 fu1_1, z6 fa1_1, .bool dn1_1], bk b1 132 #[str ((getF fs name).s), n6 ((getF fs name).sure)]] (rfl) ?_
      refine rF ?_
      refine cS [(1, .at 2), (4, .at 2)] ((b1 = b1) ∧ (b1 = b1)) [(0, p0 d), (1, str name), (7, p0 b1)] [Lm, bk d 123 #[.map (some m), n6 room, n6 st1_1, z6 fu1_1, z6 fa1_1, .bool dn1_1], bk b1 132 #[str ((getF fs name).s), n6 (((getF fs name).s).length)]] (⟨rfl, rfl⟩) ?_
      refine dr [bk d 123 #[.map (some m), n6 room, n6 st1_1, z6 fu1_1, z6 fa1_1, .bool dn1_1], bk b1 132 #[str ((getF fs name).s), n6 (((getF fs name).s).length)]] [Lm] [0] 7 ?_
      refine aS [(5, .at 1), (3, .at 0)] [0, 4, 5, 1, 2, 3] ((b1 = b1) ∧ (d = d)) [(34, .map (some m)), (35, str name), (36, .agg #[str ((getF fs name).s), n6 (((getF fs name).s).length)])] (bm 7 63) 1 (⟨rfl, rfl⟩) ?_
      refine aI (i := 6) ?_
      refine xX (do Instr.mapUpdate 121 (.map (some m)) (str name) (.agg #[str ((getF fs name).s), n6 (((getF fs name).s).length)]); pure .skip) [0] [Lm] [] [] (bm 7 127) (gv_put (enc := fileV) name (⟨(getF fs name).s, ((getF fs name).s).length⟩ : FileS) (by kernel_rfl) hm) ?_
      rintro _ _ ⟨rfl, L1, rfl, h3⟩
      refine aE [] [bk d 123 #[.map (some m), n6 room, n6 st1_1, z6 fu1_1, z6 fa1_1, .bool dn1_1], bk b1 132 #[str ((getF fs name).s), n6 (((getF fs name).s).length)], L1] ?_
      refine cQ [] (True) [(4, z6 0)] (trivial) ?_
      refine cT [0, 1] [bk d 123 #[.map (some m), n6 room, n6 st1_1, z6 fu1_1, z6 fa1_1, .bool dn1_1], L1] ?_
      refine cd_ret (bot_ret (rv [z6 0] (z6 0) ?_))
      refine ⟨0, putA fs name (⟨(getF fs name).s, ((getF fs name).s).length⟩ : FileS), st1_1, fu1_1, fa1_1, dn1_1, L1, h3, ?_, ?_, rfl⟩
      all_goals first | with_reducible rfl | (exact does_down2 (may_down hf1 (by omega)).1 (may_down hf1 (by omega)).2; done) | (exact does_no2 (by assumption) (by omega) rfl (may_up hf1 (by omega)) (by (try unfold Dsk.there); (try dsimp only); first | rfl | omega | (exact hf2.symm) | (split at hf2 <;> first | omega | rfl | (rw [if_pos (by assumption)]; done) | (rw [if_neg (by assumption)]; done) | (rw [if_pos (by assumption), if_pos (by omega)]; done) | (rw [if_pos (by assumption), if_neg (by omega)]; omega) | (rw [if_neg (by assumption), if_pos (by omega)]; done) | (rw [if_neg (by assumption), if_neg (by omega)]; done) | (rw [if_neg (by assumption)]; omega))); done) | (exact does_yes2 (by assumption) (by omega) rfl (may_up hf1 (by omega)) (by (try unfold Dsk.there); (try dsimp only); first | rfl | omega | (exact hf2.symm) | (split at hf2 <;> first | omega | rfl | (rw [if_pos (by assumption)]; done) | (rw [if_neg (by assumption)]; done) | (rw [if_pos (by assumption), if_pos (by omega)]; done) | (rw [if_pos (by assumption), if_neg (by omega)]; omega) | (rw [if_neg (by assumption), if_pos (by omega)]; done) | (rw [if_neg (by assumption), if_neg (by omega)]; done) | (rw [if_neg (by assumption)]; omega))); done) | with_reducible assumption | omega | rfl | (simp_all; done) | (simp_all; omega)

set_option maxRecDepth 100000 in
theorem append_any (C : Ctx) (d : Nat) (m : Nat) (fs : Files) (room : Nat) (st : Nat) (fu : Int) (fa : Int) (dn : Bool) (name : List UInt8) (data : List UInt8) (Lm : Blks) (hm : MapL fileV m fs Lm) (hf : Ok (-1 ≤ fu ∧ fu ≤ 1099511627776)) (ha : Ok (-1 ≤ fa ∧ fa ≤ 1099511627776)) (hst : Ok (st ≤ 1099511627776)) (h12 : Ok (fs.length ≤ 12)) (hu : Ok (usedF fs ≤ 1099511627776)) (hd : Ok (data.length ≤ 1099511627776)) (hfl : Ok (∀ k, (getF fs k).s.length ≤ 1099511627776)) :
    FnT Tryz.prog C 56 #[p0 d, str name, str data] [bk d 123 #[.map (some m), n6 room, n6 st, z6 fu, z6 fa, .bool dn], Lm] (fun rv_ rL_ => ∃ e : Nat, ∃ fs1 : Files, ∃ st1 : Nat, ∃ fu1 : Int, ∃ fa1 : Int, ∃ dn1 : Bool, ∃ L1 : Blks, (MapL fileV m fs1 L1) ∧ (Dsk.append ⟨fs, room, st, fu, fa, dn⟩ name data = (e, ⟨fs1, room, st1, fu1, fa1, dn1⟩)) ∧ rv_ = n6 e ∧ rL_ = [bk d 123 #[.map (some m), n6 room, n6 st1, z6 fu1, z6 fa1, .bool dn1], L1]) := by
  replace hf := hf.h
  replace ha := ha.h
  replace hst := hst.h
  replace h12 := h12.h
  replace hu := hu.h
  replace hd := hd.h
  replace hfl := hfl.h
  refine fE 56 Tryz.func56 rfl ?_
  refine cQ [] (True) [(0, p0 d), (1, str name), (2, str data)] (trivial) ?_
  refine cd_seq ?_
  refine cd_rg ?_
  refine rQ [] [0] [1, 2] (True) [(0, p0 d), (1, str name), (2, str data), (11, p0 d)] (trivial) ?_
  refine rC 1 [2] [0] [Lm] (may_any C d (.map (some m)) (n6 room) (n6 st) (z6 fu) (z6 fa) dn) ?_
  rintro _ _ ⟨e1, hf1, rfl, rfl⟩
  refine rQ [] [2] [] (True) [(0, p0 d), (1, str name), (2, str data), (7, n6 e1)] (trivial) ?_
  refine rF ?_
  refine cQ [] (True) [(0, p0 d), (1, str name), (2, str data), (7, n6 e1), (14, .bool ((e1 : Int) != 0))] (trivial) ?_
  refine cI ((e1 : Int) != 0) (fun h1 => ?_) (fun h1 => ?_)
  · have h1p : (e1 : Int) ≠ 0 := by simpa using h1
    refine cQ [] (True) [(6, n6 e1)] (trivial) ?_
    refine cd_ret (then_ret (bot_ret (rv [n6 e1] (n6 e1) ?_)))
    refine ⟨e1, fs, st, fu, fa, dn, Lm, hm, ?_, ?_, rfl⟩
    all_goals first | with_reducible rfl | (exact does_down2 (may_down hf1 (by omega)).1 (may_down hf1 (by omega)).2; done) | (exact does_no2 (by assumption) (by omega) rfl (may_up hf1 (by omega)) (by (try unfold Dsk.there); (try dsimp only); first | rfl | omega | (exact hf2.symm) | (split at hf2 <;> first | omega | rfl | (rw [if_pos (by assumption)]; done) | (rw [if_neg (by assumption)]; done) | (rw [if_pos (by assumption), if_pos (by omega)]; done) | (rw [if_pos (by assumption), if_neg (by omega)]; omega) | (rw [if_neg (by assumption), if_pos (by omega)]; done) | (rw [if_neg (by assumption), if_neg (by omega)]; done) | (rw [if_neg (by assumption)]; omega))); done) | (exact does_yes2 (by assumption) (by omega) rfl (may_up hf1 (by omega)) (by (try unfold Dsk.there); (try dsimp only); first | rfl | omega | (exact hf2.symm) | (split at hf2 <;> first | omega | rfl | (rw [if_pos (by assumption)]; done) | (rw [if_neg (by assumption)]; done) | (rw [if_pos (by assumption), if_pos (by omega)]; done) | (rw [if_pos (by assumption), if_neg (by omega)]; omega) | (rw [if_neg (by assumption), if_pos (by omega)]; done) | (rw [if_neg (by assumption), if_neg (by omega)]; done) | (rw [if_neg (by assumption)]; omega))); done) | with_reducible assumption | omega | rfl | (simp_all; done) | (simp_all; omega)
  · have h1p : ¬ ((e1 : Int) ≠ 0) := by simpa using h1
    refine cd_skip (then_n ?_)
    refine cd_rg ?_
    refine rQ [] [0, 1] [2, 3] (True) [(0, p0 d), (1, str name), (2, str data), (16, p0 d), (17, str name)] (trivial) ?_
    refine rC 2 [3] [0, 0] [] (there_any C d m fs (n6 room) (n6 st) (z6 fu) (z6 fa) (.bool dn) name Lm hm) ?_
    rintro _ _ ⟨e2, hf2, rfl, rfl⟩
    refine rQ [] [3] [] (True) [(0, p0 d), (1, str name), (2, str data), (8, n6 e2)] (trivial) ?_
    refine rF ?_
    refine cd_seq ?_
    refine dr [] [bk d 123 #[.map (some m), n6 room, n6 st, z6 fu, z6 fa, .bool dn], Lm] [0, 0] 14 ?_
    refine aS [] [0, 1, 2] (True) [(0, p0 d), (1, str name), (2, str data), (8, n6 e2), (21, .bool ((e2 : Int) == 0))] (bm 14 7) 11 (trivial) ?_
    refine aB 21 ((e2 : Int) == 0) (fun g1 => ?_) (fun g1 => ?_)
    · have g1p : (e2 : Int) = 0 := by simpa using g1
      refine aS [] [3, 5, 8, 6, 9, 10] (True) [(0, p0 d), (1, str name), (2, str data), (8, n6 e2), (21, .bool true), (22, p0 d), (25, n6 data.length), (29, pq d 1)] (bm 14 1903) 5 (trivial) ?_
      refine aII (i := 4) (j := 11) ?_ ?_
      ·
        refine xC [0, 0] [] [0, 1, 2, 8, 21, 23, 25, 29] (bm 14 1919) (used_any C d m fs room st fu fa dn Lm hm {} {}) ?_
        rintro _ _ ⟨rfl, rfl⟩
        refine aS [] [7] ((inKind .i64 (((usedF fs : Nat) : Int) + (data.length : Int)))) [(0, p0 d), (1, str name), (2, str data), (8, n6 e2), (21, .bool true), (26, n6 ((usedF fs) + data.length)), (29, pq d 1)] (bm 14 2047) 3 (inK_i64 (by omega)) ?_
        refine aI (i := 11) ?_
        refine xQ [(11, .at 0)] (d = d) [(0, p0 d), (1, str name), (2, str data), (8, n6 e2), (21, .bool true), (26, n6 ((usedF fs) + data.length)), (30, n6 room)] (bm 14 4095) (rfl) ?_
        refine aS [] [12, 13] (True) [(0, p0 d), (1, str name), (2, str data), (8, n6 e2), (32, .bool (decide ((((usedF fs : Nat) : Int) + (data.length : Int)) > (room : Int))))] (bm 14 16383) 0 (trivial) ?_
        refine aE [(0, p0 d), (1, str name), (2, str data), (8, n6 e2), (32, .bool (decide ((((usedF fs : Nat) : Int) + (data.length : Int)) > (room : Int))))] [bk d 123 #[.map (some m), n6 room, n6 st, z6 fu, z6 fa, .bool dn], Lm] ?_
        refine cI (decide ((((usedF fs : Nat) : Int) + (data.length : Int)) > (room : Int))) (fun h2 => ?_) (fun h2 => ?_)
        · have h2p : (((usedF fs : Nat) : Int) + (data.length : Int)) > (room : Int) := by simpa using h2
          refine cQ0 [] (True) [(0, p0 d), (1, str name), (2, str data), (8, z6 14)] (trivial) ?_
          refine (then_n ?_)
          refine cd_seq ?_
          refine cd_rg ?_
          refine rQ [] [0, 1] [2, 3] (True) [(0, p0 d), (1, str name), (2, str data), (33, p0 d), (34, z6 14)] (trivial) ?_
          refine rC 2 [3] [0] [Lm] (step_any C d (.map (some m)) (n6 room) st fu fa dn 14 {} {} {}) ?_
          rintro _ _ ⟨e3, st1_1, fu1_1, fa1_1, dn1_1, hf3, rfl, rfl⟩
          refine rQ [] [3] [] (True) [(0, p0 d), (1, str name), (2, str data), (9, n6 e3)] (trivial) ?_
          refine rF ?_
          refine cQ [] (True) [(0, p0 d), (1, str name), (2, str data), (9, n6 e3), (37, .bool ((e3 : Int) != 0))] (trivial) ?_
          refine cI ((e3 : Int) != 0) (fun h3 => ?_) (fun h3 => ?_)
          · have h3p : (e3 : Int) ≠ 0 := by simpa using h3
            refine cQ [] (True) [(6, n6 e3)] (trivial) ?_
            refine cd_ret (then_ret (bot_ret (rv [n6 e3] (n6 e3) ?_)))
            refine ⟨e3, fs, st1_1, fu1_1, fa1_1, dn1_1, Lm, hm, ?_, ?_, rfl⟩
            all_goals first | with_reducible rfl | (exact does_down2 (may_down hf1 (by omega)).1 (may_down hf1 (by omega)).2; done) | (exact does_no2 (by assumption) (by omega) rfl (may_up hf1 (by omega)) (by (try unfold Dsk.there); (try dsimp only); first | rfl | omega | (exact hf2.symm) | (split at hf2 <;> first | omega | rfl | (rw [if_pos (by assumption)]; done) | (rw [if_neg (by assumption)]; done) | (rw [if_pos (by assumption), if_pos (by omega)]; done) | (rw [if_pos (by assumption), if_neg (by omega)]; omega) | (rw [if_neg (by assumption), if_pos (by omega)]; done) | (rw [if_neg (by assumption), if_neg (by omega)]; done) | (rw [if_neg (by assumption)]; omega))); done) | (exact does_yes2 (by assumption) (by omega) rfl (may_up hf1 (by omega)) (by (try unfold Dsk.there); (try dsimp only); first | rfl | omega | (exact hf2.symm) | (split at hf2 <;> first | omega | rfl | (rw [if_pos (by assumption)]; done) | (rw [if_neg (by assumption)]; done) | (rw [if_pos (by assumption), if_pos (by omega)]; done) | (rw [if_pos (by assumption), if_neg (by omega)]; omega) | (rw [if_neg (by assumption), if_pos (by omega)]; done) | (rw [if_neg (by assumption), if_neg (by omega)]; done) | (rw [if_neg (by assumption)]; omega))); done) | with_reducible assumption | omega | rfl | (simp_all; done) | (simp_all; omega)
          · have h3p : ¬ ((e3 : Int) ≠ 0) := by simpa using h3
            refine cd_skip (then_n ?_)
            refine cd_rg ?_
            refine rQ [(3, .at 0)] [0, 1, 2, 3, 4] [5, 6, 7] ((d = d)) [(0, p0 d), (1, str name), (2, str data), (42, .map (some m)), (43, str name)] (rfl) ?_
            refine rX 5 [6, 7] (do pure (.value (← Instr.lookup 121 (.map (some m)) (str name) false))) [1] [Lm] [bk d 123 #[.map (some m), n6 room, n6 st1_1, z6 fu1_1, z6 fa1_1, .bool dn1_1]] (gv_lookup (enc := fileV) name (⟨[], 0⟩ : FileS) (by kernel_rfl) (by kernel_rfl) hm) ?_
            rintro _ _ ⟨rfl, rfl⟩
            refine rN 6 [7] (.cells #[str [], z6 0] 132 (0, 0)) p0 (fun b1 => ?_)
            refine rS [(7, .at 2)] [7] [] ((b1 = b1)) [(0, p0 d), (1, str name), (2, str data), (10, p0 b1)] [Lm, bk d 123 #[.map (some m), n6 room, n6 st1_1, z6 fu1_1, z6 fa1_1, .bool dn1_1], bk b1 132 #[str ((getF fs name).s), n6 ((getF fs name).sure)]] (rfl) ?_
            refine rF ?_
            refine cS [(1, .at 2), (5, .at 2)] ((b1 = b1) ∧ (((getF fs name).s).length + data.length ≤ 9223372036854775807) ∧ (b1 = b1)) [(0, p0 d), (1, str name), (10, p0 b1)] [Lm, bk d 123 #[.map (some m), n6 room, n6 st1_1, z6 fu1_1, z6 fa1_1, .bool dn1_1], bk b1 132 #[str (((getF fs name).s) ++ data), n6 ((getF fs name).sure)]] (⟨rfl, by have := hfl name; omega, rfl⟩) ?_
            refine dr [bk d 123 #[.map (some m), n6 room, n6 st1_1, z6 fu1_1, z6 fa1_1, .bool dn1_1], bk b1 132 #[str (((getF fs name).s) ++ data), n6 ((getF fs name).sure)]] [Lm] [0] 7 ?_
            refine aS [(5, .at 1), (3, .at 0)] [0, 4, 5, 1, 2, 3] ((b1 = b1) ∧ (d = d)) [(53, .map (some m)), (54, str name), (55, .agg #[str (((getF fs name).s) ++ data), n6 ((getF fs name).sure)])] (bm 7 63) 1 (⟨rfl, rfl⟩) ?_
            refine aI (i := 6) ?_
            refine xX (do Instr.mapUpdate 121 (.map (some m)) (str name) (.agg #[str (((getF fs name).s) ++ data), n6 ((getF fs name).sure)]); pure .skip) [0] [Lm] [] [] (bm 7 127) (gv_put (enc := fileV) name (⟨((getF fs name).s) ++ data, (getF fs name).sure⟩ : FileS) (by kernel_rfl) hm) ?_
            rintro _ _ ⟨rfl, L1, rfl, h4⟩
            refine aE [] [bk d 123 #[.map (some m), n6 room, n6 st1_1, z6 fu1_1, z6 fa1_1, .bool dn1_1], bk b1 132 #[str (((getF fs name).s) ++ data), n6 ((getF fs name).sure)], L1] ?_
            refine cQ [] (True) [(6, z6 0)] (trivial) ?_
            refine cT [0, 1] [bk d 123 #[.map (some m), n6 room, n6 st1_1, z6 fu1_1, z6 fa1_1, .bool dn1_1], L1] ?_
            refine cd_ret (bot_ret (rv [z6 0] (z6 0) ?_))
            refine ⟨0, putA fs name (⟨((getF fs name).s) ++ data, (getF fs name).sure⟩ : FileS), st1_1, fu1_1, fa1_1, dn1_1, L1, h4, ?_, ?_, rfl⟩
            all_goals first | with_reducible rfl | (exact does_down2 (may_down hf1 (by omega)).1 (may_down hf1 (by omega)).2; done) | (exact does_no2 (by assumption) (by omega) rfl (may_up hf1 (by omega)) (by (try unfold Dsk.there); (try dsimp only); first | rfl | omega | (exact hf2.symm) | (split at hf2 <;> first | omega | rfl | (rw [if_pos (by assumption)]; done) | (rw [if_neg (by assumption)]; done) | (rw [if_pos (by assumption), if_pos (by omega)]; done) | (rw [if_pos (by assumption), if_neg (by omega)]; omega) | (rw [if_neg (by assumption), if_pos (by omega)]; done) | (rw [if_neg (by assumption), if_neg (by omega)]; done) | (rw [if_neg (by assumption)]; omega))); done) | (exact does_yes2 (by assumption) (by omega) rfl (may_up hf1 (by omega)) (by (try unfold Dsk.there); (try dsimp only); first | rfl | omega | (exact hf2.symm) | (split at hf2 <;> first | omega | rfl | (rw [if_pos (by assumption)]; done) | (rw [if_neg (by assumption)]; done) | (rw [if_pos (by assumption), if_pos (by omega)]; done) | (rw [if_pos (by assumption), if_neg (by omega)]; omega) | (rw [if_neg (by assumption), if_pos (by omega)]; done) | (rw [if_neg (by assumption), if_neg (by omega)]; done) | (rw [if_neg (by assumption)]; omega))); done) | with_reducible assumption | omega | rfl | (simp_all; done) | (simp_all; omega)
        · have h2p : ¬ ((((usedF fs : Nat) : Int) + (data.length : Int)) > (room : Int)) := by simpa using h2
          refine cd_skip (then_n ?_)
          refine cd_seq ?_
          refine cd_rg ?_
          refine rQ [] [0, 1] [2, 3] (True) [(0, p0 d), (1, str name), (2, str data), (33, p0 d), (34, n6 e2)] (trivial) ?_
          refine rC 2 [3] [0] [Lm] (step_any C d (.map (some m)) (n6 room) st fu fa dn e2 {} {} {}) ?_
          rintro _ _ ⟨e4, st1_2, fu1_2, fa1_2, dn1_2, hf4, rfl, rfl⟩
          refine rQ [] [3] [] (True) [(0, p0 d), (1, str name), (2, str data), (9, n6 e4)] (trivial) ?_
          refine rF ?_
          refine cQ [] (True) [(0, p0 d), (1, str name), (2, str data), (9, n6 e4), (37, .bool ((e4 : Int) != 0))] (trivial) ?_
          refine cI ((e4 : Int) != 0) (fun h5 => ?_) (fun h5 => ?_)
          · have h5p : (e4 : Int) ≠ 0 := by simpa using h5
            refine cQ [] (True) [(6, n6 e4)] (trivial) ?_
            refine cd_ret (then_ret (bot_ret (rv [n6 e4] (n6 e4) ?_)))
            refine ⟨e4, fs, st1_2, fu1_2, fa1_2, dn1_2, Lm, hm, ?_, ?_, rfl⟩
            all_goals first | with_reducible rfl | (exact does_down2 (may_down hf1 (by omega)).1 (may_down hf1 (by omega)).2; done) | (exact does_no2 (by assumption) (by omega) rfl (may_up hf1 (by omega)) (by (try unfold Dsk.there); (try dsimp only); first | rfl | omega | (exact hf2.symm) | (split at hf2 <;> first | omega | rfl | (rw [if_pos (by assumption)]; done) | (rw [if_neg (by assumption)]; done) | (rw [if_pos (by assumption), if_pos (by omega)]; done) | (rw [if_pos (by assumption), if_neg (by omega)]; omega) | (rw [if_neg (by assumption), if_pos (by omega)]; done) | (rw [if_neg (by assumption), if_neg (by omega)]; done) | (rw [if_neg (by assumption)]; omega))); done) | (exact does_yes2 (by assumption) (by omega) rfl (may_up hf1 (by omega)) (by (try unfold Dsk.there); (try dsimp only); first | rfl | omega | (exact hf2.symm) | (split at hf2 <;> first | omega | rfl | (rw [if_pos (by assumption)]; done) | (rw [if_neg (by assumption)]; done) | (rw [if_pos (by assumption), if_pos (by omega)]; done) | (rw [if_pos (by assumption), if_neg (by omega)]; omega) | (rw [if_neg (by assumption), if_pos (by omega)]; done) | (rw [if_neg (by assumption), if_neg (by omega)]; done) | (rw [if_neg (by assumption)]; omega))); done) | with_reducible assumption | omega | rfl | (simp_all; done) | (simp_all; omega)
          · have h5p : ¬ ((e4 : Int) ≠ 0) := by simpa using h5
            refine cd_skip (then_n ?_)
            refine cd_rg ?_
            refine rQ [(3, .at 0)] [0, 1, 2, 3, 4] [5, 6, 7] ((d = d)) [(0, p0 d), (1, str name), (2, str data), (42, .map (some m)), (43, str name)] (rfl) ?_
            refine rX 5 [6, 7] (do pure (.value (← Instr.lookup 121 (.map (some m)) (str name) false))) [1] [Lm] [bk d 123 #[.map (some m), n6 room, n6 st1_2, z6 fu1_2, z6 fa1_2, .bool dn1_2]] (gv_lookup (enc := fileV) name (⟨[], 0⟩ : FileS) (by kernel_rfl) (by kernel_rfl) hm) ?_
            rintro _ _ ⟨rfl, rfl⟩
            refine rN 6 [7] (.cells #[str [], z6 0] 132 (0, 0)) p0 (fun b2 => ?_)
            refine rS [(7, .at 2)] [7] [] ((b2 = b2)) [(0, p0 d), (1, str name), (2, str data), (10, p0 b2)] [Lm, bk d 123 #[.map (some m), n6 room, n6 st1_2, z6 fu1_2, z6 fa1_2, .bool dn1_2], bk b2 132 #[str ((getF fs name).s), n6 ((getF fs name).sure)]] (rfl) ?_
            refine rF ?_
            refine cS [(1, .at 2), (5, .at 2)] ((b2 = b2) ∧ (((getF fs name).s).length + data.length ≤ 9223372036854775807) ∧ (b2 = b2)) [(0, p0 d), (1, str name), (10, p0 b2)] [Lm, bk d 123 #[.map (some m), n6 room, n6 st1_2, z6 fu1_2, z6 fa1_2, .bool dn1_2], bk b2 132 #[str (((getF fs name).s) ++ data), n6 ((getF fs name).sure)]] (⟨rfl, by have := hfl name; omega, rfl⟩) ?_
            refine dr [bk d 123 #[.map (some m), n6 room, n6 st1_2, z6 fu1_2, z6 fa1_2, .bool dn1_2], bk b2 132 #[str (((getF fs name).s) ++ data), n6 ((getF fs name).sure)]] [Lm] [0] 7 ?_
            refine aS [(5, .at 1), (3, .at 0)] [0, 4, 5, 1, 2, 3] ((b2 = b2) ∧ (d = d)) [(53, .map (some m)), (54, str name), (55, .agg #[str (((getF fs name).s) ++ data), n6 ((getF fs name).sure)])] (bm 7 63) 1 (⟨rfl, rfl⟩) ?_
            refine aI (i := 6) ?_
            refine xX (do Instr.mapUpdate 121 (.map (some m)) (str name) (.agg #[str (((getF fs name).s) ++ data), n6 ((getF fs name).sure)]); pure .skip) [0] [Lm] [] [] (bm 7 127) (gv_put (enc := fileV) name (⟨((getF fs name).s) ++ data, (getF fs name).sure⟩ : FileS) (by kernel_rfl) hm) ?_
            rintro _ _ ⟨rfl, L2, rfl, h6⟩
            refine aE [] [bk d 123 #[.map (some m), n6 room, n6 st1_2, z6 fu1_2, z6 fa1_2, .bool dn1_2], bk b2 132 #[str (((getF fs name).s) ++ data), n6 ((getF fs name).sure)], L2] ?_
            refine cQ [] (True) [(6, z6 0)] (trivial) ?_
            refine cT [0, 1] [bk d 123 #[.map (some m), n6 room, n6 st1_2, z6 fu1_2, z6 fa1_2, .bool dn1_2], L2] ?_
            refine cd_ret (bot_ret (rv [z6 0] (z6 0) ?_))
            refine ⟨0, putA fs name (⟨((getF fs name).s) ++ data, (getF fs name).sure⟩ : FileS), st1_2, fu1_2, fa1_2, dn1_2, L2, h6, ?_, ?_, rfl⟩
            all_goals first | with_reducible rfl | (exact does_down2 (may_down hf1 (by omega)).1 (may_down hf1 (by omega)).2; done) | (exact does_no2 (by assumption) (by omega) rfl (may_up hf1 (by omega)) (by (try unfold Dsk.there); (try dsimp only); first | rfl | omega | (exact hf2.symm) | (split at hf2 <;> first | omega | rfl | (rw [if_pos (by assumption)]; done) | (rw [if_neg (by assumption)]; done) | (rw [if_pos (by assumption), if_pos (by omega)]; done) | (rw [if_pos (by assumption), if_neg (by omega)]; omega) | (rw [if_neg (by assumption), if_pos (by omega)]; done) | (rw [if_neg (by assumption), if_neg (by omega)]; done) | (rw [if_neg (by assumption)]; omega))); done) | (exact does_yes2 (by assumption) (by omega) rfl (may_up hf1 (by omega)) (by (try unfold Dsk.there); (try dsimp only); first | rfl | omega | (exact hf2.symm) | (split at hf2 <;> first | omega | rfl | (rw [if_pos (by assumption)]; done) | (rw [if_neg (by assumption)]; done) | (rw [if_pos (by assumption), if_pos (by omega)]; done) | (rw [if_pos (by assumption), if_neg (by omega)]; omega) | (rw [if_neg (by assumption), if_pos (by omega)]; done) | (rw [if_neg (by assumption), if_neg (by omega)]; done) | (rw [if_neg (by assumption)]; omega))); done) | with_reducible assumption | omega | rfl | (simp_all; done) | (simp_all; omega)
      ·
        refine xQ [(11, .at 0)] (d = d) [(0, p0 d), (1, str name), (2, str data), (8, n6 e2), (21, .bool true), (22, p0 d), (25, n6 data.length), (30, n6 room)] (bm 14 3951) (rfl) ?_
        refine aI (i := 4) ?_
        refine xC [0, 0] [] [0, 1, 2, 8, 21, 23, 25, 30] (bm 14 3967) (used_any C d m fs room st fu fa dn Lm hm {} {}) ?_
        rintro _ _ ⟨rfl, rfl⟩
        refine aS [] [7, 12, 13] ((inKind .i64 (((usedF fs : Nat) : Int) + (data.length : Int)))) [(0, p0 d), (1, str name), (2, str data), (8, n6 e2), (32, .bool (decide ((((usedF fs : Nat) : Int) + (data.length : Int)) > (room : Int))))] (bm 14 16383) 0 (inK_i64 (by omega)) ?_
        refine aE [(0, p0 d), (1, str name), (2, str data), (8, n6 e2), (32, .bool (decide ((((usedF fs : Nat) : Int) + (data.length : Int)) > (room : Int))))] [bk d 123 #[.map (some m), n6 room, n6 st, z6 fu, z6 fa, .bool dn], Lm] ?_
        refine cI (decide ((((usedF fs : Nat) : Int) + (data.length : Int)) > (room : Int))) (fun h7 => ?_) (fun h7 => ?_)
        · have h7p : (((usedF fs : Nat) : Int) + (data.length : Int)) > (room : Int) := by simpa using h7
          refine cQ0 [] (True) [(0, p0 d), (1, str name), (2, str data), (8, z6 14)] (trivial) ?_
          refine (then_n ?_)
          refine cd_seq ?_
          refine cd_rg ?_
          refine rQ [] [0, 1] [2, 3] (True) [(0, p0 d), (1, str name), (2, str data), (33, p0 d), (34, z6 14)] (trivial) ?_
          refine rC 2 [3] [0] [Lm] (step_any C d (.map (some m)) (n6 room) st fu fa dn 14 {} {} {}) ?_
          rintro _ _ ⟨e5, st1_3, fu1_3, fa1_3, dn1_3, hf5, rfl, rfl⟩
          refine rQ [] [3] [] (True) [(0, p0 d), (1, str name), (2, str data), (9, n6 e5)] (trivial) ?_
          refine rF ?_
          refine cQ [] (True) [(0, p0 d), (1, str name), (2, str data), (9, n6 e5), (37, .bool ((e5 : Int) != 0))] (trivial) ?_
          refine cI ((e5 : Int) != 0) (fun h8 => ?_) (fun h8 => ?_)
          · have h8p : (e5 : Int) ≠ 0 := by simpa using h8
            refine cQ [] (True) [(6, n6 e5)] (trivial) ?_
            refine cd_ret (then_ret (bot_ret (rv [n6 e5] (n6 e5) ?_)))
            refine ⟨e5, fs, st1_3, fu1_3, fa1_3, dn1_3, Lm, hm, ?_, ?_, rfl⟩
            all_goals first | with_reducible rfl | (exact does_down2 (may_down hf1 (by omega)).1 (may_down hf1 (by omega)).2; done) | (exact does_no2 (by assumption) (by omega) rfl (may_up hf1 (by omega)) (by (try unfold Dsk.there); (try dsimp only); first | rfl | omega | (exact hf2.symm) | (split at hf2 <;> first | omega | rfl | (rw [if_pos (by assumption)]; done) | (rw [if_neg (by assumption)]; done) | (rw [if_pos (by assumption), if_pos (by omega)]; done) | (rw [if_pos (by assumption), if_neg (by omega)]; omega) | (rw [if_neg (by assumption), if_pos (by omega)]; done) | (rw [if_neg (by assumption), if_neg (by omega)]; done) | (rw [if_neg (by assumption)]; omega))); done) | (exact does_yes2 (by assumption) (by omega) rfl (may_up hf1 (by omega)) (by (try unfold Dsk.there); (try dsimp only); first | rfl | omega | (exact hf2.symm) | (split at hf2 <;> first | omega | rfl | (rw [if_pos (by assumption)]; done) | (rw [if_neg (by assumption)]; done) | (rw [if_pos (by assumption), if_pos (by omega)]; done) | (rw [if_pos (by assumption), if_neg (by omega)]; omega) | (rw [if_neg (by assumption), if_pos (by omega)]; done) | (rw [if_neg (by assumption), if_neg (by omega)]; done) | (rw [if_neg (by assumption)]; omega))); done) | with_reducible assumption | omega | rfl | (simp_all; done) | (simp_all; omega)
          · have h8p : ¬ ((e5 : Int) ≠ 0) := by simpa using h8
            refine cd_skip (then_n ?_)
            refine cd_rg ?_
            refine rQ [(3, .at 0)] [0, 1, 2, 3, 4] [5, 6, 7] ((d = d)) [(0, p0 d), (1, str name), (2, str data), (42, .map (some m)), (43, str name)] (rfl) ?_
            refine rX 5 [6, 7] (do pure (.value (← Instr.lookup 121 (.map (some m)) (str name) false))) [1] [Lm] [bk d 123 #[.map (some m), n6 room, n6 st1_3, z6 fu1_3, z6 fa1_3, .bool dn1_3]] (gv_lookup (enc := fileV) name (⟨[], 0⟩ : FileS) (by kernel_rfl) (by kernel_rfl) hm) ?_
            rintro _ _ ⟨rfl, rfl⟩
            refine rN 6 [7] (.cells #[str [], z6 0] 132 (0, 0)) p0 (fun b3 => ?_)
            refine rS [(7, .at 2)] [7] [] ((b3 = b3)) [(0, p0 d), (1, str name), (2, str data), (10, p0 b3)] [Lm, bk d 123 #[.map (some m), n6 room, n6 st1_3, z6 fu1_3, z6 fa1_3, .bool dn1_3], bk b3 132 #[str ((getF fs name).s), n6 ((getF fs name).sure)]] (rfl) ?_
            refine rF ?_
            refine cS [(1, .at 2), (5, .at 2)] ((b3 = b3) ∧ (((getF fs name).s).length + data.length ≤ 9223372036854775807) ∧ (b3 = b3)) [(0, p0 d), (1, str name), (10, p0 b3)] [Lm, bk d 123 #[.map (some m), n6 room, n6 st1_3, z6 fu1_3, z6 fa1_3, .bool dn1_3], bk b3 132 #[str (((getF fs name).s) ++ data), n6 ((getF fs name).sure)]] (⟨rfl, by have := hfl name; omega, rfl⟩) ?_
            refine dr [bk d 123 #[.map (some m), n6 room, n6 st1_3, z6 fu1_3, z6 fa1_3, .bool dn1_3], bk b3 132 #[str (((getF fs name).s) ++ data), n6 ((getF fs name).sure)]] [Lm] [0] 7 ?_
            refine aS [(5, .at 1), (3, .at 0)] [0, 4, 5, 1, 2, 3] ((b3 = b3) ∧ (d = d)) [(53, .map (some m)), (54, str name), (55, .agg #[str (((getF fs name).s) ++ data), n6 ((getF fs name).sure)])] (bm 7 63) 1 (⟨rfl, rfl⟩) ?_
            refine aI (i := 6) ?_
            refine xX (do Instr.mapUpdate 121 (.map (some m)) (str name) (.agg #[str (((getF fs name).s) ++ data), n6 ((getF fs name).sure)]); pure .skip) [0] [Lm] [] [] (bm 7 127) (gv_put (enc := fileV) name (⟨((getF fs name).s) ++ data, (getF fs name).sure⟩ : FileS) (by kernel_rfl) hm) ?_
            rintro _ _ ⟨rfl, L3, rfl, h9⟩
            refine aE [] [bk d 123 #[.map (some m), n6 room, n6 st1_3, z6 fu1_3, z6 fa1_3, .bool dn1_3], bk b3 132 #[str (((getF fs name).s) ++ data), n6 ((getF fs name).sure)], L3] ?_
            refine cQ [] (True) [(6, z6 0)] (trivial) ?_
            refine cT [0, 1] [bk d 123 #[.map (some m), n6 room, n6 st1_3, z6 fu1_3, z6 fa1_3, .bool dn1_3], L3] ?_
            refine cd_ret (bot_ret (rv [z6 0] (z6 0) ?_))
            refine ⟨0, putA fs name (⟨((getF fs name).s) ++ data, (getF fs name).sure⟩ : FileS), st1_3, fu1_3, fa1_3, dn1_3, L3, h9, ?_, ?_, rfl⟩
            all_goals first | with_reducible rfl | (exact does_down2 (may_down hf1 (by omega)).1 (may_down hf1 (by omega)).2; done) | (exact does_no2 (by assumption) (by omega) rfl (may_up hf1 (by omega)) (by (try unfold Dsk.there); (try dsimp only); first | rfl | omega | (exact hf2.symm) | (split at hf2 <;> first | omega | rfl | (rw [if_pos (by assumption)]; done) | (rw [if_neg (by assumption)]; done) | (rw [if_pos (by assumption), if_pos (by omega)]; done) | (rw [if_pos (by assumption), if_neg (by omega)]; omega) | (rw [if_neg (by assumption), if_pos (by omega)]; done) | (rw [if_neg (by assumption), if_neg (by omega)]; done) | (rw [if_neg (by assumption)]; omega))); done) | (exact does_yes2 (by assumption) (by omega) rfl (may_up hf1 (by omega)) (by (try unfold Dsk.there); (try dsimp only); first | rfl | omega | (exact hf2.symm) | (split at hf2 <;> first | omega | rfl | (rw [if_pos (by assumption)]; done) | (rw [if_neg (by assumption)]; done) | (rw [if_pos (by assumption), if_pos (by omega)]; done) | (rw [if_pos (by assumption), if_neg (by omega)]; omega) | (rw [if_neg (by assumption), if_pos (by omega)]; done) | (rw [if_neg (by assumption), if_neg (by omega)]; done) | (rw [if_neg (by assumption)]; omega))); done) | with_reducible assumption | omega | rfl | (simp_all; done) | (simp_all; omega)
        · have h7p : ¬ ((((usedF fs : Nat) : Int) + (data.length : Int)) > (room : Int)) := by simpa using h7
          refine cd_skip (then_n ?_)
          refine cd_seq ?_
          refine cd_rg ?_
          refine rQ [] [0, 1] [2, 3] (True) [(0, p0 d), (1, str name), (2, str data), (33, p0 d), (34, n6 e2)] (trivial) ?_
          refine rC 2 [3] [0] [Lm] (step_any C d (.map (some m)) (n6 room) st fu fa dn e2 {} {} {}) ?_
          rintro _ _ ⟨e6, st1_4, fu1_4, fa1_4, dn1_4, hf6, rfl, rfl⟩
          refine rQ [] [3] [] (True) [(0, p0 d), (1, str name), (2, str data), (9, n6 e6)] (trivial) ?_
          refine rF ?_
          refine cQ [] (True) [(0, p0 d), (1, str name), (2, str data), (9, n6 e6), (37, .bool ((e6 : Int) != 0))] (trivial) ?_
          refine cI ((e6 : Int) != 0) (fun h10 => ?_) (fun h10 => ?_)
          · have h10p : (e6 : Int) ≠ 0 := by simpa using h10
            refine cQ [] (True) [(6, n6 e6)] (trivial) ?_
            refine cd_ret (then_ret (bot_ret (rv [n6 e6] (n6 e6) ?_)))
            refine ⟨e6, fs, st1_4, fu1_4, fa1_4, dn1_4, Lm, hm, ?_, ?_, rfl⟩
            all_goals first | with_reducible rfl | (exact does_down2 (may_down hf1 (by omega)).1 (may_down hf1 (by omega)).2; done) | (exact does_no2 (by assumption) (by omega) rfl (may_up hf1 (by omega)) (by (try unfold Dsk.there); (try dsimp only); first | rfl | omega | (exact hf2.symm) | (split at hf2 <;> first | omega | rfl | (rw [if_pos (by assumption)]; done) | (rw [if_neg (by assumption)]; done) | (rw [if_pos (by assumption), if_pos (by omega)]; done) | (rw [if_pos (by assumption), if_neg (by omega)]; omega) | (rw [if_neg (by assumption), if_pos (by omega)]; done) | (rw [if_neg (by assumption), if_neg (by omega)]; done) | (rw [if_neg (by assumption)]; omega))); done) | (exact does_yes2 (by assumption) (by omega) rfl (may_up hf1 (by omega)) (by (try unfold Dsk.there); (try dsimp only); first | rfl | omega | (exact hf2.symm) | (split at hf2 <;> first | omega | rfl | (rw [if_pos (by assumption)]; done) | (rw [if_neg (by assumption)]; done) | (rw [if_pos (by assumption), if_pos (by omega)]; done) | (rw [if_pos (by assumption), if_neg (by omega)]; omega) | (rw [if_neg (by assumption), if_pos (by omega)]; done) | (rw [if_neg (by assumption), if_neg (by omega)]; done) | (rw [if_neg (by assumption)]; omega))); done) | with_reducible assumption | omega | rfl | (simp_all; done) | (simp_all; omega)
          · have h10p : ¬ ((e6 : Int) ≠ 0) := by simpa using h10
            refine cd_skip (then_n ?_)
            refine cd_rg ?_
            refine rQ [(3, .at 0)] [0, 1, 2, 3, 4] [5, 6, 7] ((d = d)) [(0, p0 d), (1, str name), (2, str data), (42, .map (some m)), (43, str name)] (rfl) ?_
            refine rX 5 [6, 7] (do pure (.value (← Instr.lookup 121 (.map (some m)) (str name) false))) [1] [Lm] [bk d 123 #[.map (some m), n6 room, n6 st1_4, z6 fu1_4, z6 fa1_4, .bool dn1_4]] (gv_lookup (enc := fileV) name (⟨[], 0⟩ : FileS) (by kernel_rfl) (by kernel_rfl) hm) ?_
            rintro _ _ ⟨rfl, rfl⟩
            refine rN 6 [7] (.cells #[str [], z6 0] 132 (0, 0)) p0 (fun b4 => ?_)
            refine rS [(7, .at 2)] [7] [] ((b4 = b4)) [(0, p0 d), (1, str name), (2, str data), (10, p0 b4)] [Lm, bk d 123 #[.map (some m), n6 room, n6 st1_4, z6 fu1_4, z6 fa1_4, .bool dn1_4], bk b4 132 #[str ((getF fs name).s), n6 ((getF fs name).sure)]] (rfl) ?_
            refine rF ?_
            refine cS [(1, .at 2), (5, .at 2)] ((b4 = b4) ∧ (((getF fs name).s).length + data.length ≤ 9223372036854775807) ∧ (b4 = b4)) [(0, p0 d), (1, str name), (10, p0 b4)] [Lm, bk d 123 #[.map (some m), n6 room, n6 st1_4, z6 fu1_4, z6 fa1_4, .bool dn1_4], bk b4 132 #[str (((getF fs name).s) ++ data), n6 ((getF fs name).sure)]] (⟨rfl, by have := hfl name; omega, rfl⟩) ?_
            refine dr [bk d 123 #[.map (some m), n6 room, n6 st1_4, z6 fu1_4, z6 fa1_4, .bool dn1_4], bk b4 132 #[str (((getF fs name).s) ++ data), n6 ((getF fs name).sure)]] [Lm] [0] 7 ?_
            refine aS [(5, .at 1), (3, .at 0)] [0, 4, 5, 1, 2, 3] ((b4 = b4) ∧ (d = d)) [(53, .map (some m)), (54, str name), (55, .agg #[str (((getF fs name).s) ++ data), n6 ((getF fs name).sure)])] (bm 7 63) 1 (⟨rfl, rfl⟩) ?_
            refine aI (i := 6) ?_
            refine xX (do Instr.mapUpdate 121 (.map (some m)) (str name) (.agg #[str (((getF fs name).s) ++ data), n6 ((getF fs name).sure)]); pure .skip) [0] [Lm] [] [] (bm 7 127) (gv_put (enc := fileV) name (⟨((getF fs name).s) ++ data, (getF fs name).sure⟩ : FileS) (by kernel_rfl) hm) ?_
            rintro _ _ ⟨rfl, L4, rfl, h11⟩
            refine aE [] [bk d 123 #[.map (some m), n6 room, n6 st1_4, z6 fu1_4, z6 fa1_4, .bool dn1_4], bk b4 132 #[str (((getF fs name).s) ++ data), n6 ((getF fs name).sure)], L4] ?_
            refine cQ [] (True) [(6, z6 0)] (trivial) ?_
            refine cT [0, 1] [bk d 123 #[.map (some m), n6 room, n6 st1_4, z6 fu1_4, z6 fa1_4, .bool dn1_4], L4] ?_
            refine cd_ret (bot_ret (rv [z6 0] (z6 0) ?_))
            refine ⟨0, putA fs name (⟨((getF fs name).s) ++ data, (getF fs name).sure⟩ : FileS), st1_4, fu1_4, fa1_4, dn1_4, L4, h11, ?_, ?_, rfl⟩
            all_goals first | with_reducible rfl | (exact does_down2 (may_down hf1 (by omega)).1 (may_down hf1 (by omega)).2; done) | (exact does_no2 (by assumption) (by omega) rfl (may_up hf1 (by omega)) (by (try unfold Dsk.there); (try dsimp only); first | rfl | omega | (exact hf2.symm) | (split at hf2 <;> first | omega | rfl | (rw [if_pos (by assumption)]; done) | (rw [if_neg (by assumption)]; done) | (rw [if_pos (by assumption), if_pos (by omega)]; done) | (rw [if_pos (by assumption), if_neg (by omega)]; omega) | (rw [if_neg (by assumption), if_pos (by omega)]; done) | (rw [if_neg (by assumption), if_neg (by omega)]; done) | (rw [if_neg (by assumption)]; omega))); done) | (exact does_yes2 (by assumption) (by omega) rfl (may_up hf1 (by omega)) (by (try unfold Dsk.there); (try dsimp only); first | rfl | omega | (exact hf2.symm) | (split at hf2 <;> first | omega | rfl | (rw [if_pos (by assumption)]; done) | (rw [if_neg (by assumption)]; done) | (rw [if_pos (by assumption), if_pos (by omega)]; done) | (rw [if_pos (by assumption), if_neg (by omega)]; omega) | (rw [if_neg (by assumption), if_pos (by omega)]; done) | (rw [if_neg (by assumption), if_neg (by omega)]; done) | (rw [if_neg (by assumption)]; omega))); done) | with_reducible assumption | omega | rfl | (simp_all; done) | (simp_all; omega)
    · have g1p : ¬ ((e2 : Int) = 0) := by simpa using g1
      refine aS [] [3, 5, 8, 4, 6, 9, 7, 10, 11, 12, 13] (True) [(0, p0 d), (1, str name), (2, str data), (8, n6 e2), (32, .bool false)] (bm 14 16383) 0 (trivial) ?_
      refine aE [(0, p0 d), (1, str name), (2, str data), (8, n6 e2), (32, .bool false)] [bk d 123 #[.map (some m), n6 room, n6 st, z6 fu, z6 fa, .bool dn], Lm] ?_
      refine cNo ?_
      refine cd_skip (then_n ?_)
      refine cd_seq ?_
      refine cd_rg ?_
      refine rQ [] [0, 1] [2, 3] (True) [(0, p0 d), (1, str name), (2, str data), (33, p0 d), (34, n6 e2)] (trivial) ?_
      refine rC 2 [3] [0] [Lm] (step_any C d (.map (some m)) (n6 room) st fu fa dn e2 {} {} {}) ?_
      rintro _ _ ⟨e7, st1_5, fu1_5, fa1_5, dn1_5, hf7, rfl, rfl⟩
      refine rQ [] [3] [] (True) [(0, p0 d), (1, str name), (2, str data), (9, n6 e7)] (trivial) ?_
      refine rF ?_
      refine cQ [] (True) [(0, p0 d), (1, str name), (2, str data), (9, n6 e7), (37, .bool ((e7 : Int) != 0))] (trivial) ?_
      refine cI ((e7 : Int) != 0) (fun h12 => ?_) (fun h12 => ?_)
      · have h12p : (e7 : Int) ≠ 0 := by simpa using h12
        refine cQ [] (True) [(6, n6 e7)] (trivial) ?_
        refine cd_ret (then_ret (bot_ret (rv [n6 e7] (n6 e7) ?_)))
        refine ⟨e7, fs, st1_5, fu1_5, fa1_5, dn1_5, Lm, hm, ?_, ?_, rfl⟩
        all_goals first | with_reducible rfl | (exact does_down2 (may_down hf1 (by omega)).1 (may_down hf1 (by omega)).2; done) | (exact does_no2 (by assumption) (by omega) rfl (may_up hf1 (by omega)) (by (try unfold Dsk.there); (try dsimp only); first | rfl | omega | (exact hf2.symm) | (split at hf2 <;> first | omega | rfl | (rw [if_pos (by assumption)]; done) | (rw [if_neg (by assumption)]; done) | (rw [if_pos (by assumption), if_pos (by omega)]; done) | (rw [if_pos (by assumption), if_neg (by omega)]; omega) | (rw [if_neg (by assumption), if_pos (by omega)]; done) | (rw [if_neg (by assumption), if_neg (by omega)]; done) | (rw [if_neg (by assumption)]; omega))); done) | (exact does_yes2 (by assumption) (by omega) rfl (may_up hf1 (by omega)) (by (try unfold Dsk.there); (try dsimp only); first | rfl | omega | (exact hf2.symm) | (split at hf2 <;> first | omega | rfl | (rw [if_pos (by assumption)]; done) | (rw [if_neg (by assumption)]; done) | (rw [if_pos (by assumption), if_pos (by omega)]; done) | (rw [if_pos (by assumption), if_neg (by omega)]; omega) | (rw [if_neg (by assumption), if_pos (by omega)]; done) | (rw [if_neg (by assumption), if_neg (by omega)]; done) | (rw [if_neg (by assumption)]; omega))); done) | with_reducible assumption | omega | rfl | (simp_all; done) | (simp_all; omega)
      · have h12p : ¬ ((e7 : Int) ≠ 0) := by simpa using h12
        refine cd_skip (then_n ?_)
        refine cd_rg ?_
        refine rQ [(3, .at 0)] [0, 1, 2, 3, 4] [5, 6, 7] ((d = d)) [(0, p0 d), (1, str name), (2, str data), (42, .map (some m)), (43, str name)] (rfl) ?_
        refine rX 5 [6, 7] (do pure (.value (← Instr.lookup 121 (.map (some m)) (str name) false))) [1] [Lm] [bk d 123 #[.map (some m), n6 room, n6 st1_5, z6 fu1_5, z6 fa1_5, .bool dn1_5]] (gv_lookup (enc := fileV) name (⟨[], 0⟩ : FileS) (by kernel_rfl) (by kernel_rfl) hm) ?_
        rintro _ _ ⟨rfl, rfl⟩
        refine rN 6 [7] (.cells #[str [], z6 0] 132 (0, 0)) p0 (fun b5 => ?_)
        refine rS [(7, .at 2)] [7] [] ((b5 = b5)) [(0, p0 d), (1, str name), (2, str data), (10, p0 b5)] [Lm, bk d 123 #[.map (some m), n6 room, n6 st1_5, z6 fu1_5, z6 fa1_5, .bool dn1_5], bk b5 132 #[str ((getF fs name).s), n6 ((getF fs name).sure)]] (rfl) ?_
        refine rF ?_
        refine cS [(1, .at 2), (5, .at 2)] ((b5 = b5) ∧ (((getF fs name).s).length + data.length ≤ 9223372036854775807) ∧ (b5 = b5)) [(0, p0 d), (1, str name), (10, p0 b5)] [Lm, bk d 123 #[.map (some m), n6 room, n6 st1_5, z6 fu1_5, z6 fa1_5, .bool dn1_5], bk b5 132 #[str (((getF fs name).s) ++ data), n6 ((getF fs name).sure)]] (⟨rfl, by have := hfl name; omega, rfl⟩) ?_
        refine dr [bk d 123 #[.map (some m), n6 room, n6 st1_5, z6 fu1_5, z6 fa1_5, .bool dn1_5], bk b5 132 #[str (((getF fs name).s) ++ data), n6 ((getF fs name).sure)]] [Lm] [0] 7 ?_
        refine aS [(5, .at 1), (3, .at 0)] [0, 4, 5, 1, 2, 3] ((b5 = b5) ∧ (d = d)) [(53, .map (some m)), (54, str name), (55, .agg #[str (((getF fs name).s) ++ data), n6 ((getF fs name).sure)])] (bm 7 63) 1 (⟨rfl, rfl⟩) ?_
        refine aI (i := 6) ?_
        refine xX (do Instr.mapUpdate 121 (.map (some m)) (str name) (.agg #[str (((getF fs name).s) ++ data), n6 ((getF fs name).sure)]); pure .skip) [0] [Lm] [] [] (bm 7 127) (gv_put (enc := fileV) name (⟨((getF fs name).s) ++ data, (getF fs name).sure⟩ : FileS) (by kernel_rfl) hm) ?_
        rintro _ _ ⟨rfl, L5, rfl, h13⟩
        refine aE [] [bk d 123 #[.map (some m), n6 room, n6 st1_5, z6 fu1_5, z6 fa1_5, .bool dn1_5], bk b5 132 #[str (((getF fs name).s) ++ data), n6 ((getF fs name).sure)], L5] ?_
        refine cQ [] (True) [(6, z6 0)] (trivial) ?_
        refine cT [0, 1] [bk d 123 #[.map (some m), n6 room, n6 st1_5, z6 fu1_5, z6 fa1_5, .bool dn1_5], L5] ?_
        refine cd_ret (bot_ret (rv [z6 0] (z6 0) ?_))
        refine ⟨0, putA fs name (⟨((getF fs name).s) ++ data, (getF fs name).sure⟩ : FileS), st1_5, fu1_5, fa1_5, dn1_5, L5, h13, ?_, ?_, rfl⟩
        all_goals first | with_reducible rfl | (exact does_down2 (may_down hf1 (by omega)).1 (may_down hf1 (by omega)).2; done) | (exact does_no2 (by assumption) (by omega) rfl (may_up hf1 (by omega)) (by (try unfold Dsk.there); (try dsimp only); first | rfl | omega | (exact hf2.symm) | (split at hf2 <;> first | omega | rfl | (rw [if_pos (by assumption)]; done) | (rw [if_neg (by assumption)]; done) | (rw [if_pos (by assumption), if_pos (by omega)]; done) | (rw [if_pos (by assumption), if_neg (by omega)]; omega) | (rw [if_neg (by assumption), if_pos (by omega)]; done) | (rw [if_neg (by assumption), if_neg (by omega)]; done) | (rw [if_neg (by assumption)]; omega))); done) | (exact does_yes2 (by assumption) (by omega) rfl (may_up hf1 (by omega)) (by (try unfold Dsk.there); (try dsimp only); first | rfl | omega | (exact hf2.symm) | (split at hf2 <;> first | omega | rfl | (rw [if_pos (by assumption)]; done) | (rw [if_neg (by assumption)]; done) | (rw [if_pos (by assumption), if_pos (by omega)]; done) | (rw [if_pos (by assumption), if_neg (by omega)]; omega) | (rw [if_neg (by assumption), if_pos (by omega)]; done) | (rw [if_neg (by assumption), if_neg (by omega)]; done) | (rw [if_neg (by assumption)]; omega))); done) | with_reducible assumption | omega | rfl | (simp_all; done) | (simp_all; omega)

set_option maxRecDepth 100000 in
theorem dread_nil (C : Ctx) (name : List UInt8) :
    FnT Tryz.prog C 23 #[.pointer none, str name] [] (fun rv_ rL_ => rv_ = .tuple #[str [], z6 1] ∧ rL_ = []) := by
  refine fE 22 Tryz.func23 rfl ?_
  refine cQ [] (True) [(0, .pointer none), (1, str name)] (trivial) ?_
  refine cd_seq ?_
  refine cd_rg ?_
  refine rQ [] [0] [1, 2] (True) [(0, .pointer none), (1, str name), (7, .pointer none)] (trivial) ?_
  refine rC 1 [2] [] [] (may_nil C) ?_
  rintro _ _ ⟨rfl, rfl⟩
  refine rQ [] [2] [] (True) [(0, .pointer none), (1, str name), (6, z6 1)] (trivial) ?_
  refine rF ?_
  refine cQ [] (True) [(0, .pointer none), (1, str name), (6, z6 1), (10, .bool true)] (trivial) ?_
  refine cYes ?_
  refine cQ [] (True) [(4, str []), (5, z6 1)] (trivial) ?_
  refine cd_ret (then_ret (bot_ret (rv [str [], z6 1] (.tuple #[str [], z6 1]) ?_)))
  refine ⟨?_, rfl⟩
  all_goals first | with_reducible rfl | (skip; done) | with_reducible assumption | omega | rfl | (simp_all; done) | (simp_all; omega)

set_option maxRecDepth 100000 in
theorem dread_any (C : Ctx) (d : Nat) (m : Nat) (fs : Files) (room : Nat) (st : Nat) (fu : Int) (fa : Int) (dn : Bool) (name : List UInt8) (Lm : Blks) (hm : MapL fileV m fs Lm) :
    FnT Tryz.prog C 23 #[p0 d, str name] [bk d 123 #[.map (some m), n6 room, n6 st, z6 fu, z6 fa, .bool dn], Lm] (fun rv_ rL_ => ∃ t : List UInt8, ∃ e : Nat, (Dsk.read ⟨fs, room, st, fu, fa, dn⟩ name = (t, e)) ∧ rv_ = .tuple #[str t, n6 e] ∧ rL_ = [bk d 123 #[.map (some m), n6 room, n6 st, z6 fu, z6 fa, .bool dn], Lm]) := by
  refine fE 22 Tryz.func23 rfl ?_
  refine cQ [] (True) [(0, p0 d), (1, str name)] (trivial) ?_
  refine cd_seq ?_
  refine cd_rg ?_
  refine rQ [] [0] [1, 2] (True) [(0, p0 d), (1, str name), (7, p0 d)] (trivial) ?_
  refine rC 1 [2] [0] [Lm] (may_any C d (.map (some m)) (n6 room) (n6 st) (z6 fu) (z6 fa) dn) ?_
  rintro _ _ ⟨e1, hf1, rfl, rfl⟩
  refine rQ [] [2] [] (True) [(0, p0 d), (1, str name), (6, n6 e1)] (trivial) ?_
  refine rF ?_
  refine cQ [] (True) [(0, p0 d), (1, str name), (6, n6 e1), (10, .bool ((e1 : Int) != 0))] (trivial) ?_
  refine cI ((e1 : Int) != 0) (fun h1 => ?_) (fun h1 => ?_)
  · have h1p : (e1 : Int) ≠ 0 := by simpa using h1
    refine cQ [] (True) [(4, str []), (5, n6 e1)] (trivial) ?_
    refine cd_ret (then_ret (bot_ret (rv [str [], n6 e1] (.tuple #[str [], n6 e1]) ?_)))
    refine ⟨[], e1, ?_, ?_, rfl⟩
    all_goals first | with_reducible rfl | ((rw [Dsk.read, if_pos (may_down hf1 (by omega)).1, (may_down hf1 (by omega)).2]); done) | ((have hdn := may_up hf1 (by omega); rw [Dsk.read, if_neg (by simp [hdn])]; exact Prod.ext rfl (Eq.symm (by assumption))); done) | with_reducible assumption | omega | rfl | (simp_all; done) | (simp_all; omega)
  · have h1p : ¬ ((e1 : Int) ≠ 0) := by simpa using h1
    refine cd_skip (then_n ?_)
    refine dr [] [bk d 123 #[.map (some m), n6 room, n6 st, z6 fu, z6 fa, .bool dn], Lm] [0, 0] 12 ?_
    refine aS [] [0, 4, 7, 8, 1, 2] (True) [(14, p0 d), (16, str name), (19, p0 d), (20, str name)] (bm 12 407) 6 (trivial) ?_
    refine aII (i := 3) (j := 9) ?_ ?_
    ·
      refine xQ [(3, .at 0)] (d = d) [(15, .map (some m)), (16, str name), (19, p0 d), (20, str name)] (bm 12 415) (rfl) ?_
      refine aII (i := 5) (j := 9) ?_ ?_
      ·
        refine xX (do pure (.value (← Instr.lookup 121 (.map (some m)) (str name) false))) [1] [Lm] [bk d 123 #[.map (some m), n6 room, n6 st, z6 fu, z6 fa, .bool dn]] [17, 19, 20] (bm 12 447) (gv_lookup (enc := fileV) name (⟨[], 0⟩ : FileS) (by kernel_rfl) (by kernel_rfl) hm) ?_
        rintro _ _ ⟨rfl, rfl⟩
        refine aS [] [6] (True) [(18, str ((getF fs name).s)), (19, p0 d), (20, str name)] (bm 12 511) 3 (trivial) ?_
        refine aI (i := 9) ?_
        refine xC [1, 0] [] [18, 21] (bm 12 1023) (there_any C d m fs (n6 room) (n6 st) (z6 fu) (z6 fa) (.bool dn) name Lm hm) ?_
        rintro _ _ ⟨e2, hf2, rfl, rfl⟩
        refine aS [] [10, 11] (True) [(4, str ((getF fs name).s)), (5, n6 e2)] (bm 12 4095) 0 (trivial) ?_
        refine aE [(4, str ((getF fs name).s)), (5, n6 e2)] [bk d 123 #[.map (some m), n6 room, n6 st, z6 fu, z6 fa, .bool dn], Lm] ?_
        refine cd_ret (bot_ret (rv [str ((getF fs name).s), n6 e2] (.tuple #[str ((getF fs name).s), n6 e2]) ?_))
        refine ⟨(getF fs name).s, e2, ?_, ?_, rfl⟩
        all_goals first | with_reducible rfl | ((rw [Dsk.read, if_pos (may_down hf1 (by omega)).1, (may_down hf1 (by omega)).2]); done) | ((have hdn := may_up hf1 (by omega); rw [Dsk.read, if_neg (by simp [hdn])]; exact Prod.ext rfl (Eq.symm (by assumption))); done) | with_reducible assumption | omega | rfl | (simp_all; done) | (simp_all; omega)
      ·
        refine xC [0, 0] [] [15, 16, 21] (bm 12 927) (there_any C d m fs (n6 room) (n6 st) (z6 fu) (z6 fa) (.bool dn) name Lm hm) ?_
        rintro _ _ ⟨e3, hf3, rfl, rfl⟩
        refine aI (i := 5) ?_
        refine xX (do pure (.value (← Instr.lookup 121 (.map (some m)) (str name) false))) [1] [Lm] [bk d 123 #[.map (some m), n6 room, n6 st, z6 fu, z6 fa, .bool dn]] [17, 21] (bm 12 959) (gv_lookup (enc := fileV) name (⟨[], 0⟩ : FileS) (by kernel_rfl) (by kernel_rfl) hm) ?_
        rintro _ _ ⟨rfl, rfl⟩
        refine aS [] [6, 10, 11] (True) [(4, str ((getF fs name).s)), (5, n6 e3)] (bm 12 4095) 0 (trivial) ?_
        refine aE [(4, str ((getF fs name).s)), (5, n6 e3)] [Lm, bk d 123 #[.map (some m), n6 room, n6 st, z6 fu, z6 fa, .bool dn]] ?_
        refine cT [1, 0] [bk d 123 #[.map (some m), n6 room, n6 st, z6 fu, z6 fa, .bool dn], Lm] ?_
        refine cd_ret (bot_ret (rv [str ((getF fs name).s), n6 e3] (.tuple #[str ((getF fs name).s), n6 e3]) ?_))
        refine ⟨(getF fs name).s, e3, ?_, ?_, rfl⟩
        all_goals first | with_reducible rfl | ((rw [Dsk.read, if_pos (may_down hf1 (by omega)).1, (may_down hf1 (by omega)).2]); done) | ((have hdn := may_up hf1 (by omega); rw [Dsk.read, if_neg (by simp [hdn])]; exact Prod.ext rfl (Eq.symm (by assumption))); done) | with_reducible assumption | omega | rfl | (simp_all; done) | (simp_all; omega)
    ·
      refine xC [0, 0] [] [14, 16, 21] (bm 12 919) (there_any C d m fs (n6 room) (n6 st) (z6 fu) (z6 fa) (.bool dn) name Lm hm) ?_
      rintro _ _ ⟨e4, hf4, rfl, rfl⟩
      refine aI (i := 3) ?_
      refine xQ [(3, .at 0)] (d = d) [(15, .map (some m)), (16, str name), (21, n6 e4)] (bm 12 927) (rfl) ?_
      refine aI (i := 5) ?_
      refine xX (do pure (.value (← Instr.lookup 121 (.map (some m)) (str name) false))) [1] [Lm] [bk d 123 #[.map (some m), n6 room, n6 st, z6 fu, z6 fa, .bool dn]] [17, 21] (bm 12 959) (gv_lookup (enc := fileV) name (⟨[], 0⟩ : FileS) (by kernel_rfl) (by kernel_rfl) hm) ?_
      rintro _ _ ⟨rfl, rfl⟩
      refine aS [] [6, 10, 11] (True) [(4, str ((getF fs name).s)), (5, n6 e4)] (bm 12 4095) 0 (trivial) ?_
      refine aE [(4, str ((getF fs name).s)), (5, n6 e4)] [Lm, bk d 123 #[.map (some m), n6 room, n6 st, z6 fu, z6 fa, .bool dn]] ?_
      refine cT [1, 0] [bk d 123 #[.map (some m), n6 room, n6 st, z6 fu, z6 fa, .bool dn], Lm] ?_
      refine cd_ret (bot_ret (rv [str ((getF fs name).s), n6 e4] (.tuple #[str ((getF fs name).s), n6 e4]) ?_))
      refine ⟨(getF fs name).s, e4, ?_, ?_, rfl⟩
      all_goals first | with_reducible rfl | ((rw [Dsk.read, if_pos (may_down hf1 (by omega)).1, (may_down hf1 (by omega)).2]); done) | ((have hdn := may_up hf1 (by omega); rw [Dsk.read, if_neg (by simp [hdn])]; exact Prod.ext rfl (Eq.symm (by assumption))); done) | with_reducible assumption | omega | rfl | (simp_all; done) | (simp_all; omega)

set_option maxRecDepth 100000 in
theorem dnew_any (C : Ctx) (room : Nat) (hr : Ok (room ≤ 16777216)) :
    FnT Tryz.prog C 14 #[n6 room] [] (fun rv_ rL_ => ∃ d : Nat, ∃ m : Nat, ∃ L1 : Blks, (MapL fileV m [] L1) ∧ rv_ = .tuple #[p0 d, z6 0] ∧ rL_ = [bk d 123 #[.map (some m), n6 room, z6 0, z6 (-1), z6 (-1), .bool false], L1]) := by
  replace hr := hr.h
  refine fE 14 Tryz.func14 rfl ?_
  refine cQ [] (True) [(0, n6 room)] (trivial) ?_
  refine cd_seq ?_
  refine cd_rg ?_
  refine rQ [] [0, 1, 2] [3, 4, 5] (True) [(0, n6 room), (6, .bool (decide ((room : Int) < 0)))] (trivial) ?_
  refine rg_join2 [] [(0, n6 room), (9, .bool ((decide ((room : Int) < 0)) || (decide ((room : Int) > 16777216))))] [] (fun hj => ?_) ?_
  · refine rI 6 (decide ((room : Int) < 0)) (fun g1 => ?_) (fun g1 => ?_)
    · have g1p : (room : Int) < 0 := by simpa using g1
      refine rQ [] [3, 4, 5] [] (True) [(0, n6 room), (9, .bool true)] (trivial) ?_
      refine rP 9 (.bool true) (.bool ((decide ((room : Int) < 0)) || (decide ((room : Int) > 16777216)))) (by first | (rw [show (decide ((room : Int) < 0)) = true from g1]; done) | (rw [show (decide ((room : Int) < 0)) = true from g1]; rfl)) ?_
      exact rM hj
    · have g1p : ¬ ((room : Int) < 0) := by simp
      refine rQ [] [3, 4, 5] [] (True) [(0, n6 room), (9, .bool (decide ((room : Int) > 16777216)))] (trivial) ?_
      refine rP 9 (.bool (decide ((room : Int) > 16777216))) (.bool ((decide ((room : Int) < 0)) || (decide ((room : Int) > 16777216)))) (by first | (rw [show (decide ((room : Int) < 0)) = false from g1]; done) | (rw [show (decide ((room : Int) < 0)) = false from g1]; rfl)) ?_
      exact rM hj
  refine rD [(0, n6 room), (9, .bool ((decide ((room : Int) < 0)) || (decide ((room : Int) > 16777216))))] ?_
  refine cI ((decide ((room : Int) < 0)) || (decide ((room : Int) > 16777216))) (fun h1 => ?_) (fun h1 => ?_)
  · have h1p : ((room : Int) < 0) ∨ ((room : Int) > 16777216) := by simpa using h1
    exfalso; simp at h1p; omega
  · have h1p : ¬ (((room : Int) < 0) ∨ ((room : Int) > 16777216)) := by simpa using h1
    refine cd_skip (then_n ?_)
    refine cd_rg ?_
    refine rQ [] [] [0, 1, 2, 3, 4, 5] (True) [(0, n6 room)] (trivial) ?_
    refine rN 0 [1, 2, 3, 4, 5] (.map #[] 0) (fun b1 => .map (some b1)) (fun b1 => ?_)
    refine rQ [] [1, 2] [3, 4, 5] (True) [(12, .agg #[.map (some b1), n6 room, z6 0, z6 (-1), z6 (-1), .bool false])] (trivial) ?_
    refine rN 3 [4, 5] (.cells #[.map (some b1), n6 room, z6 0, z6 (-1), z6 (-1), .bool false] 123 (0, 0)) p0 (fun b2 => ?_)
    refine rQ [] [4, 5] [] (True) [(2, p0 b2), (3, z6 0)] (trivial) ?_
    refine rF ?_
    refine cT [1, 0] [bk b2 123 #[.map (some b1), n6 room, z6 0, z6 (-1), z6 (-1), .bool false], [(b1, .map #[] 0)]] ?_
    refine cd_ret (bot_ret (rv [p0 b2, z6 0] (.tuple #[p0 b2, z6 0]) ?_))
    refine ⟨b2, b1, [(b1, .map #[] 0)], (MapL.fresh fileV b1), ?_, rfl⟩
    all_goals first | with_reducible rfl | (skip; done) | with_reducible assumption | omega | rfl | (simp_all; done) | (simp_all; omega)
end Go.Proofs
