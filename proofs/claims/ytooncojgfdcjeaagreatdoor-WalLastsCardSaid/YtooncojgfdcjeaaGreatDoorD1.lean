/- Walks: batches. No condition. -/
import Derived.Laws.StructEq
import Derived.Test.YtooncojgfdcjeaaGreatDoorC1
import Derived.Test.YtooncojgfdcjeaaGreatDoorProg
namespace Go.Proofs
open Go Go.Sep
/-! ### Changes held against each other -/
theorem part_plain {P : Program} {w : World} {t : TypeId} {xs : Array Value} {off : Nat} {v : Value} (h : isAggB P t = some false) (hx : xs[off]? = some v) : (part t xs off).run P w = .ok v w := by
  simp [part, Sem.run_bind, isAggB_run h, hx]
theorem eqFields_step {P : Program} {w : World} {d : Nat} {xs ys : Array Value} {f : Field} {fs : List Field} {a b : Value} {r : Bool} (hn : f.name ≠ "_") (h : isAggB P f.type = some false) (hx : xs[f.offset]? = some a) (hy : ys[f.offset]? = some b)
    (he : (Op.equalIn d f.type a b).run P w = .ok r w) : (Op.eqFields d xs ys (f :: fs)).run P w = if r then (Op.eqFields d xs ys fs).run P w else .ok false w := by
  simp only [Op.eqFields, hn, ne_eq, not_false_eq_true, if_true, Sem.run_bind, part_plain h hx, part_plain h hy, Result.andThen_ok, he]
  cases r <;> simp
theorem fields107 : (Tryz.prog.fieldsOf 107).toList = [⟨"Kind", 3, 0, false, "", "", 0⟩, ⟨"Key", 9, 1, false, "", "", 8⟩, ⟨"Value", 9, 2, false, "", "", 24⟩] := by kernel_rfl
set_option maxRecDepth 100000 in
theorem eq107 (x y : Chg) (w : World) : (Op.equalIn 10000 107 (.agg (chg x).toArray) (.agg (chg y).toArray)).run Tryz.prog w = .ok (decide (x = y)) w := by
  rw [run_equalIn_agg w 9999 107 _ _ (by kernel_rfl) (by kernel_rfl), fields107]
  obtain ⟨k, a, b⟩ := x
  obtain ⟨k', a', b'⟩ := y
  have p1 : isAggB Tryz.prog 3 = some false := by kernel_rfl
  have p2 : isAggB Tryz.prog 9 = some false := by kernel_rfl
  have u1 : Tryz.prog.underlying 3 = some (.int .i64) := by kernel_rfl
  have u2 : Tryz.prog.underlying 9 = some .string := by kernel_rfl
  have es : ∀ a a' : List UInt8, (Op.equalIn 9999 9 (str a) (str a')).run Tryz.prog w = .ok (a == a') w := fun a a' => by
    rw [str, str, run_equalIn_string w 9998 9 _ _ u2, toList_sbytes, toList_sbytes]; rfl
  have ei : (Op.equalIn 9999 3 (.int .i64 k) (.int .i64 k')).run Tryz.prog w = .ok (k == k') w := by rw [run_equalIn_int w 9998 3 .i64 .i64 k k' u1]
  rw [eqFields_step (a := .int .i64 k) (b := .int .i64 k') (r := k == k') (by decide) p1 rfl rfl ei]
  rw [eqFields_step (a := str a) (b := str a') (r := a == a') (by decide) p2 rfl rfl (es a a')]
  rw [eqFields_step (a := str b) (b := str b') (r := b == b') (by decide) p2 rfl rfl (es b b')]
  simp only [Op.eqFields, Sem.run_pure, Chg.mk.injEq]
  by_cases h1 : k = k' <;> by_cases h2 : a = a' <;> by_cases h3 : b = b' <;> simp [h1, h2, h3]
theorem gv_neq107 {C : Ctx} (x y : Chg) (o1 o2 : Operand) {Ls : List Blks} :
    GivesR Tryz.prog C (do pure (.value (← (do eqGuard .neq 107 o1 o2 (.agg (chg x).toArray) (.agg (chg y).toArray); binOp .neq 107 (.agg (chg x).toArray) (.agg (chg y).toArray))))) Ls (fun v L => v = .bool (!decide (x = y)) ∧ L = Ls) := by
  intro w F hw
  refine ⟨_, w, _, Ls, ?_, .inl rfl, hw, rfl, rfl⟩
  rw [Sem.run_bind, Sem.run_bind, run_eqGuard_agg w .neq 107 o1 o2 _ _ (by kernel_rfl)]
  simp only [Result.andThen_ok]
  rw [run_neq_struct, eq107]
  rfl

set_option maxRecDepth 100000 in
theorem wrong_any (C : Ctx) (k : Int) (key : List UInt8) (val : List UInt8) (hk : Ok (key.length ≤ 1099511627776)) (hv : Ok (val.length ≤ 1099511627776)) :
    FnT Tryz.prog C 152 #[.agg #[z6 k, str key, str val]] [] (fun rv_ rL_ => rv_ = n6 (wrongC k key val) ∧ rL_ = []) := by
  replace hk := hk.h
  replace hv := hv.h
  refine fE 37 Tryz.func152 rfl ?_
  refine cd_rg ?_
  refine rQ [] [] [0, 1] (True) [(0, .agg #[z6 k, str key, str val])] (trivial) ?_
  refine rN 0 [1] (.cells #[z6 k, str key, str val] 107 (0, 0)) p0 (fun b1 => ?_)
  refine rQ [] [1] [] (True) [(1, p0 b1)] (trivial) ?_
  refine rF ?_
  refine cd_seq ?_
  refine cd_block ?_
  refine cd_rg ?_
  refine rQ [(1, .at 0)] [0, 1, 2, 3] [4, 5, 6, 7, 8] ((b1 = b1)) [(1, p0 b1), (7, .bool (k != 1))] (rfl) ?_
  refine rg_join2 [8] [(1, p0 b1), (11, .bool ((k != 1) && (k != 2)))] [bk b1 107 #[z6 k, str key, str val]] (fun hj => ?_) ?_
  · refine rI 7 (k != 1) (fun g1 => ?_) (fun g1 => ?_)
    · have g1p : k ≠ 1 := by simpa using g1
      refine rQ [(5, .at 0)] [4, 5, 6, 7] [8] ((b1 = b1)) [(1, p0 b1), (11, .bool (k != 2))] (rfl) ?_
      refine rP 11 (.bool (k != 2)) (.bool ((k != 1) && (k != 2))) (by first | (rw [show (k != 1) = true from g1]; done) | (rw [show (k != 1) = true from g1]; rfl)) ?_
      exact rM hj
    · have g1p : ¬ (k ≠ 1) := by simpa using g1
      refine rQ [] [4, 5, 6, 7] [8] (True) [(1, p0 b1), (11, .bool false)] (trivial) ?_
      refine rP 11 (.bool false) (.bool ((k != 1) && (k != 2))) (by first | (rw [show (k != 1) = false from g1]; done) | (rw [show (k != 1) = false from g1]; rfl)) ?_
      exact rM hj
  refine rQ [] [8] [] (True) [(1, p0 b1), (3, .bool ((k != 1) && (k != 2)))] (trivial) ?_
  refine rF ?_
  refine cI ((k != 1) && (k != 2)) (fun h1 => ?_) (fun h1 => ?_)
  · have h1p : (k ≠ 1) ∧ (k ≠ 2) := by simpa using h1
    refine cQ [] (True) [(2, z6 11)] (trivial) ?_
    refine cT [] [] ?_
    refine cd_ret (block_ret (then_ret (bot_ret (rv [z6 11] (z6 11) ?_))))
    refine ⟨?_, rfl⟩
    all_goals first | with_reducible rfl | (rw [wrong11 (k := k) (key := key) (val := val) (by omega) (by omega)]; rfl; done) | (rw [wrong19 (k := k) (key := key) (val := val) (by omega) (by rw [empty_len] at *; omega)]; rfl; done) | (rw [wrong5 (k := k) (key := key) (val := val) (by omega) (by rw [empty_len] at *; omega) (by rw [empty_len] at *; omega)]; rfl; done) | (rw [wrong0 (k := k) (key := key) (val := val) (by omega) (by rw [empty_len] at *; omega) (by rw [empty_len] at *; omega)]; rfl; done) | with_reducible assumption | omega | rfl | (simp_all; done) | (simp_all; omega)
  · have h1p : ¬ ((k ≠ 1) ∧ (k ≠ 2)) := by simpa using h1
    refine cd_rg ?_
    refine rQ [(1, .at 0)] [0, 1, 2, 3] [4, 5, 6, 7, 8, 9] ((b1 = b1)) [(1, p0 b1), (16, .bool (key == []))] (rfl) ?_
    refine rg_join2 [9] [(1, p0 b1), (21, .bool ((key == []) || (decide ((key.length : Int) > 200))))] [bk b1 107 #[z6 k, str key, str val]] (fun hj => ?_) ?_
    · refine rI 16 (key == []) (fun g2 => ?_) (fun g2 => ?_)
      · have g2p : key = [] := by simpa using g2
        refine rQ [] [4, 5, 6, 7, 8] [9] (True) [(1, p0 b1), (21, .bool true)] (trivial) ?_
        refine rP 21 (.bool true) (.bool ((key == []) || (decide ((key.length : Int) > 200)))) (by first | (rw [show (key == []) = true from g2]; done) | (rw [show (key == []) = true from g2]; rfl)) ?_
        exact rM hj
      · have g2p : ¬ (key = []) := by simpa using g2
        refine rQ [(5, .at 0)] [4, 5, 6, 7, 8] [9] ((b1 = b1)) [(1, p0 b1), (21, .bool (decide ((key.length : Int) > 200)))] (rfl) ?_
        refine rP 21 (.bool (decide ((key.length : Int) > 200))) (.bool ((key == []) || (decide ((key.length : Int) > 200)))) (by first | (rw [show (key == []) = false from g2]; done) | (rw [show (key == []) = false from g2]; rfl)) ?_
        exact rM hj
    refine rQ [] [9] [] (True) [(1, p0 b1), (12, .bool ((key == []) || (decide ((key.length : Int) > 200))))] (trivial) ?_
    refine rF ?_
    refine cI ((key == []) || (decide ((key.length : Int) > 200))) (fun h2 => ?_) (fun h2 => ?_)
    · have h2p : (key = []) ∨ ((key.length : Int) > 200) := by simpa using h2
      refine cQ [] (True) [(2, z6 19)] (trivial) ?_
      refine cT [] [] ?_
      refine cd_ret (block_ret (then_ret (bot_ret (rv [z6 19] (z6 19) ?_))))
      refine ⟨?_, rfl⟩
      all_goals first | with_reducible rfl | (rw [wrong11 (k := k) (key := key) (val := val) (by omega) (by omega)]; rfl; done) | (rw [wrong19 (k := k) (key := key) (val := val) (by omega) (by rw [empty_len] at *; omega)]; rfl; done) | (rw [wrong5 (k := k) (key := key) (val := val) (by omega) (by rw [empty_len] at *; omega) (by rw [empty_len] at *; omega)]; rfl; done) | (rw [wrong0 (k := k) (key := key) (val := val) (by omega) (by rw [empty_len] at *; omega) (by rw [empty_len] at *; omega)]; rfl; done) | with_reducible assumption | omega | rfl | (simp_all; done) | (simp_all; omega)
    · have h2p : ¬ ((key = []) ∨ ((key.length : Int) > 200)) := by simpa using h2
      refine cd_rg ?_
      refine rQ [(1, .at 0)] [0, 1, 2, 3, 4] [5, 6, 7, 8, 9, 10, 11, 12, 13, 14] ((b1 = b1)) [(1, p0 b1), (27, .bool (decide ((val.length : Int) > 4096)))] (rfl) ?_
      refine rg_join2 [14] [(36, .bool ((decide ((val.length : Int) > 4096)) || ((k == 2) && (!(val == [])))))] [bk b1 107 #[z6 k, str key, str val]] (fun hj => ?_) ?_
      · refine rI 27 (decide ((val.length : Int) > 4096)) (fun g3 => ?_) (fun g3 => ?_)
        · have g3p : (val.length : Int) > 4096 := by simpa using g3
          refine rQ [] [5, 6, 7, 8, 9, 10, 11, 12, 13] [14] (True) [(36, .bool true)] (trivial) ?_
          refine rP 36 (.bool true) (.bool ((decide ((val.length : Int) > 4096)) || ((k == 2) && (!(val == []))))) (by first | (rw [show (decide ((val.length : Int) > 4096)) = true from g3]; done) | (rw [show (decide ((val.length : Int) > 4096)) = true from g3]; rfl)) ?_
          exact rM hj
        · have g3p : ¬ ((val.length : Int) > 4096) := by simpa using g3
          refine rQ [(6, .at 0)] [5, 6, 7, 8] [9, 10, 11, 12, 13, 14] ((b1 = b1)) [(1, p0 b1), (27, .bool false), (31, .bool (k == 2))] (rfl) ?_
          refine rg_join2 [13, 14] [(27, .bool false), (35, .bool ((k == 2) && (!(val == []))))] [bk b1 107 #[z6 k, str key, str val]] (fun hj => ?_) ?_
          · refine rI 31 (k == 2) (fun g4 => ?_) (fun g4 => ?_)
            · have g4p : k = 2 := by simpa using g4
              refine rQ [(10, .at 0)] [9, 10, 11, 12] [13, 14] ((b1 = b1)) [(27, .bool false), (35, .bool (!(val == [])))] (rfl) ?_
              refine rP 35 (.bool (!(val == []))) (.bool ((k == 2) && (!(val == [])))) (by first | (rw [show (k == 2) = true from g4]; done) | (rw [show (k == 2) = true from g4]; rfl)) ?_
              exact rM hj
            · have g4p : ¬ (k = 2) := by simpa using g4
              refine rQ [] [9, 10, 11, 12] [13, 14] (True) [(27, .bool false), (35, .bool false)] (trivial) ?_
              refine rP 35 (.bool false) (.bool ((k == 2) && (!(val == [])))) (by first | (rw [show (k == 2) = false from g4]; done) | (rw [show (k == 2) = false from g4]; rfl)) ?_
              exact rM hj
          refine rQ [] [13] [14] (True) [(36, .bool ((k == 2) && (!(val == []))))] (trivial) ?_
          refine rP 36 (.bool ((k == 2) && (!(val == [])))) (.bool ((decide ((val.length : Int) > 4096)) || ((k == 2) && (!(val == []))))) (by first | (rw [show (decide ((val.length : Int) > 4096)) = false from g3]; done) | (rw [show (decide ((val.length : Int) > 4096)) = false from g3]; rfl)) ?_
          exact rM hj
      refine rQ [] [14] [] (True) [(22, .bool ((decide ((val.length : Int) > 4096)) || ((k == 2) && (!(val == [])))))] (trivial) ?_
      refine rF ?_
      refine cI ((decide ((val.length : Int) > 4096)) || ((k == 2) && (!(val == [])))) (fun h3 => ?_) (fun h3 => ?_)
      · have h3p : ((val.length : Int) > 4096) ∨ ((k = 2) ∧ (¬ (val = []))) := by simpa using h3
        refine cQ [] (True) [(2, z6 5)] (trivial) ?_
        refine cT [] [] ?_
        refine cd_ret (block_ret (then_ret (bot_ret (rv [z6 5] (z6 5) ?_))))
        refine ⟨?_, rfl⟩
        all_goals first | with_reducible rfl | (rw [wrong11 (k := k) (key := key) (val := val) (by omega) (by omega)]; rfl; done) | (rw [wrong19 (k := k) (key := key) (val := val) (by omega) (by rw [empty_len] at *; omega)]; rfl; done) | (rw [wrong5 (k := k) (key := key) (val := val) (by omega) (by rw [empty_len] at *; omega) (by rw [empty_len] at *; omega)]; rfl; done) | (rw [wrong0 (k := k) (key := key) (val := val) (by omega) (by rw [empty_len] at *; omega) (by rw [empty_len] at *; omega)]; rfl; done) | with_reducible assumption | omega | rfl | (simp_all; done) | (simp_all; omega)
      · have h3p : ¬ (((val.length : Int) > 4096) ∨ ((k = 2) ∧ (¬ (val = [])))) := by simpa using h3
        refine cd_skip (block_n (then_n ?_))
        refine cQ [] (True) [(2, z6 0)] (trivial) ?_
        refine cT [] [] ?_
        refine cd_ret (bot_ret (rv [z6 0] (z6 0) ?_))
        refine ⟨?_, rfl⟩
        all_goals first | with_reducible rfl | (rw [wrong11 (k := k) (key := key) (val := val) (by omega) (by omega)]; rfl; done) | (rw [wrong19 (k := k) (key := key) (val := val) (by omega) (by rw [empty_len] at *; omega)]; rfl; done) | (rw [wrong5 (k := k) (key := key) (val := val) (by omega) (by rw [empty_len] at *; omega) (by rw [empty_len] at *; omega)]; rfl; done) | (rw [wrong0 (k := k) (key := key) (val := val) (by omega) (by rw [empty_len] at *; omega) (by rw [empty_len] at *; omega)]; rfl; done) | with_reducible assumption | omega | rfl | (simp_all; done) | (simp_all; omega)

set_option maxRecDepth 100000 in
theorem next_any (C : Ctx) (seq : Nat) (a : Option Addr) (n : Nat) (cap : Nat) (h0 : Ok (seq + n < 18446744073709551616)) (h1 : Ok (n ≤ 1099511627776)) :
    FnT Tryz.prog C 51 #[.agg #[u6 seq, .slice a n cap]] [] (fun rv_ rL_ => rv_ = u6 (seq + n) ∧ rL_ = []) := by
  replace h0 := h0.h
  replace h1 := h1.h
  refine fE 10 Tryz.func51 rfl ?_
  refine cd_rg ?_
  refine rQ [] [] [0, 1] (True) [(0, .agg #[u6 seq, .slice a n cap])] (trivial) ?_
  refine rN 0 [1] (.cells #[u6 seq, .slice a n cap] 32 (0, 0)) p0 (fun b1 => ?_)
  refine rQ [] [1] [] (True) [(1, p0 b1)] (trivial) ?_
  refine rF ?_
  refine cQ [(1, .at 0), (3, .at 0)] ((b1 = b1) ∧ (b1 = b1) ∧ (inKind .u64 (n : Int)) ∧ (inKind .u64 ((seq : Int) + (n : Int)))) [(2, u6 (seq + n))] (⟨rfl, rfl, inK_u64 (by omega), inK_u64 (by omega)⟩) ?_
  refine cT [] [] ?_
  refine cd_ret (bot_ret (rv [u6 (seq + n)] (u6 (seq + n)) ?_))
  refine ⟨?_, rfl⟩
  all_goals first | with_reducible rfl | (skip; done) | with_reducible assumption | omega | rfl | (simp_all; done) | (simp_all; omega)

set_option maxRecDepth 100000 in
theorem check_any (C : Ctx) (seq : Nat) (cap : Nat) (H : Blks) (a : Option Addr) (l : List Chg) (hl : SeesL C H a chg 3 l) (hseq : Ok (seq < 18446744073709551616)) (hk : Ok (∀ x ∈ l, x.key.length ≤ 1099511627776 ∧ x.val.length ≤ 1099511627776)) :
    FnT Tryz.prog C 102 #[.agg #[u6 seq, .slice a l.length cap]] [H] (fun rv_ rL_ => rv_ = n6 (checkB seq l) ∧ rL_ = [H]) := by
  replace hseq := hseq.h
  replace hk := hk.h
  refine fE 43 Tryz.func102 rfl ?_
  refine cd_rg ?_
  refine rQ [] [] [0, 1] (True) [(0, .agg #[u6 seq, .slice a l.length cap])] (trivial) ?_
  refine rN 0 [1] (.cells #[u6 seq, .slice a l.length cap] 32 (0, 0)) p0 (fun b1 => ?_)
  refine rQ [] [1] [] (True) [(1, p0 b1)] (trivial) ?_
  refine rF ?_
  refine cd_seq ?_
  refine cQ [(1, .at 1)] ((b1 = b1)) [(1, p0 b1), (10, .bool (decide ((l.length : Int) > 2000)))] (rfl) ?_
  refine cI (decide ((l.length : Int) > 2000)) (fun h1 => ?_) (fun h1 => ?_)
  · have h1p : (l.length : Int) > 2000 := by simpa using h1
    refine cQ [] (True) [(2, z6 6)] (trivial) ?_
    refine cT [0] [H] ?_
    refine cd_ret (then_ret (bot_ret (rv [z6 6] (z6 6) ?_)))
    refine ⟨?_, rfl⟩
    all_goals first | with_reducible rfl | (rw [check6 (by omega)]; rfl; done) | (rw [check8 (by omega) (by assumption) (by omega)]; rfl; done) | (rw [check0 (by omega) (by assumption) (by omega)]; rfl; done) | (rw [checkW (by omega) (hI.hit hx1 (by omega)) (by omega)]; done) | with_reducible assumption | omega | rfl | (simp_all; done) | (simp_all; omega)
  · have h1p : ¬ ((l.length : Int) > 2000) := by simpa using h1
    refine cd_skip (then_n ?_)
    refine cd_seq ?_
    refine cQ [(1, .at 1)] ((b1 = b1)) [(1, p0 b1), (12, .slice a l.length cap), (13, n6 l.length), (14, z6 0)] (rfl) ?_
    refine cd_block ?_
    refine lp (fun x : Nat => [(1, p0 b1), (12, .slice a l.length cap), (13, n6 l.length), (14, n6 x)]) (fun x : Nat => [H, bk b1 32 #[u6 seq, .slice a l.length cap]]) (fun x : Nat => WrongInv l x) (fun x : Nat => l.length - x) (0) (show WrongInv l 0 from WrongInv.start l) ?_
    rintro i hI
    replace hI : WrongInv l i := hI
    refine cQ [] (True) [(1, p0 b1), (12, .slice a l.length cap), (13, n6 l.length), (14, n6 i), (15, .bool (decide ((i : Int) < (l.length : Int))))] (trivial) ?_
    refine cd_seq ?_
    refine cI (decide ((i : Int) < (l.length : Int))) (fun h2 => ?_) (fun h2 => ?_)
    · have h2p : (i : Int) < (l.length : Int) := by simpa using h2
      refine cd_skip (then_n ?_)
      refine cd_seq ?_
      refine cd_block ?_
      obtain ⟨b2, o1, ha1⟩ := (hl).addr (by first | omega | (simp at *; omega))
      subst ha1
      obtain ⟨x1, hx1⟩ : ∃ x, l[i]? = some x := ⟨_, List.getElem?_eq_getElem (by first | omega | (simp at *; omega))⟩
      refine cd_rg ?_
      refine rQ [(1, .fact (.agg #[z6 x1.kind, str x1.key, str x1.val]))] [0, 1] [2, 3] ((0 ≤ (i : Int) ∧ (i : Int) < (l.length : Int)) ∧ (HasLoad Tryz.prog C [H, bk b1 32 #[u6 seq, .slice (some ⟨b2, o1, none⟩) l.length cap]] 107 ⟨b2, o1 + i * 3, none⟩ (.agg #[z6 x1.kind, str x1.key, str x1.val]))) [(1, p0 b1), (12, .slice (some ⟨b2, o1, none⟩) l.length cap), (13, n6 l.length), (14, n6 i), (17, .agg #[z6 x1.kind, str x1.key, str x1.val])] (⟨⟨by omega, by omega⟩, (hl).elem (P := Tryz.prog) (by intro p hp; simp [hp]) 107 i hx1 (by kernel_rfl) (by kernel_rfl) (by first | exact .inl ⟨by kernel_rfl, rfl⟩ | exact .inr ⟨by kernel_rfl, rfl⟩)⟩) ?_
      refine rN 2 [3] (.cells #[z6 0, str [], str []] 107 (0, 0)) p0 (fun b3 => ?_)
      refine rS [(3, .at 2)] [3] [] ((b3 = b3)) [(1, p0 b1), (4, p0 b3), (12, .slice (some ⟨b2, o1, none⟩) l.length cap), (13, n6 l.length), (14, n6 i)] [H, bk b1 32 #[u6 seq, .slice (some ⟨b2, o1, none⟩) l.length cap], bk b3 107 #[z6 x1.kind, str x1.key, str x1.val]] (rfl) ?_
      refine rF ?_
      refine cd_rg ?_
      refine rQ [(0, .at 2)] [0] [1, 2] ((b3 = b3)) [(1, p0 b1), (12, .slice (some ⟨b2, o1, none⟩) l.length cap), (13, n6 l.length), (14, n6 i), (18, .agg #[z6 x1.kind, str x1.key, str x1.val])] (rfl) ?_
      refine rC 1 [2] [] [H, bk b1 32 #[u6 seq, .slice (some ⟨b2, o1, none⟩) l.length cap], bk b3 107 #[z6 x1.kind, str x1.key, str x1.val]] (wrong_any C x1.kind x1.key x1.val ⟨by first | (exact (hk _ (List.mem_of_getElem? hx1)).1; done) | (exact (hk _ (List.mem_of_getElem? hx1)).2; done) | exact Ok.h {}⟩ ⟨by first | (exact (hk _ (List.mem_of_getElem? hx1)).1; done) | (exact (hk _ (List.mem_of_getElem? hx1)).2; done) | exact Ok.h {}⟩) ?_
      rintro _ _ ⟨rfl, rfl⟩
      refine rQ [] [2] [] (True) [(1, p0 b1), (5, n6 (wrongC x1.kind x1.key x1.val)), (12, .slice (some ⟨b2, o1, none⟩) l.length cap), (13, n6 l.length), (14, n6 i)] (trivial) ?_
      refine rF ?_
      refine cQ [] (True) [(1, p0 b1), (5, n6 (wrongC x1.kind x1.key x1.val)), (12, .slice (some ⟨b2, o1, none⟩) l.length cap), (13, n6 l.length), (14, n6 i), (21, .bool (((wrongC x1.kind x1.key x1.val : Nat) : Int) != 0))] (trivial) ?_
      refine cI (((wrongC x1.kind x1.key x1.val : Nat) : Int) != 0) (fun h3 => ?_) (fun h3 => ?_)
      · have h3p : ((wrongC x1.kind x1.key x1.val : Nat) : Int) ≠ 0 := by simpa using h3
        refine cQ [] (True) [(2, n6 (wrongC x1.kind x1.key x1.val))] (trivial) ?_
        refine cT [0] [H] ?_
        refine cd_ret (block_ret (then_ret (then_ret (block_ret (then_ret (bot_ret (rv [n6 (wrongC x1.kind x1.key x1.val)] (n6 (wrongC x1.kind x1.key x1.val)) ?_)))))))
        refine ⟨?_, rfl⟩
        all_goals first | with_reducible rfl | (rw [check6 (by omega)]; rfl; done) | (rw [check8 (by omega) (by assumption) (by omega)]; rfl; done) | (rw [check0 (by omega) (by assumption) (by omega)]; rfl; done) | (rw [checkW (by omega) (hI.hit hx1 (by omega)) (by omega)]; done) | with_reducible assumption | omega | rfl | (simp_all; done) | (simp_all; omega)
      · have h3p : ¬ (((wrongC x1.kind x1.key x1.val : Nat) : Int) ≠ 0) := by simpa using h3
        refine cd_skip (block_n (then_n ?_))
        refine cd_region ?_
        refine rQ [] [0, 1] [] ((inKind .i64 ((i : Int) + 1))) [(1, p0 b1), (12, .slice (some ⟨b2, o1, none⟩) l.length cap), (13, n6 l.length), (14, n6 (i + 1))] (inK_i64 (by omega)) ?_
        refine rT [0, 0] [H, bk b1 32 #[u6 seq, .slice (some ⟨b2, o1, none⟩) l.length cap]] ?_
        refine rg_nil ?_
        refine (lM (i + 1) (show WrongInv l (i + 1) from hI.next hx1 (by omega)) (show (l.length - (i + 1)) < (l.length - i) by first | omega | (simp; omega)))
    · have h2p : ¬ ((i : Int) < (l.length : Int)) := by simpa using h2
      refine cd_exit (then_exit (then_exit (block_hit (then_n ?_))))
      refine cd_seq ?_
      have hd := hI.done (by omega)
      refine cQ [(1, .at 1)] ((b1 = b1) ∧ (inKind .u64 (l.length : Int))) [(1, p0 b1), (6, u6 l.length)] (⟨rfl, inK_u64 (by omega)⟩) ?_
      refine cd_rg ?_
      refine rQ [(1, .at 1)] [0, 1, 2, 3] [4, 5, 6, 7, 8, 9, 10, 11, 12, 13, 14] ((b1 = b1)) [(1, p0 b1), (6, u6 l.length), (31, .bool (decide ((seq : Int) > 72057594037927935)))] (rfl) ?_
      refine rg_join2 [] [(42, .bool ((decide ((seq : Int) > 72057594037927935)) || ((decide ((l.length : Int) > 0)) && (decide ((((seq : Int) + (l.length : Int)) - 1) > 72057594037927935)))))] [H, bk b1 32 #[u6 seq, .slice a l.length cap]] (fun hj => ?_) ?_
      · refine rI 31 (decide ((seq : Int) > 72057594037927935)) (fun g1 => ?_) (fun g1 => ?_)
        · have g1p : (seq : Int) > 72057594037927935 := by simpa using g1
          refine rQ [] [4, 5, 6, 7, 8, 9, 10, 11, 12, 13, 14] [] (True) [(42, .bool true)] (trivial) ?_
          refine rP 42 (.bool true) (.bool ((decide ((seq : Int) > 72057594037927935)) || ((decide ((l.length : Int) > 0)) && (decide ((((seq : Int) + (l.length : Int)) - 1) > 72057594037927935))))) (by first | (rw [show (decide ((seq : Int) > 72057594037927935)) = true from g1]; done) | (rw [show (decide ((seq : Int) > 72057594037927935)) = true from g1]; rfl)) ?_
          exact rM hj
        · have g1p : ¬ ((seq : Int) > 72057594037927935) := by simpa using g1
          refine rQ [] [4, 5, 6] [7, 8, 9, 10, 11, 12, 13, 14] (True) [(1, p0 b1), (6, u6 l.length), (31, .bool false), (34, .bool (decide ((l.length : Int) > 0)))] (trivial) ?_
          refine rg_join2 [14] [(31, .bool false), (41, .bool ((decide ((l.length : Int) > 0)) && (decide ((((seq : Int) + (l.length : Int)) - 1) > 72057594037927935))))] [H, bk b1 32 #[u6 seq, .slice a l.length cap]] (fun hj => ?_) ?_
          · refine rI 34 (decide ((l.length : Int) > 0)) (fun g2 => ?_) (fun g2 => ?_)
            · have g2p : (l.length : Int) > 0 := by simpa using g2
              refine rQ [(8, .at 1)] [7, 8, 9, 10, 11, 12, 13] [14] ((b1 = b1) ∧ (inKind .u64 ((seq : Int) + (l.length : Int))) ∧ (inKind .u64 (((seq : Int) + (l.length : Int)) - 1))) [(31, .bool false), (41, .bool (decide ((((seq : Int) + (l.length : Int)) - 1) > 72057594037927935)))] (⟨rfl, inK_u64 (by omega), inK_u64 (by omega)⟩) ?_
              refine rP 41 (.bool (decide ((((seq : Int) + (l.length : Int)) - 1) > 72057594037927935))) (.bool ((decide ((l.length : Int) > 0)) && (decide ((((seq : Int) + (l.length : Int)) - 1) > 72057594037927935)))) (by first | (rw [show (decide ((l.length : Int) > 0)) = true from g2]; done) | (rw [show (decide ((l.length : Int) > 0)) = true from g2]; rfl)) ?_
              exact rM hj
            · have g2p : ¬ ((l.length : Int) > 0) := by simpa using g2
              refine rQ [] [7, 8, 9, 10, 11, 12, 13] [14] (True) [(31, .bool false), (41, .bool false)] (trivial) ?_
              refine rP 41 (.bool false) (.bool ((decide ((l.length : Int) > 0)) && (decide ((((seq : Int) + (l.length : Int)) - 1) > 72057594037927935)))) (by first | (rw [show (decide ((l.length : Int) > 0)) = false from g2]; done) | (rw [show (decide ((l.length : Int) > 0)) = false from g2]; rfl)) ?_
              exact rM hj
          refine rQ [] [14] [] (True) [(42, .bool ((decide ((l.length : Int) > 0)) && (decide ((((seq : Int) + (l.length : Int)) - 1) > 72057594037927935))))] (trivial) ?_
          refine rP 42 (.bool ((decide ((l.length : Int) > 0)) && (decide ((((seq : Int) + (l.length : Int)) - 1) > 72057594037927935)))) (.bool ((decide ((seq : Int) > 72057594037927935)) || ((decide ((l.length : Int) > 0)) && (decide ((((seq : Int) + (l.length : Int)) - 1) > 72057594037927935))))) (by first | (rw [show (decide ((seq : Int) > 72057594037927935)) = false from g1]; done) | (rw [show (decide ((seq : Int) > 72057594037927935)) = false from g1]; rfl)) ?_
          exact rM hj
      refine rD [(42, .bool ((decide ((seq : Int) > 72057594037927935)) || ((decide ((l.length : Int) > 0)) && (decide ((((seq : Int) + (l.length : Int)) - 1) > 72057594037927935)))))] ?_
      refine cI ((decide ((seq : Int) > 72057594037927935)) || ((decide ((l.length : Int) > 0)) && (decide ((((seq : Int) + (l.length : Int)) - 1) > 72057594037927935)))) (fun h4 => ?_) (fun h4 => ?_)
      · have h4p : ((seq : Int) > 72057594037927935) ∨ (((l.length : Int) > 0) ∧ ((((seq : Int) + (l.length : Int)) - 1) > 72057594037927935)) := by simpa using h4
        refine cQ [] (True) [(2, z6 8)] (trivial) ?_
        refine cT [0] [H] ?_
        refine cd_ret (then_ret (bot_ret (rv [z6 8] (z6 8) ?_)))
        refine ⟨?_, rfl⟩
        all_goals first | with_reducible rfl | (rw [check6 (by omega)]; rfl; done) | (rw [check8 (by omega) (by assumption) (by omega)]; rfl; done) | (rw [check0 (by omega) (by assumption) (by omega)]; rfl; done) | (rw [checkW (by omega) (hI.hit hx1 (by omega)) (by omega)]; done) | with_reducible assumption | omega | rfl | (simp_all; done) | (simp_all; omega)
      · have h4p : ¬ (((seq : Int) > 72057594037927935) ∨ (((l.length : Int) > 0) ∧ ((((seq : Int) + (l.length : Int)) - 1) > 72057594037927935))) := by simpa using h4
        refine cd_skip (then_n ?_)
        refine cQ [] (True) [(2, z6 0)] (trivial) ?_
        refine cT [0] [H] ?_
        refine cd_ret (bot_ret (rv [z6 0] (z6 0) ?_))
        refine ⟨?_, rfl⟩
        all_goals first | with_reducible rfl | (rw [check6 (by omega)]; rfl; done) | (rw [check8 (by omega) (by assumption) (by omega)]; rfl; done) | (rw [check0 (by omega) (by assumption) (by omega)]; rfl; done) | (rw [checkW (by omega) (hI.hit hx1 (by omega)) (by omega)]; done) | with_reducible assumption | omega | rfl | (simp_all; done) | (simp_all; omega)

set_option maxRecDepth 100000 in
theorem refSame_any (C : Ctx) (c1 : Nat) (c2 : Nat) (H : Blks) (a1 : Option Addr) (l1 : List Chg) (a2 : Option Addr) (l2 : List Chg) (hl1 : SeesL C H a1 chg 3 l1) (hl2 : SeesL C H a2 chg 3 l2) (h40 : Ok (l1.length ≤ 1099511627776)) :
    FnT Tryz.prog C 52 #[.slice a1 l1.length c1, .slice a2 l2.length c2] [H] (fun rv_ rL_ => rv_ = .bool (decide (l1 = l2)) ∧ rL_ = [H]) := by
  replace h40 := h40.h
  refine fE 26 Tryz.func52 rfl ?_
  refine cQ [] (True) [(0, .slice a1 l1.length c1), (1, .slice a2 l2.length c2)] (trivial) ?_
  refine cd_seq ?_
  refine cQ [] (True) [(0, .slice a1 l1.length c1), (1, .slice a2 l2.length c2), (10, .bool ((l1.length : Int) != (l2.length : Int)))] (trivial) ?_
  refine cI ((l1.length : Int) != (l2.length : Int)) (fun h1 => ?_) (fun h1 => ?_)
  · have h1p : (l1.length : Int) ≠ (l2.length : Int) := by simpa using h1
    refine cQ [] (True) [(4, .bool false)] (trivial) ?_
    refine cd_ret (then_ret (bot_ret (rv [.bool false] (.bool false) ?_)))
    refine ⟨?_, rfl⟩
    all_goals first | with_reducible rfl | (rw [decide_eq_false (ne_len (by omega))]; done) | (rw [decide_eq_false (ne_at hx1 hx2 (by assumption))]; done) | (rw [decide_eq_true (hI.done (by omega))]; done) | with_reducible assumption | omega | rfl | (simp_all; done) | (simp_all; omega)
  · have h1p : ¬ ((l1.length : Int) ≠ (l2.length : Int)) := by simpa using h1
    refine cd_skip (then_n ?_)
    refine cd_seq ?_
    refine cQ [] (True) [(0, .slice a1 l1.length c1), (1, .slice a2 l2.length c2), (12, n6 l1.length), (13, z6 0)] (trivial) ?_
    refine cd_block ?_
    refine lp (fun x : Nat => [(0, .slice a1 l1.length c1), (1, .slice a2 l2.length c2), (12, n6 l1.length), (13, n6 x)]) (fun x : Nat => [H]) (fun x : Nat => EqInv l1 l2 x) (fun x : Nat => l1.length - x) (0) (show EqInv l1 l2 0 from EqInv.start (by omega)) ?_
    rintro i hI
    replace hI : EqInv l1 l2 i := hI
    have hlen := hI.len
    refine cQ [] (True) [(0, .slice a1 l1.length c1), (1, .slice a2 l2.length c2), (12, n6 l1.length), (13, n6 i), (14, .bool (decide ((i : Int) < (l1.length : Int))))] (trivial) ?_
    refine cd_seq ?_
    refine cI (decide ((i : Int) < (l1.length : Int))) (fun h2 => ?_) (fun h2 => ?_)
    · have h2p : (i : Int) < (l1.length : Int) := by simpa using h2
      refine cd_skip (then_n ?_)
      refine cd_seq ?_
      refine cd_block ?_
      refine cQ [] (True) [(0, .slice a1 l1.length c1), (1, .slice a2 l2.length c2), (5, n6 i), (12, n6 l1.length), (13, n6 i)] (trivial) ?_
      obtain ⟨b1, o1, ha1⟩ := (hl1).addr (by first | omega | (simp at *; omega))
      subst ha1
      obtain ⟨x1, hx1⟩ : ∃ x, l1[i]? = some x := ⟨_, List.getElem?_eq_getElem (by first | omega | (simp at *; omega))⟩
      obtain ⟨b2, o2, ha2⟩ := (hl2).addr (by first | omega | (simp at *; omega))
      subst ha2
      obtain ⟨x2, hx2⟩ : ∃ x, l2[i]? = some x := ⟨_, List.getElem?_eq_getElem (by first | omega | (simp at *; omega))⟩
      refine dr [H] [] [] 9 ?_
      refine aS [(3, .fact (.agg #[z6 x1.kind, str x1.key, str x1.val])), (7, .fact (.agg #[z6 x2.kind, str x2.key, str x2.val]))] [0, 1, 4, 5, 2, 6, 3, 7] ((0 ≤ (i : Int) ∧ (i : Int) < (l1.length : Int)) ∧ (0 ≤ (i : Int) ∧ (i : Int) < (l2.length : Int)) ∧ (HasLoad Tryz.prog C [H] 107 ⟨b1, o1 + i * 3, none⟩ (.agg #[z6 x1.kind, str x1.key, str x1.val])) ∧ (HasLoad Tryz.prog C [H] 107 ⟨b2, o2 + i * 3, none⟩ (.agg #[z6 x2.kind, str x2.key, str x2.val]))) [(0, .slice (some ⟨b1, o1, none⟩) l1.length c1), (1, .slice (some ⟨b2, o2, none⟩) l2.length c2), (12, n6 l1.length), (13, n6 i), (19, .agg #[z6 x1.kind, str x1.key, str x1.val]), (23, .agg #[z6 x2.kind, str x2.key, str x2.val])] (bm 9 255) 1 (⟨⟨by omega, by omega⟩, ⟨by omega, by omega⟩, (hl1).elem (P := Tryz.prog) (by intro p hp; simp [hp]) 107 i hx1 (by kernel_rfl) (by kernel_rfl) (by first | exact .inl ⟨by kernel_rfl, rfl⟩ | exact .inr ⟨by kernel_rfl, rfl⟩), (hl2).elem (P := Tryz.prog) (by intro p hp; simp [hp]) 107 i hx2 (by kernel_rfl) (by kernel_rfl) (by first | exact .inl ⟨by kernel_rfl, rfl⟩ | exact .inr ⟨by kernel_rfl, rfl⟩)⟩) ?_
      refine aI (i := 8) ?_
      refine xX (do pure (.value (← (do eqGuard .neq 107 (.tmp 19) (.tmp 23) (.agg #[z6 x1.kind, str x1.key, str x1.val]) (.agg #[z6 x2.kind, str x2.key, str x2.val]); binOp .neq 107 (.agg #[z6 x1.kind, str x1.key, str x1.val]) (.agg #[z6 x2.kind, str x2.key, str x2.val]))))) [] [] [] [0, 1, 12, 13, 24] (bm 9 511) (gv_neq107 x1 x2 _ _) ?_
      rintro _ _ ⟨rfl, rfl⟩
      refine aE [(0, .slice (some ⟨b1, o1, none⟩) l1.length c1), (1, .slice (some ⟨b2, o2, none⟩) l2.length c2), (12, n6 l1.length), (13, n6 i), (24, .bool (!(decide (x1 = x2))))] [H] ?_
      refine cI (!(decide (x1 = x2))) (fun h3 => ?_) (fun h3 => ?_)
      · have h3p : ¬ (x1 = x2) := by simpa using h3
        refine cQ [] (True) [(4, .bool false)] (trivial) ?_
        refine cd_ret (block_ret (then_ret (then_ret (block_ret (then_ret (bot_ret (rv [.bool false] (.bool false) ?_)))))))
        refine ⟨?_, rfl⟩
        all_goals first | with_reducible rfl | (rw [decide_eq_false (ne_len (by omega))]; done) | (rw [decide_eq_false (ne_at hx1 hx2 (by assumption))]; done) | (rw [decide_eq_true (hI.done (by omega))]; done) | with_reducible assumption | omega | rfl | (simp_all; done) | (simp_all; omega)
      · have h3p : ¬ (¬ (x1 = x2)) := by simpa using h3
        refine cd_skip (block_n (then_n ?_))
        refine cQ0 [] ((inKind .i64 ((i : Int) + 1))) [(0, .slice (some ⟨b1, o1, none⟩) l1.length c1), (1, .slice (some ⟨b2, o2, none⟩) l2.length c2), (12, n6 l1.length), (13, n6 (i + 1))] (inK_i64 (by omega)) ?_
        refine (lM (i + 1) (show EqInv l1 l2 (i + 1) from hI.next hx1 hx2 (by first | assumption | exact Decidable.of_not_not (by assumption))) (show (l1.length - (i + 1)) < (l1.length - i) by first | omega | (simp; omega)))
    · have h2p : ¬ ((i : Int) < (l1.length : Int)) := by simpa using h2
      refine cd_exit (then_exit (then_exit (block_hit (then_n ?_))))
      refine cQ [] (True) [(4, .bool true)] (trivial) ?_
      refine cd_ret (bot_ret (rv [.bool true] (.bool true) ?_))
      refine ⟨?_, rfl⟩
      all_goals first | with_reducible rfl | (rw [decide_eq_false (ne_len (by omega))]; done) | (rw [decide_eq_false (ne_at hx1 hx2 (by assumption))]; done) | (rw [decide_eq_true (hI.done (by omega))]; done) | with_reducible assumption | omega | rfl | (simp_all; done) | (simp_all; omega)

set_option maxRecDepth 100000 in
theorem change_any (C : Ctx) (b : Nat) (s : List UInt8) (at_ : Nat) (e : Nat) (ha : Ok (at_ ≤ s.length)) (hs : Ok (s.length ≤ 1099511627776)) (he : Ok (e ≤ 100)) :
    FnT Tryz.prog C 100 #[p0 b] [bk b 227 #[str s, n6 at_, n6 e]] (fun rv_ rL_ => ∃ k : Nat, ∃ key : List UInt8, ∃ val : List UInt8, ∃ a1 : Nat, ∃ e1 : Nat, (Rd.change ⟨s, at_, e⟩ = (⟨(k : Int), key, val⟩, ⟨s, a1, e1⟩)) ∧ (a1 ≤ s.length) ∧ (e1 ≤ 100) ∧ (key.length ≤ 200 ∧ val.length ≤ 4096) ∧ (k ≤ 255) ∧ rv_ = .agg #[n6 k, str key, str val] ∧ rL_ = [bk b 227 #[str s, n6 a1, n6 e1]]) := by
  replace ha := ha.h
  replace hs := hs.h
  replace he := he.h
  refine fE 38 Tryz.func100 rfl ?_
  refine cd_rg ?_
  refine rQ [] [] [0] (True) [(0, p0 b)] (trivial) ?_
  refine rN 0 [] (.cells #[z6 0, str [], str []] 107 (0, 0)) p0 (fun b1 => ?_)
  refine rD [(0, p0 b), (2, p0 b1)] ?_
  refine cd_rg ?_
  refine rQ [] [] [0] (True) [(0, p0 b), (2, p0 b1)] (trivial) ?_
  refine rN 0 [] (.cells #[z6 0, str [], str []] 107 (0, 0)) p0 (fun b2 => ?_)
  refine rD [(0, p0 b), (2, p0 b1), (3, p0 b2)] ?_
  refine cd_seq ?_
  refine cd_rg ?_
  refine rQ [] [0] [1, 2] (True) [(0, p0 b), (2, p0 b1), (3, p0 b2), (5, p0 b)] (trivial) ?_
  refine rC 1 [2] [0] [bk b1 107 #[z6 0, str [], str []], bk b2 107 #[z6 0, str [], str []]] (take_any C b s at_ e 1 {} {} {} {}) ?_
  rintro _ _ ⟨t1, a1_1, e1_1, hf1, hf2, hf3, rfl, rfl⟩
  refine rQ [] [2] [] (True) [(0, p0 b), (2, p0 b1), (3, p0 b2), (4, str t1)] (trivial) ?_
  refine rF ?_
  have ht1 := take_len hf1 1 (by omega)
  refine cQ [] (True) [(0, p0 b), (2, p0 b1), (3, p0 b2), (4, str t1), (8, .bool (!(t1 == [])))] (trivial) ?_
  refine cI (!(t1 == [])) (fun h1 => ?_) (fun h1 => ?_)
  · have h1p : ¬ (t1 = []) := by simpa using h1
    refine cS0 [(4, .at 2)] ((0 ≤ (0 : Int) ∧ (0 : Int) < (t1.length : Int)) ∧ (inKind .i64 (((t1.getD 0 0).toNat : Nat) : Int)) ∧ (b2 = b2)) [(0, p0 b), (2, p0 b1), (3, p0 b2)] [bk b 227 #[str s, n6 a1_1, n6 e1_1], bk b1 107 #[z6 0, str [], str []], bk b2 107 #[n6 ((t1.getD 0 0).toNat), str [], str []]] (⟨⟨by omega, by have := List.length_pos_iff.2 h1p; omega⟩, inK_i64 (by have hu1 := UInt8.toNat_lt (t1.getD 0 0); omega), rfl⟩) ?_
    refine (then_n ?_)
    refine cd_seq ?_
    refine cd_rg ?_
    refine rQ [] [0] [1, 2, 3, 4, 5, 6, 7, 8, 9, 10, 11, 12] (True) [(0, p0 b), (2, p0 b1), (3, p0 b2), (13, p0 b)] (trivial) ?_
    refine rC 1 [2, 3, 4, 5, 6, 7, 8, 9, 10, 11, 12] [0] [bk b1 107 #[z6 0, str [], str []], bk b2 107 #[n6 ((t1.getD 0 0).toNat), str [], str []]] (err_any C b s a1_1 e1_1) ?_
    rintro _ _ ⟨rfl, rfl⟩
    refine rQ [] [2, 3] [4, 5, 6, 7, 8, 9, 10, 11, 12] (True) [(0, p0 b), (2, p0 b1), (3, p0 b2), (16, .bool ((e1_1 : Int) == 0))] (trivial) ?_
    refine rg_join2 [8, 9, 10, 11, 12] [(0, p0 b), (2, p0 b1), (3, p0 b2), (20, .bool (((e1_1 : Int) == 0) && ((((t1.getD 0 0).toNat : Nat) : Int) != 1)))] [bk b 227 #[str s, n6 a1_1, n6 e1_1], bk b1 107 #[z6 0, str [], str []], bk b2 107 #[n6 ((t1.getD 0 0).toNat), str [], str []]] (fun hj => ?_) ?_
    · refine rI 16 ((e1_1 : Int) == 0) (fun g1 => ?_) (fun g1 => ?_)
      · have g1p : (e1_1 : Int) = 0 := by simpa using g1
        refine rQ [(5, .at 2)] [4, 5, 6, 7] [8, 9, 10, 11, 12] ((b2 = b2)) [(0, p0 b), (2, p0 b1), (3, p0 b2), (20, .bool ((((t1.getD 0 0).toNat : Nat) : Int) != 1))] (rfl) ?_
        refine rP 20 (.bool ((((t1.getD 0 0).toNat : Nat) : Int) != 1)) (.bool (((e1_1 : Int) == 0) && ((((t1.getD 0 0).toNat : Nat) : Int) != 1))) (by first | (rw [show ((e1_1 : Int) == 0) = true from g1]; done) | (rw [show ((e1_1 : Int) == 0) = true from g1]; rfl)) ?_
        exact rM hj
      · have g1p : ¬ ((e1_1 : Int) = 0) := by simpa using g1
        refine rQ [] [4, 5, 6, 7] [8, 9, 10, 11, 12] (True) [(0, p0 b), (2, p0 b1), (3, p0 b2), (20, .bool false)] (trivial) ?_
        refine rP 20 (.bool false) (.bool (((e1_1 : Int) == 0) && ((((t1.getD 0 0).toNat : Nat) : Int) != 1))) (by first | (rw [show ((e1_1 : Int) == 0) = false from g1]; done) | (rw [show ((e1_1 : Int) == 0) = false from g1]; rfl)) ?_
        exact rM hj
    refine rQ [] [8] [9, 10, 11, 12] (True) [(0, p0 b), (2, p0 b1), (3, p0 b2), (21, .bool (((e1_1 : Int) == 0) && ((((t1.getD 0 0).toNat : Nat) : Int) != 1)))] (trivial) ?_
    refine rg_join2 [] [(0, p0 b), (2, p0 b1), (3, p0 b2), (25, .bool ((((e1_1 : Int) == 0) && ((((t1.getD 0 0).toNat : Nat) : Int) != 1)) && ((((t1.getD 0 0).toNat : Nat) : Int) != 2)))] [bk b 227 #[str s, n6 a1_1, n6 e1_1], bk b1 107 #[z6 0, str [], str []], bk b2 107 #[n6 ((t1.getD 0 0).toNat), str [], str []]] (fun hj => ?_) ?_
    · refine rI 21 (((e1_1 : Int) == 0) && ((((t1.getD 0 0).toNat : Nat) : Int) != 1)) (fun g2 => ?_) (fun g2 => ?_)
      · have g2p : ((e1_1 : Int) = 0) ∧ ((((t1.getD 0 0).toNat : Nat) : Int) ≠ 1) := by simpa using g2
        refine rQ [(10, .at 2)] [9, 10, 11, 12] [] ((b2 = b2)) [(0, p0 b), (2, p0 b1), (3, p0 b2), (25, .bool ((((t1.getD 0 0).toNat : Nat) : Int) != 2))] (rfl) ?_
        refine rP 25 (.bool ((((t1.getD 0 0).toNat : Nat) : Int) != 2)) (.bool ((((e1_1 : Int) == 0) && ((((t1.getD 0 0).toNat : Nat) : Int) != 1)) && ((((t1.getD 0 0).toNat : Nat) : Int) != 2))) (by first | (rw [show (((e1_1 : Int) == 0) && ((((t1.getD 0 0).toNat : Nat) : Int) != 1)) = true from g2]; done) | (rw [show (((e1_1 : Int) == 0) && ((((t1.getD 0 0).toNat : Nat) : Int) != 1)) = true from g2]; rfl)) ?_
        exact rM hj
      · have g2p : ¬ (((e1_1 : Int) = 0) ∧ ((((t1.getD 0 0).toNat : Nat) : Int) ≠ 1)) := by simpa using g2
        refine rQ [] [9, 10, 11, 12] [] (True) [(0, p0 b), (2, p0 b1), (3, p0 b2), (25, .bool false)] (trivial) ?_
        refine rP 25 (.bool false) (.bool ((((e1_1 : Int) == 0) && ((((t1.getD 0 0).toNat : Nat) : Int) != 1)) && ((((t1.getD 0 0).toNat : Nat) : Int) != 2))) (by first | (rw [show (((e1_1 : Int) == 0) && ((((t1.getD 0 0).toNat : Nat) : Int) != 1)) = false from g2]; done) | (rw [show (((e1_1 : Int) == 0) && ((((t1.getD 0 0).toNat : Nat) : Int) != 1)) = false from g2]; rfl)) ?_
        exact rM hj
    refine rD [(0, p0 b), (2, p0 b1), (3, p0 b2), (25, .bool ((((e1_1 : Int) == 0) && ((((t1.getD 0 0).toNat : Nat) : Int) != 1)) && ((((t1.getD 0 0).toNat : Nat) : Int) != 2)))] ?_
    refine cI ((((e1_1 : Int) == 0) && ((((t1.getD 0 0).toNat : Nat) : Int) != 1)) && ((((t1.getD 0 0).toNat : Nat) : Int) != 2)) (fun h2 => ?_) (fun h2 => ?_)
    · have h2p : (((e1_1 : Int) = 0) ∧ ((((t1.getD 0 0).toNat : Nat) : Int) ≠ 1)) ∧ ((((t1.getD 0 0).toNat : Nat) : Int) ≠ 2) := by simpa using h2
      refine cd_region ?_
      refine rQ [] [0] [1] (True) [(0, p0 b), (2, p0 b1), (3, p0 b2), (26, p0 b)] (trivial) ?_
      refine rC 1 [] [0] [bk b1 107 #[z6 0, str [], str []], bk b2 107 #[n6 ((t1.getD 0 0).toNat), str [], str []]] (fail_any C b s a1_1 e1_1 11 {}) ?_
      rintro _ _ ⟨e1_2, hf4, hf5, rfl, rfl⟩
      refine rg_nil ?_
      refine (then_n ?_)
      refine cd_rg ?_
      refine rQ [] [0] [1, 2, 3] (True) [(0, p0 b), (2, p0 b1), (3, p0 b2), (28, p0 b)] (trivial) ?_
      refine rC 1 [2, 3] [0] [bk b1 107 #[z6 0, str [], str []], bk b2 107 #[n6 ((t1.getD 0 0).toNat), str [], str []]] (text_any C b s a1_1 e1_2 200 {} {} {} {}) ?_
      rintro _ _ ⟨t2, a1_2, e1_3, hf6, hf7, hf8, hf9, rfl, rfl⟩
      refine rS [(3, .at 2)] [2, 3] [] ((b2 = b2)) [(0, p0 b), (2, p0 b1), (3, p0 b2)] [bk b 227 #[str s, n6 a1_2, n6 e1_3], bk b1 107 #[z6 0, str [], str []], bk b2 107 #[n6 ((t1.getD 0 0).toNat), str t2, str []]] (rfl) ?_
      refine rF ?_
      refine cd_seq ?_
      refine cQ [(1, .at 2)] ((b2 = b2)) [(0, p0 b), (2, p0 b1), (3, p0 b2), (33, .bool ((((t1.getD 0 0).toNat : Nat) : Int) == 1))] (rfl) ?_
      refine cI ((((t1.getD 0 0).toNat : Nat) : Int) == 1) (fun h3 => ?_) (fun h3 => ?_)
      · have h3p : (((t1.getD 0 0).toNat : Nat) : Int) = 1 := by simpa using h3
        refine cd_region ?_
        refine rQ [] [0] [1, 2, 3] (True) [(2, p0 b1), (3, p0 b2), (34, p0 b)] (trivial) ?_
        refine rC 1 [2, 3] [0] [bk b1 107 #[z6 0, str [], str []], bk b2 107 #[n6 ((t1.getD 0 0).toNat), str t2, str []]] (text_any C b s a1_2 e1_3 4096 {} {} {} {}) ?_
        rintro _ _ ⟨t3, a1_3, e1_4, hf10, hf11, hf12, hf13, rfl, rfl⟩
        refine rS [(3, .at 2)] [2, 3] [] ((b2 = b2)) [(2, p0 b1), (3, p0 b2)] [bk b 227 #[str s, n6 a1_3, n6 e1_4], bk b1 107 #[z6 0, str [], str []], bk b2 107 #[n6 ((t1.getD 0 0).toNat), str t2, str t3]] (rfl) ?_
        refine rg_nil ?_
        refine (then_n ?_)
        refine cS [(0, .at 2), (1, .at 1)] ((b2 = b2) ∧ (b1 = b1)) [(2, p0 b1)] [bk b 227 #[str s, n6 a1_3, n6 e1_4], bk b1 107 #[n6 ((t1.getD 0 0).toNat), str t2, str t3], bk b2 107 #[n6 ((t1.getD 0 0).toNat), str t2, str t3]] (⟨rfl, rfl⟩) ?_
        refine cd_ret (bot_ret (ret_cell 2 107 1 b1 #[n6 ((t1.getD 0 0).toNat), str t2, str t3] 107 (0, 0) [0] [bk b 227 #[str s, n6 a1_3, n6 e1_4]] [bk b1 107 #[n6 ((t1.getD 0 0).toNat), str t2, str t3], bk b2 107 #[n6 ((t1.getD 0 0).toNat), str t2, str t3]] rfl (by kernel_rfl) (by kernel_rfl) (by kernel_rfl) (by kernel_rfl) (by kernel_rfl) (by kernel_rfl) ?_))
        refine ⟨(t1.getD 0 0).toNat, t2, t3, a1_3, e1_4, ?_, ?_, ?_, ?_, ?_, ?_, rfl⟩
        all_goals first | with_reducible rfl | (exact Rd.change_of (by assumption) (by assumption) (by first | exact .inl ⟨by omega, by assumption⟩ | exact .inr ⟨by omega, rfl, rfl⟩) (by first | exact big_one ht1 (by assumption) | exact big_none (by assumption)) (by first | exact Rd.mid_fail (by dsimp only; omega) (by omega) (by omega) (by assumption) | exact Rd.mid_same (by dsimp only; omega)); done) | (exact ⟨by assumption, by assumption⟩; done) | (exact ⟨by assumption, by simp⟩; done) | (have := UInt8.toNat_lt (t1.getD 0 0); omega; done) | with_reducible assumption | omega | rfl | (simp_all; done) | (simp_all; omega)
      · have h3p : ¬ ((((t1.getD 0 0).toNat : Nat) : Int) = 1) := by simpa using h3
        refine cd_skip (then_n ?_)
        refine cS [(0, .at 2), (1, .at 1)] ((b2 = b2) ∧ (b1 = b1)) [(2, p0 b1)] [bk b 227 #[str s, n6 a1_2, n6 e1_3], bk b1 107 #[n6 ((t1.getD 0 0).toNat), str t2, str []], bk b2 107 #[n6 ((t1.getD 0 0).toNat), str t2, str []]] (⟨rfl, rfl⟩) ?_
        refine cd_ret (bot_ret (ret_cell 2 107 1 b1 #[n6 ((t1.getD 0 0).toNat), str t2, str []] 107 (0, 0) [0] [bk b 227 #[str s, n6 a1_2, n6 e1_3]] [bk b1 107 #[n6 ((t1.getD 0 0).toNat), str t2, str []], bk b2 107 #[n6 ((t1.getD 0 0).toNat), str t2, str []]] rfl (by kernel_rfl) (by kernel_rfl) (by kernel_rfl) (by kernel_rfl) (by kernel_rfl) (by kernel_rfl) ?_))
        refine ⟨(t1.getD 0 0).toNat, t2, [], a1_2, e1_3, ?_, ?_, ?_, ?_, ?_, ?_, rfl⟩
        all_goals first | with_reducible rfl | (exact Rd.change_of (by assumption) (by assumption) (by first | exact .inl ⟨by omega, by assumption⟩ | exact .inr ⟨by omega, rfl, rfl⟩) (by first | exact big_one ht1 (by assumption) | exact big_none (by assumption)) (by first | exact Rd.mid_fail (by dsimp only; omega) (by omega) (by omega) (by assumption) | exact Rd.mid_same (by dsimp only; omega)); done) | (exact ⟨by assumption, by assumption⟩; done) | (exact ⟨by assumption, by simp⟩; done) | (have := UInt8.toNat_lt (t1.getD 0 0); omega; done) | with_reducible assumption | omega | rfl | (simp_all; done) | (simp_all; omega)
    · have h2p : ¬ ((((e1_1 : Int) = 0) ∧ ((((t1.getD 0 0).toNat : Nat) : Int) ≠ 1)) ∧ ((((t1.getD 0 0).toNat : Nat) : Int) ≠ 2)) := by simpa using h2
      refine cd_skip (then_n ?_)
      refine cd_rg ?_
      refine rQ [] [0] [1, 2, 3] (True) [(0, p0 b), (2, p0 b1), (3, p0 b2), (28, p0 b)] (trivial) ?_
      refine rC 1 [2, 3] [0] [bk b1 107 #[z6 0, str [], str []], bk b2 107 #[n6 ((t1.getD 0 0).toNat), str [], str []]] (text_any C b s a1_1 e1_1 200 {} {} {} {}) ?_
      rintro _ _ ⟨t4, a1_4, e1_5, hf14, hf15, hf16, hf17, rfl, rfl⟩
      refine rS [(3, .at 2)] [2, 3] [] ((b2 = b2)) [(0, p0 b), (2, p0 b1), (3, p0 b2)] [bk b 227 #[str s, n6 a1_4, n6 e1_5], bk b1 107 #[z6 0, str [], str []], bk b2 107 #[n6 ((t1.getD 0 0).toNat), str t4, str []]] (rfl) ?_
      refine rF ?_
      refine cd_seq ?_
      refine cQ [(1, .at 2)] ((b2 = b2)) [(0, p0 b), (2, p0 b1), (3, p0 b2), (33, .bool ((((t1.getD 0 0).toNat : Nat) : Int) == 1))] (rfl) ?_
      refine cI ((((t1.getD 0 0).toNat : Nat) : Int) == 1) (fun h4 => ?_) (fun h4 => ?_)
      · have h4p : (((t1.getD 0 0).toNat : Nat) : Int) = 1 := by simpa using h4
        refine cd_region ?_
        refine rQ [] [0] [1, 2, 3] (True) [(2, p0 b1), (3, p0 b2), (34, p0 b)] (trivial) ?_
        refine rC 1 [2, 3] [0] [bk b1 107 #[z6 0, str [], str []], bk b2 107 #[n6 ((t1.getD 0 0).toNat), str t4, str []]] (text_any C b s a1_4 e1_5 4096 {} {} {} {}) ?_
        rintro _ _ ⟨t5, a1_5, e1_6, hf18, hf19, hf20, hf21, rfl, rfl⟩
        refine rS [(3, .at 2)] [2, 3] [] ((b2 = b2)) [(2, p0 b1), (3, p0 b2)] [bk b 227 #[str s, n6 a1_5, n6 e1_6], bk b1 107 #[z6 0, str [], str []], bk b2 107 #[n6 ((t1.getD 0 0).toNat), str t4, str t5]] (rfl) ?_
        refine rg_nil ?_
        refine (then_n ?_)
        refine cS [(0, .at 2), (1, .at 1)] ((b2 = b2) ∧ (b1 = b1)) [(2, p0 b1)] [bk b 227 #[str s, n6 a1_5, n6 e1_6], bk b1 107 #[n6 ((t1.getD 0 0).toNat), str t4, str t5], bk b2 107 #[n6 ((t1.getD 0 0).toNat), str t4, str t5]] (⟨rfl, rfl⟩) ?_
        refine cd_ret (bot_ret (ret_cell 2 107 1 b1 #[n6 ((t1.getD 0 0).toNat), str t4, str t5] 107 (0, 0) [0] [bk b 227 #[str s, n6 a1_5, n6 e1_6]] [bk b1 107 #[n6 ((t1.getD 0 0).toNat), str t4, str t5], bk b2 107 #[n6 ((t1.getD 0 0).toNat), str t4, str t5]] rfl (by kernel_rfl) (by kernel_rfl) (by kernel_rfl) (by kernel_rfl) (by kernel_rfl) (by kernel_rfl) ?_))
        refine ⟨(t1.getD 0 0).toNat, t4, t5, a1_5, e1_6, ?_, ?_, ?_, ?_, ?_, ?_, rfl⟩
        all_goals first | with_reducible rfl | (exact Rd.change_of (by assumption) (by assumption) (by first | exact .inl ⟨by omega, by assumption⟩ | exact .inr ⟨by omega, rfl, rfl⟩) (by first | exact big_one ht1 (by assumption) | exact big_none (by assumption)) (by first | exact Rd.mid_fail (by dsimp only; omega) (by omega) (by omega) (by assumption) | exact Rd.mid_same (by dsimp only; omega)); done) | (exact ⟨by assumption, by assumption⟩; done) | (exact ⟨by assumption, by simp⟩; done) | (have := UInt8.toNat_lt (t1.getD 0 0); omega; done) | with_reducible assumption | omega | rfl | (simp_all; done) | (simp_all; omega)
      · have h4p : ¬ ((((t1.getD 0 0).toNat : Nat) : Int) = 1) := by simpa using h4
        refine cd_skip (then_n ?_)
        refine cS [(0, .at 2), (1, .at 1)] ((b2 = b2) ∧ (b1 = b1)) [(2, p0 b1)] [bk b 227 #[str s, n6 a1_4, n6 e1_5], bk b1 107 #[n6 ((t1.getD 0 0).toNat), str t4, str []], bk b2 107 #[n6 ((t1.getD 0 0).toNat), str t4, str []]] (⟨rfl, rfl⟩) ?_
        refine cd_ret (bot_ret (ret_cell 2 107 1 b1 #[n6 ((t1.getD 0 0).toNat), str t4, str []] 107 (0, 0) [0] [bk b 227 #[str s, n6 a1_4, n6 e1_5]] [bk b1 107 #[n6 ((t1.getD 0 0).toNat), str t4, str []], bk b2 107 #[n6 ((t1.getD 0 0).toNat), str t4, str []]] rfl (by kernel_rfl) (by kernel_rfl) (by kernel_rfl) (by kernel_rfl) (by kernel_rfl) (by kernel_rfl) ?_))
        refine ⟨(t1.getD 0 0).toNat, t4, [], a1_4, e1_5, ?_, ?_, ?_, ?_, ?_, ?_, rfl⟩
        all_goals first | with_reducible rfl | (exact Rd.change_of (by assumption) (by assumption) (by first | exact .inl ⟨by omega, by assumption⟩ | exact .inr ⟨by omega, rfl, rfl⟩) (by first | exact big_one ht1 (by assumption) | exact big_none (by assumption)) (by first | exact Rd.mid_fail (by dsimp only; omega) (by omega) (by omega) (by assumption) | exact Rd.mid_same (by dsimp only; omega)); done) | (exact ⟨by assumption, by assumption⟩; done) | (exact ⟨by assumption, by simp⟩; done) | (have := UInt8.toNat_lt (t1.getD 0 0); omega; done) | with_reducible assumption | omega | rfl | (simp_all; done) | (simp_all; omega)
  · have h1p : ¬ (¬ (t1 = [])) := by simpa using h1
    refine cd_skip (then_n ?_)
    refine cd_seq ?_
    refine cd_rg ?_
    refine rQ [] [0] [1, 2, 3, 4, 5, 6, 7, 8, 9, 10, 11, 12] (True) [(0, p0 b), (2, p0 b1), (3, p0 b2), (13, p0 b)] (trivial) ?_
    refine rC 1 [2, 3, 4, 5, 6, 7, 8, 9, 10, 11, 12] [0] [bk b1 107 #[z6 0, str [], str []], bk b2 107 #[z6 0, str [], str []]] (err_any C b s a1_1 e1_1) ?_
    rintro _ _ ⟨rfl, rfl⟩
    refine rQ [] [2, 3] [4, 5, 6, 7, 8, 9, 10, 11, 12] (True) [(0, p0 b), (2, p0 b1), (3, p0 b2), (16, .bool ((e1_1 : Int) == 0))] (trivial) ?_
    refine rg_join2 [8, 9, 10, 11, 12] [(0, p0 b), (2, p0 b1), (3, p0 b2), (20, .bool ((e1_1 : Int) == 0))] [bk b 227 #[str s, n6 a1_1, n6 e1_1], bk b1 107 #[z6 0, str [], str []], bk b2 107 #[z6 0, str [], str []]] (fun hj => ?_) ?_
    · refine rI 16 ((e1_1 : Int) == 0) (fun g3 => ?_) (fun g3 => ?_)
      · have g3p : (e1_1 : Int) = 0 := by simpa using g3
        refine rQ [(5, .at 2)] [4, 5, 6, 7] [8, 9, 10, 11, 12] ((b2 = b2)) [(0, p0 b), (2, p0 b1), (3, p0 b2), (20, .bool true)] (rfl) ?_
        refine rP 20 (.bool true) (.bool ((e1_1 : Int) == 0)) (by first | (rw [show ((e1_1 : Int) == 0) = true from g3]; done) | (rw [show ((e1_1 : Int) == 0) = true from g3]; rfl)) ?_
        exact rM hj
      · have g3p : ¬ ((e1_1 : Int) = 0) := by simpa using g3
        refine rQ [] [4, 5, 6, 7] [8, 9, 10, 11, 12] (True) [(0, p0 b), (2, p0 b1), (3, p0 b2), (20, .bool false)] (trivial) ?_
        refine rP 20 (.bool false) (.bool ((e1_1 : Int) == 0)) (by first | (rw [show ((e1_1 : Int) == 0) = false from g3]; done) | (rw [show ((e1_1 : Int) == 0) = false from g3]; rfl)) ?_
        exact rM hj
    refine rQ [] [8] [9, 10, 11, 12] (True) [(0, p0 b), (2, p0 b1), (3, p0 b2), (21, .bool ((e1_1 : Int) == 0))] (trivial) ?_
    refine rg_join2 [] [(0, p0 b), (2, p0 b1), (3, p0 b2), (25, .bool ((e1_1 : Int) == 0))] [bk b 227 #[str s, n6 a1_1, n6 e1_1], bk b1 107 #[z6 0, str [], str []], bk b2 107 #[z6 0, str [], str []]] (fun hj => ?_) ?_
    · refine rI 21 ((e1_1 : Int) == 0) (fun g4 => ?_) (fun g4 => ?_)
      · have g4p : (e1_1 : Int) = 0 := by simpa using g4
        refine rQ [(10, .at 2)] [9, 10, 11, 12] [] ((b2 = b2)) [(0, p0 b), (2, p0 b1), (3, p0 b2), (25, .bool true)] (rfl) ?_
        refine rP 25 (.bool true) (.bool ((e1_1 : Int) == 0)) (by first | (rw [show ((e1_1 : Int) == 0) = true from g4]; done) | (rw [show ((e1_1 : Int) == 0) = true from g4]; rfl)) ?_
        exact rM hj
      · have g4p : ¬ ((e1_1 : Int) = 0) := by simpa using g4
        refine rQ [] [9, 10, 11, 12] [] (True) [(0, p0 b), (2, p0 b1), (3, p0 b2), (25, .bool false)] (trivial) ?_
        refine rP 25 (.bool false) (.bool ((e1_1 : Int) == 0)) (by first | (rw [show ((e1_1 : Int) == 0) = false from g4]; done) | (rw [show ((e1_1 : Int) == 0) = false from g4]; rfl)) ?_
        exact rM hj
    refine rD [(0, p0 b), (2, p0 b1), (3, p0 b2), (25, .bool ((e1_1 : Int) == 0))] ?_
    refine cI ((e1_1 : Int) == 0) (fun h5 => ?_) (fun h5 => ?_)
    · have h5p : (e1_1 : Int) = 0 := by simpa using h5
      refine cd_region ?_
      refine rQ [] [0] [1] (True) [(0, p0 b), (2, p0 b1), (3, p0 b2), (26, p0 b)] (trivial) ?_
      refine rC 1 [] [0] [bk b1 107 #[z6 0, str [], str []], bk b2 107 #[z6 0, str [], str []]] (fail_any C b s a1_1 e1_1 11 {}) ?_
      rintro _ _ ⟨e1_7, hf22, hf23, rfl, rfl⟩
      refine rg_nil ?_
      refine (then_n ?_)
      refine cd_rg ?_
      refine rQ [] [0] [1, 2, 3] (True) [(0, p0 b), (2, p0 b1), (3, p0 b2), (28, p0 b)] (trivial) ?_
      refine rC 1 [2, 3] [0] [bk b1 107 #[z6 0, str [], str []], bk b2 107 #[z6 0, str [], str []]] (text_any C b s a1_1 e1_7 200 {} {} {} {}) ?_
      rintro _ _ ⟨t6, a1_6, e1_8, hf24, hf25, hf26, hf27, rfl, rfl⟩
      refine rS [(3, .at 2)] [2, 3] [] ((b2 = b2)) [(0, p0 b), (2, p0 b1), (3, p0 b2)] [bk b 227 #[str s, n6 a1_6, n6 e1_8], bk b1 107 #[z6 0, str [], str []], bk b2 107 #[z6 0, str t6, str []]] (rfl) ?_
      refine rF ?_
      refine cd_seq ?_
      refine cQ [(1, .at 2)] ((b2 = b2)) [(0, p0 b), (2, p0 b1), (3, p0 b2), (33, .bool false)] (rfl) ?_
      refine cNo ?_
      refine cd_skip (then_n ?_)
      refine cS [(0, .at 2), (1, .at 1)] ((b2 = b2) ∧ (b1 = b1)) [(2, p0 b1)] [bk b 227 #[str s, n6 a1_6, n6 e1_8], bk b1 107 #[z6 0, str t6, str []], bk b2 107 #[z6 0, str t6, str []]] (⟨rfl, rfl⟩) ?_
      refine cd_ret (bot_ret (ret_cell 2 107 1 b1 #[z6 0, str t6, str []] 107 (0, 0) [0] [bk b 227 #[str s, n6 a1_6, n6 e1_8]] [bk b1 107 #[z6 0, str t6, str []], bk b2 107 #[z6 0, str t6, str []]] rfl (by kernel_rfl) (by kernel_rfl) (by kernel_rfl) (by kernel_rfl) (by kernel_rfl) (by kernel_rfl) ?_))
      refine ⟨0, t6, [], a1_6, e1_8, ?_, ?_, ?_, ?_, ?_, ?_, rfl⟩
      all_goals first | with_reducible rfl | (exact Rd.change_of (by assumption) (by assumption) (by first | exact .inl ⟨by omega, by assumption⟩ | exact .inr ⟨by omega, rfl, rfl⟩) (by first | exact big_one ht1 (by assumption) | exact big_none (by assumption)) (by first | exact Rd.mid_fail (by dsimp only; omega) (by omega) (by omega) (by assumption) | exact Rd.mid_same (by dsimp only; omega)); done) | (exact ⟨by assumption, by assumption⟩; done) | (exact ⟨by assumption, by simp⟩; done) | (have := UInt8.toNat_lt (t1.getD 0 0); omega; done) | with_reducible assumption | omega | rfl | (simp_all; done) | (simp_all; omega)
    · have h5p : ¬ ((e1_1 : Int) = 0) := by simpa using h5
      refine cd_skip (then_n ?_)
      refine cd_rg ?_
      refine rQ [] [0] [1, 2, 3] (True) [(0, p0 b), (2, p0 b1), (3, p0 b2), (28, p0 b)] (trivial) ?_
      refine rC 1 [2, 3] [0] [bk b1 107 #[z6 0, str [], str []], bk b2 107 #[z6 0, str [], str []]] (text_any C b s a1_1 e1_1 200 {} {} {} {}) ?_
      rintro _ _ ⟨t7, a1_7, e1_9, hf28, hf29, hf30, hf31, rfl, rfl⟩
      refine rS [(3, .at 2)] [2, 3] [] ((b2 = b2)) [(0, p0 b), (2, p0 b1), (3, p0 b2)] [bk b 227 #[str s, n6 a1_7, n6 e1_9], bk b1 107 #[z6 0, str [], str []], bk b2 107 #[z6 0, str t7, str []]] (rfl) ?_
      refine rF ?_
      refine cd_seq ?_
      refine cQ [(1, .at 2)] ((b2 = b2)) [(0, p0 b), (2, p0 b1), (3, p0 b2), (33, .bool false)] (rfl) ?_
      refine cNo ?_
      refine cd_skip (then_n ?_)
      refine cS [(0, .at 2), (1, .at 1)] ((b2 = b2) ∧ (b1 = b1)) [(2, p0 b1)] [bk b 227 #[str s, n6 a1_7, n6 e1_9], bk b1 107 #[z6 0, str t7, str []], bk b2 107 #[z6 0, str t7, str []]] (⟨rfl, rfl⟩) ?_
      refine cd_ret (bot_ret (ret_cell 2 107 1 b1 #[z6 0, str t7, str []] 107 (0, 0) [0] [bk b 227 #[str s, n6 a1_7, n6 e1_9]] [bk b1 107 #[z6 0, str t7, str []], bk b2 107 #[z6 0, str t7, str []]] rfl (by kernel_rfl) (by kernel_rfl) (by kernel_rfl) (by kernel_rfl) (by kernel_rfl) (by kernel_rfl) ?_))
      refine ⟨0, t7, [], a1_7, e1_9, ?_, ?_, ?_, ?_, ?_, ?_, rfl⟩
      all_goals first | with_reducible rfl | (exact Rd.change_of (by assumption) (by assumption) (by first | exact .inl ⟨by omega, by assumption⟩ | exact .inr ⟨by omega, rfl, rfl⟩) (by first | exact big_one ht1 (by assumption) | exact big_none (by assumption)) (by first | exact Rd.mid_fail (by dsimp only; omega) (by omega) (by omega) (by assumption) | exact Rd.mid_same (by dsimp only; omega)); done) | (exact ⟨by assumption, by assumption⟩; done) | (exact ⟨by assumption, by simp⟩; done) | (have := UInt8.toNat_lt (t1.getD 0 0); omega; done) | with_reducible assumption | omega | rfl | (simp_all; done) | (simp_all; omega)

set_option maxRecDepth 100000 in
theorem over_any (C : Ctx) (s : List UInt8) :
    FnT Tryz.prog C 95 #[str s] [] (fun rv_ rL_ => ∃ b : Nat, rv_ = p0 b ∧ rL_ = [bk b 227 #[str s, z6 0, z6 0]]) := by
  refine fE 6 Tryz.func95 rfl ?_
  refine cQ [] (True) [(0, str s)] (trivial) ?_
  refine cd_rg ?_
  refine rQ [] [0, 1] [2, 3] (True) [(4, .agg #[str s, z6 0, z6 0])] (trivial) ?_
  refine rN 2 [3] (.cells #[str s, z6 0, z6 0] 227 (0, 0)) p0 (fun b1 => ?_)
  refine rQ [] [3] [] (True) [(2, p0 b1)] (trivial) ?_
  refine rF ?_
  refine cd_ret (bot_ret (rv [p0 b1] (p0 b1) ?_))
  refine ⟨b1, ?_, rfl⟩
  all_goals first | with_reducible rfl | (skip; done) | with_reducible assumption | omega | rfl | (simp_all; done) | (simp_all; omega)

set_option maxRecDepth 100000 in
theorem parse_any (C : Ctx) (s : List UInt8) (hs : Ok (s.length ≤ 1099511627776)) :
    FnT Tryz.prog C 50 #[str s] [] (fun rv_ rL_ => ∃ x : Nat, ∃ seq : Nat, ∃ l : List Chg, ∃ a : Option Addr, ∃ cap : Nat, ∃ L1 : Blks, (Row 107 3 a l.length cap (l.flatMap chg) L1) ∧ (parse s = (x, seq, l)) ∧ (x ≤ 100) ∧ (seq ≤ 72057594037927935) ∧ (l.length ≤ 2000) ∧ (∀ x ∈ l, x.key.length ≤ 200 ∧ x.val.length ≤ 4096) ∧ rv_ = .tuple #[.agg #[u6 seq, .slice a l.length cap], n6 x] ∧ rL_ = [L1]) := by
  replace hs := hs.h
  refine fE 48 Tryz.func50 rfl ?_
  refine cd_rg ?_
  refine rQ [] [] [0, 1] (True) [(0, str s)] (trivial) ?_
  refine rN 0 [1] (.cells #[.int .u64 0, .slice none 0 0] 32 (0, 0)) p0 (fun b1 => ?_)
  refine rQ [] [1] [] (True) [(0, str s), (2, p0 b1)] (trivial) ?_
  refine rF ?_
  refine cd_rg ?_
  refine rQ [] [0] [1, 2] (True) [(2, p0 b1), (9, str s)] (trivial) ?_
  refine rC 1 [2] [] [bk b1 32 #[.int .u64 0, .slice none 0 0]] (over_any C s) ?_
  rintro _ _ ⟨b2, rfl, rfl⟩
  refine rQ [] [2] [] (True) [(2, p0 b1), (4, p0 b2)] (trivial) ?_
  refine rF ?_
  refine cd_rg ?_
  refine rQ [] [0] [1, 2, 3, 4] (True) [(2, p0 b1), (4, p0 b2), (11, p0 b2)] (trivial) ?_
  refine rC 1 [2, 3, 4] [0] [bk b1 32 #[.int .u64 0, .slice none 0 0]] (wide_any C b2 s 0 0 ⟨by first | (exact fun x hx => ⟨Nat.le_trans (hI.ok x hx).1 (by omega), Nat.le_trans (hI.ok x hx).2 (by omega)⟩; done) | exact Ok.h {}⟩ ⟨by first | (exact fun x hx => ⟨Nat.le_trans (hI.ok x hx).1 (by omega), Nat.le_trans (hI.ok x hx).2 (by omega)⟩; done) | exact Ok.h {}⟩ ⟨by first | (exact fun x hx => ⟨Nat.le_trans (hI.ok x hx).1 (by omega), Nat.le_trans (hI.ok x hx).2 (by omega)⟩; done) | exact Ok.h {}⟩) ?_
  rintro _ _ ⟨x1, t1, a1_1, e1_1, hf1, hf2, hf3, hf4, hf5, rfl, rfl⟩
  refine rQ [] [2] [3, 4] (True) [(2, p0 b1), (4, p0 b2), (13, .agg #[u6 x1, .slice none 0 0])] (trivial) ?_
  refine rN 3 [4] (.cells #[.int .u64 0, .slice none 0 0] 32 (0, 0)) p0 (fun b3 => ?_)
  refine rS [(4, .at 2)] [4] [] ((b3 = b3)) [(2, p0 b1), (4, p0 b2), (5, p0 b3)] [bk b2 227 #[str s, n6 a1_1, n6 e1_1], bk b1 32 #[.int .u64 0, .slice none 0 0], bk b3 32 #[u6 x1, .slice none 0 0]] (rfl) ?_
  refine rF ?_
  subst hf4
  refine cd_rg ?_
  refine rQ [] [0] [1, 2] (True) [(2, p0 b1), (4, p0 b2), (5, p0 b3), (14, p0 b2)] (trivial) ?_
  refine rC 1 [2] [0] [bk b1 32 #[.int .u64 0, .slice none 0 0], bk b3 32 #[u6 (big t1), .slice none 0 0]] (num_any C b2 s a1_1 e1_1 ⟨by first | (exact fun x hx => ⟨Nat.le_trans (hI.ok x hx).1 (by omega), Nat.le_trans (hI.ok x hx).2 (by omega)⟩; done) | exact Ok.h {}⟩ ⟨by first | (exact fun x hx => ⟨Nat.le_trans (hI.ok x hx).1 (by omega), Nat.le_trans (hI.ok x hx).2 (by omega)⟩; done) | exact Ok.h {}⟩ ⟨by first | (exact fun x hx => ⟨Nat.le_trans (hI.ok x hx).1 (by omega), Nat.le_trans (hI.ok x hx).2 (by omega)⟩; done) | exact Ok.h {}⟩) ?_
  rintro _ _ ⟨n1, a1_2, e1_2, hf6, hf7, hf8, hf9, rfl, rfl⟩
  refine rQ [] [2] [] (True) [(2, p0 b1), (4, p0 b2), (5, p0 b3), (6, u6 n1)] (trivial) ?_
  refine rF ?_
  refine cd_seq ?_
  refine cQ [] (True) [(2, p0 b1), (4, p0 b2), (5, p0 b3), (6, u6 n1), (17, .bool (decide ((n1 : Int) > 2000)))] (trivial) ?_
  refine cI (decide ((n1 : Int) > 2000)) (fun h1 => ?_) (fun h1 => ?_)
  · have h1p : (n1 : Int) > 2000 := by simpa using h1
    refine cd_region ?_
    refine rQ [] [0] [1] (True) [(2, p0 b1), (4, p0 b2), (5, p0 b3), (6, u6 n1), (18, p0 b2)] (trivial) ?_
    refine rC 1 [] [0] [bk b1 32 #[.int .u64 0, .slice none 0 0], bk b3 32 #[u6 (big t1), .slice none 0 0]] (fail_any C b2 s a1_2 e1_2 6 ⟨by first | (exact fun x hx => ⟨Nat.le_trans (hI.ok x hx).1 (by omega), Nat.le_trans (hI.ok x hx).2 (by omega)⟩; done) | exact Ok.h {}⟩) ?_
    rintro _ _ ⟨e1_3, hf10, hf11, rfl, rfl⟩
    refine rg_nil ?_
    refine (then_n ?_)
    refine cd_seq ?_
    refine cQ [] (True) [(2, p0 b1), (4, p0 b2), (5, p0 b3), (6, u6 n1), (7, .int .u64 0)] (trivial) ?_
    refine cd_block ?_
    refine cd_more ?_
    refine lp (fun x : Nat × (List Chg) × (Option Addr) × Nat × Blks × Nat × Nat => [(2, p0 b1), (4, p0 b2), (5, p0 b3), (6, u6 n1), (7, u6 x.1)]) (fun x : Nat × (List Chg) × (Option Addr) × Nat × Blks × Nat × Nat => [bk b2 227 #[str s, n6 x.2.2.2.2.2.1, n6 x.2.2.2.2.2.2], bk b1 32 #[.int .u64 0, .slice none 0 0], bk b3 32 #[u6 (big t1), .slice x.2.2.1 x.2.1.length x.2.2.2.1], x.2.2.2.2.1]) (fun x : Nat × (List Chg) × (Option Addr) × Nat × Blks × Nat × Nat => ParseInv n1 ⟨s, a1_2, e1_3⟩ x.1 x.2.1 ⟨s, x.2.2.2.2.2.1, x.2.2.2.2.2.2⟩ ∧ Row 107 3 x.2.2.1 (x.2.1 : List Chg).length x.2.2.2.1 ((x.2.1 : List Chg).flatMap chg) x.2.2.2.2.1 ∧ x.2.2.2.2.2.1 ≤ s.length ∧ x.2.2.2.2.2.2 ≤ 100 ∧ (x.2.2.2.2.2.2 = 0 → n1 ≤ 2000)) (fun x : Nat × (List Chg) × (Option Addr) × Nat × Blks × Nat × Nat => n1 - x.1) ((0, [], none, 0, [], a1_2, e1_3)) (show ParseInv n1 ⟨s, a1_2, e1_3⟩ 0 [] ⟨s, a1_2, e1_3⟩ ∧ Row 107 3 none ([] : List Chg).length 0 (([] : List Chg).flatMap chg) [] ∧ a1_2 ≤ s.length ∧ e1_3 ≤ 100 ∧ (e1_3 = 0 → n1 ≤ 2000) from ⟨ParseInv.start _ _, Row.nil 107 3, by omega, by omega, fun h => by first | omega | exact absurd h (fail_ne (by assumption) (by decide))⟩) ?_
    rintro ⟨i, l, a, cap, L, ar, er⟩ hI
    replace hI : ParseInv n1 ⟨s, a1_2, e1_3⟩ i l ⟨s, ar, er⟩ ∧ Row 107 3 a (l : List Chg).length cap ((l : List Chg).flatMap chg) L ∧ ar ≤ s.length ∧ er ≤ 100 ∧ (er = 0 → n1 ≤ 2000) := hI
    obtain ⟨hI, hR, har, her, h20⟩ := hI
    have hlen := hI.len
    have hle := hI.le
    refine cd_seq ?_
    refine cd_rg ?_
    refine rQ [] [0, 1, 2, 3] [4, 5, 6, 7] (True) [(2, p0 b1), (4, p0 b2), (5, p0 b3), (6, u6 n1), (7, u6 i), (23, .bool (decide ((i : Int) < (n1 : Int))))] (trivial) ?_
    refine rg_join2 [] [(2, p0 b1), (4, p0 b2), (5, p0 b3), (6, u6 n1), (7, u6 i), (27, .bool ((decide ((i : Int) < (n1 : Int))) && ((er : Int) == 0)))] [bk b2 227 #[str s, n6 ar, n6 er], bk b1 32 #[.int .u64 0, .slice none 0 0], bk b3 32 #[u6 (big t1), .slice a l.length cap], L] (fun hj => ?_) ?_
    · refine rI 23 (decide ((i : Int) < (n1 : Int))) (fun g1 => ?_) (fun g1 => ?_)
      · have g1p : (i : Int) < (n1 : Int) := by simpa using g1
        refine rQ [] [4] [5, 6, 7] (True) [(2, p0 b1), (4, p0 b2), (5, p0 b3), (6, u6 n1), (7, u6 i), (23, .bool true), (24, p0 b2)] (trivial) ?_
        refine rC 5 [6, 7] [0] [bk b1 32 #[.int .u64 0, .slice none 0 0], bk b3 32 #[u6 (big t1), .slice a l.length cap], L] (err_any C b2 s ar er) ?_
        rintro _ _ ⟨rfl, rfl⟩
        refine rQ [] [6, 7] [] (True) [(2, p0 b1), (4, p0 b2), (5, p0 b3), (6, u6 n1), (7, u6 i), (27, .bool ((er : Int) == 0))] (trivial) ?_
        refine rP 27 (.bool ((er : Int) == 0)) (.bool ((decide ((i : Int) < (n1 : Int))) && ((er : Int) == 0))) (by first | (rw [show (decide ((i : Int) < (n1 : Int))) = true from g1]; done) | (rw [show (decide ((i : Int) < (n1 : Int))) = true from g1]; rfl)) ?_
        exact rM hj
      · have g1p : ¬ ((i : Int) < (n1 : Int)) := by simpa using g1
        refine rQ [] [4, 5, 6, 7] [] (True) [(2, p0 b1), (4, p0 b2), (5, p0 b3), (6, u6 n1), (7, u6 i), (27, .bool false)] (trivial) ?_
        refine rP 27 (.bool false) (.bool ((decide ((i : Int) < (n1 : Int))) && ((er : Int) == 0))) (by first | (rw [show (decide ((i : Int) < (n1 : Int))) = false from g1]; done) | (rw [show (decide ((i : Int) < (n1 : Int))) = false from g1]; rfl)) ?_
        exact rM hj
    refine rD [(2, p0 b1), (4, p0 b2), (5, p0 b3), (6, u6 n1), (7, u6 i), (27, .bool ((decide ((i : Int) < (n1 : Int))) && ((er : Int) == 0)))] ?_
    refine cI ((decide ((i : Int) < (n1 : Int))) && ((er : Int) == 0)) (fun h2 => ?_) (fun h2 => ?_)
    · have h2p : ((i : Int) < (n1 : Int)) ∧ ((er : Int) = 0) := by simpa using h2
      refine cd_skip (then_n ?_)
      refine cd_seq ?_
      refine cd_block ?_
      refine dr0 [bk b1 32 #[.int .u64 0, .slice none 0 0]] [bk b2 227 #[str s, n6 ar, n6 er], bk b3 32 #[u6 (big t1), .slice a l.length cap], L] [0, 1, 1] 8 ?_
      refine aS [] [0, 2] (True) [(2, p0 b1), (4, p0 b2), (5, p0 b3), (6, u6 n1), (7, u6 i), (30, pq b3 1), (32, p0 b2)] (bm 8 5) 6 (trivial) ?_
      refine aII (i := 1) (j := 3) ?_ ?_
      ·
        refine xQ [(1, .at 1)] (b3 = b3) [(2, p0 b1), (4, p0 b2), (5, p0 b3), (6, u6 n1), (7, u6 i), (31, .slice a l.length cap), (32, p0 b2)] (bm 8 7) (rfl) ?_
        refine aI (i := 3) ?_
        refine xC [0] [bk b3 32 #[u6 (big t1), .slice a l.length cap], L] [2, 4, 5, 6, 7, 31, 33] (bm 8 15) (change_any C b2 s ar er ⟨by first | (exact fun x hx => ⟨Nat.le_trans (hI.ok x hx).1 (by omega), Nat.le_trans (hI.ok x hx).2 (by omega)⟩; done) | exact Ok.h {}⟩ ⟨by first | (exact fun x hx => ⟨Nat.le_trans (hI.ok x hx).1 (by omega), Nat.le_trans (hI.ok x hx).2 (by omega)⟩; done) | exact Ok.h {}⟩ ⟨by first | (exact fun x hx => ⟨Nat.le_trans (hI.ok x hx).1 (by omega), Nat.le_trans (hI.ok x hx).2 (by omega)⟩; done) | exact Ok.h {}⟩) ?_
        rintro _ _ ⟨k1, key1, val1, a1_3, e1_4, hf12, hf13, hf14, hf15, hf16, rfl, rfl⟩
        refine aI (i := 4) ?_
        refine xN (.cells #[n6 k1, str key1, str val1] 107 (0, 0)) (fun b4 => sl b4 1 1) [2, 4, 5, 6, 7, 31, 34] (bm 8 31) (fun b4 => ?_)
        refine aI (i := 5) ?_
        refine xX (do pure (.value (← Builtin.append_ #[30, 30] 30 #[.slice a l.length cap, sl b4 1 1]))) [2, 2] [L, bk b4 107 #[n6 k1, str key1, str val1]] [bk b2 227 #[str s, n6 a1_3, n6 e1_4], bk b3 32 #[u6 (big t1), .slice a l.length cap]] [2, 4, 5, 6, 7, 35] (bm 8 63) (gv_push (bytes := 40) (l := l) (enc := chg) (⟨(k1 : Int), key1, val1⟩ : Chg) 30 (by kernel_rfl) hR rfl rfl (by kernel_rfl) (by omega) (by omega)) ?_
        rintro _ _ ⟨a1, cap1, L1, rfl, rfl, h3⟩
        refine aS [] [6] (True) [(2, p0 b1), (4, p0 b2), (5, p0 b3), (6, u6 n1), (7, u6 i), (35, .slice a1 ((l ++ [(⟨(k1 : Int), key1, val1⟩ : Chg)]).length) cap1), (36, pq b3 1)] (bm 8 127) 1 (trivial) ?_
        refine aI (i := 7) ?_
        refine xS [(7, .at 2)] (b3 = b3) [(2, p0 b1), (4, p0 b2), (5, p0 b3), (6, u6 n1), (7, u6 i)] [L1, bk b2 227 #[str s, n6 a1_3, n6 e1_4], bk b3 32 #[u6 (big t1), .slice a1 ((l ++ [(⟨(k1 : Int), key1, val1⟩ : Chg)]).length) cap1]] (bm 8 255) (rfl) ?_
        refine aK [0, 0, 0, 0] [(2, p0 b1), (4, p0 b2), (5, p0 b3), (6, u6 n1), (7, u6 i)] [bk b1 32 #[.int .u64 0, .slice none 0 0], L1, bk b2 227 #[str s, n6 a1_3, n6 e1_4], bk b3 32 #[u6 (big t1), .slice a1 ((l ++ [(⟨(k1 : Int), key1, val1⟩ : Chg)]).length) cap1]] ?_
        refine (block_n (then_n ?_))
        refine cd_region ?_
        refine rQ [] [0, 1, 2] [] ((inKind .u64 ((i : Int) + 1))) [(2, p0 b1), (4, p0 b2), (5, p0 b3), (6, u6 n1), (7, u6 (i + 1))] (inK_u64 (by omega)) ?_
        refine rT [2, 0, 1, 0] [bk b2 227 #[str s, n6 a1_3, n6 e1_4], bk b1 32 #[.int .u64 0, .slice none 0 0], bk b3 32 #[u6 (big t1), .slice a1 ((l ++ [(⟨(k1 : Int), key1, val1⟩ : Chg)]).length) cap1], L1] ?_
        refine rg_nil ?_
        refine (lM ((i + 1, l ++ [(⟨(k1 : Int), key1, val1⟩ : Chg)], a1, cap1, L1, a1_3, e1_4)) (show ParseInv n1 ⟨s, a1_2, e1_3⟩ (i + 1) (l ++ [(⟨(k1 : Int), key1, val1⟩ : Chg)]) ⟨s, a1_3, e1_4⟩ ∧ Row 107 3 a1 (l ++ [(⟨(k1 : Int), key1, val1⟩ : Chg)] : List Chg).length cap1 ((l ++ [(⟨(k1 : Int), key1, val1⟩ : Chg)] : List Chg).flatMap chg) L1 ∧ a1_3 ≤ s.length ∧ e1_4 ≤ 100 ∧ (e1_4 = 0 → n1 ≤ 2000) from ⟨hI.next (by omega) (by dsimp only; omega) (by assumption) (by assumption), h3, by omega, by omega, fun _ => by omega⟩) (show (n1 - (i + 1)) < (n1 - i) by first | omega | (simp; omega)))
      ·
        refine xC [0] [bk b3 32 #[u6 (big t1), .slice a l.length cap], L] [2, 4, 5, 6, 7, 30, 33] (bm 8 13) (change_any C b2 s ar er ⟨by first | (exact fun x hx => ⟨Nat.le_trans (hI.ok x hx).1 (by omega), Nat.le_trans (hI.ok x hx).2 (by omega)⟩; done) | exact Ok.h {}⟩ ⟨by first | (exact fun x hx => ⟨Nat.le_trans (hI.ok x hx).1 (by omega), Nat.le_trans (hI.ok x hx).2 (by omega)⟩; done) | exact Ok.h {}⟩ ⟨by first | (exact fun x hx => ⟨Nat.le_trans (hI.ok x hx).1 (by omega), Nat.le_trans (hI.ok x hx).2 (by omega)⟩; done) | exact Ok.h {}⟩) ?_
        rintro _ _ ⟨k2, key2, val2, a1_4, e1_5, hf17, hf18, hf19, hf20, hf21, rfl, rfl⟩
        refine aII (i := 1) (j := 4) ?_ ?_
        ·
          refine xQ [(1, .at 1)] (b3 = b3) [(2, p0 b1), (4, p0 b2), (5, p0 b3), (6, u6 n1), (7, u6 i), (31, .slice a l.length cap), (33, .agg #[n6 k2, str key2, str val2])] (bm 8 15) (rfl) ?_
          refine aI (i := 4) ?_
          refine xN (.cells #[n6 k2, str key2, str val2] 107 (0, 0)) (fun b5 => sl b5 1 1) [2, 4, 5, 6, 7, 31, 34] (bm 8 31) (fun b5 => ?_)
          refine aI (i := 5) ?_
          refine xX (do pure (.value (← Builtin.append_ #[30, 30] 30 #[.slice a l.length cap, sl b5 1 1]))) [2, 2] [L, bk b5 107 #[n6 k2, str key2, str val2]] [bk b2 227 #[str s, n6 a1_4, n6 e1_5], bk b3 32 #[u6 (big t1), .slice a l.length cap]] [2, 4, 5, 6, 7, 35] (bm 8 63) (gv_push (bytes := 40) (l := l) (enc := chg) (⟨(k2 : Int), key2, val2⟩ : Chg) 30 (by kernel_rfl) hR rfl rfl (by kernel_rfl) (by omega) (by omega)) ?_
          rintro _ _ ⟨a2, cap2, L2, rfl, rfl, h4⟩
          refine aS [] [6] (True) [(2, p0 b1), (4, p0 b2), (5, p0 b3), (6, u6 n1), (7, u6 i), (35, .slice a2 ((l ++ [(⟨(k2 : Int), key2, val2⟩ : Chg)]).length) cap2), (36, pq b3 1)] (bm 8 127) 1 (trivial) ?_
          refine aI (i := 7) ?_
          refine xS [(7, .at 2)] (b3 = b3) [(2, p0 b1), (4, p0 b2), (5, p0 b3), (6, u6 n1), (7, u6 i)] [L2, bk b2 227 #[str s, n6 a1_4, n6 e1_5], bk b3 32 #[u6 (big t1), .slice a2 ((l ++ [(⟨(k2 : Int), key2, val2⟩ : Chg)]).length) cap2]] (bm 8 255) (rfl) ?_
          refine aK [0, 0, 0, 0] [(2, p0 b1), (4, p0 b2), (5, p0 b3), (6, u6 n1), (7, u6 i)] [bk b1 32 #[.int .u64 0, .slice none 0 0], L2, bk b2 227 #[str s, n6 a1_4, n6 e1_5], bk b3 32 #[u6 (big t1), .slice a2 ((l ++ [(⟨(k2 : Int), key2, val2⟩ : Chg)]).length) cap2]] ?_
          refine (block_n (then_n ?_))
          refine cd_region ?_
          refine rQ [] [0, 1, 2] [] ((inKind .u64 ((i : Int) + 1))) [(2, p0 b1), (4, p0 b2), (5, p0 b3), (6, u6 n1), (7, u6 (i + 1))] (inK_u64 (by omega)) ?_
          refine rT [2, 0, 1, 0] [bk b2 227 #[str s, n6 a1_4, n6 e1_5], bk b1 32 #[.int .u64 0, .slice none 0 0], bk b3 32 #[u6 (big t1), .slice a2 ((l ++ [(⟨(k2 : Int), key2, val2⟩ : Chg)]).length) cap2], L2] ?_
          refine rg_nil ?_
          refine (lM ((i + 1, l ++ [(⟨(k2 : Int), key2, val2⟩ : Chg)], a2, cap2, L2, a1_4, e1_5)) (show ParseInv n1 ⟨s, a1_2, e1_3⟩ (i + 1) (l ++ [(⟨(k2 : Int), key2, val2⟩ : Chg)]) ⟨s, a1_4, e1_5⟩ ∧ Row 107 3 a2 (l ++ [(⟨(k2 : Int), key2, val2⟩ : Chg)] : List Chg).length cap2 ((l ++ [(⟨(k2 : Int), key2, val2⟩ : Chg)] : List Chg).flatMap chg) L2 ∧ a1_4 ≤ s.length ∧ e1_5 ≤ 100 ∧ (e1_5 = 0 → n1 ≤ 2000) from ⟨hI.next (by omega) (by dsimp only; omega) (by assumption) (by assumption), h4, by omega, by omega, fun _ => by omega⟩) (show (n1 - (i + 1)) < (n1 - i) by first | omega | (simp; omega)))
        ·
          refine xN (.cells #[n6 k2, str key2, str val2] 107 (0, 0)) (fun b6 => sl b6 1 1) [2, 4, 5, 6, 7, 30, 34] (bm 8 29) (fun b6 => ?_)
          refine aI (i := 1) ?_
          refine xQ [(1, .at 1)] (b3 = b3) [(2, p0 b1), (4, p0 b2), (5, p0 b3), (6, u6 n1), (7, u6 i), (31, .slice a l.length cap), (34, sl b6 1 1)] (bm 8 31) (rfl) ?_
          refine aI (i := 5) ?_
          refine xX (do pure (.value (← Builtin.append_ #[30, 30] 30 #[.slice a l.length cap, sl b6 1 1]))) [2, 2] [L, bk b6 107 #[n6 k2, str key2, str val2]] [bk b2 227 #[str s, n6 a1_4, n6 e1_5], bk b3 32 #[u6 (big t1), .slice a l.length cap]] [2, 4, 5, 6, 7, 35] (bm 8 63) (gv_push (bytes := 40) (l := l) (enc := chg) (⟨(k2 : Int), key2, val2⟩ : Chg) 30 (by kernel_rfl) hR rfl rfl (by kernel_rfl) (by omega) (by omega)) ?_
          rintro _ _ ⟨a3, cap3, L3, rfl, rfl, h5⟩
          refine aS [] [6] (True) [(2, p0 b1), (4, p0 b2), (5, p0 b3), (6, u6 n1), (7, u6 i), (35, .slice a3 ((l ++ [(⟨(k2 : Int), key2, val2⟩ : Chg)]).length) cap3), (36, pq b3 1)] (bm 8 127) 1 (trivial) ?_
          refine aI (i := 7) ?_
          refine xS [(7, .at 2)] (b3 = b3) [(2, p0 b1), (4, p0 b2), (5, p0 b3), (6, u6 n1), (7, u6 i)] [L3, bk b2 227 #[str s, n6 a1_4, n6 e1_5], bk b3 32 #[u6 (big t1), .slice a3 ((l ++ [(⟨(k2 : Int), key2, val2⟩ : Chg)]).length) cap3]] (bm 8 255) (rfl) ?_
          refine aK [0, 0, 0, 0] [(2, p0 b1), (4, p0 b2), (5, p0 b3), (6, u6 n1), (7, u6 i)] [bk b1 32 #[.int .u64 0, .slice none 0 0], L3, bk b2 227 #[str s, n6 a1_4, n6 e1_5], bk b3 32 #[u6 (big t1), .slice a3 ((l ++ [(⟨(k2 : Int), key2, val2⟩ : Chg)]).length) cap3]] ?_
          refine (block_n (then_n ?_))
          refine cd_region ?_
          refine rQ [] [0, 1, 2] [] ((inKind .u64 ((i : Int) + 1))) [(2, p0 b1), (4, p0 b2), (5, p0 b3), (6, u6 n1), (7, u6 (i + 1))] (inK_u64 (by omega)) ?_
          refine rT [2, 0, 1, 0] [bk b2 227 #[str s, n6 a1_4, n6 e1_5], bk b1 32 #[.int .u64 0, .slice none 0 0], bk b3 32 #[u6 (big t1), .slice a3 ((l ++ [(⟨(k2 : Int), key2, val2⟩ : Chg)]).length) cap3], L3] ?_
          refine rg_nil ?_
          refine (lM ((i + 1, l ++ [(⟨(k2 : Int), key2, val2⟩ : Chg)], a3, cap3, L3, a1_4, e1_5)) (show ParseInv n1 ⟨s, a1_2, e1_3⟩ (i + 1) (l ++ [(⟨(k2 : Int), key2, val2⟩ : Chg)]) ⟨s, a1_4, e1_5⟩ ∧ Row 107 3 a3 (l ++ [(⟨(k2 : Int), key2, val2⟩ : Chg)] : List Chg).length cap3 ((l ++ [(⟨(k2 : Int), key2, val2⟩ : Chg)] : List Chg).flatMap chg) L3 ∧ a1_4 ≤ s.length ∧ e1_5 ≤ 100 ∧ (e1_5 = 0 → n1 ≤ 2000) from ⟨hI.next (by omega) (by dsimp only; omega) (by assumption) (by assumption), h5, by omega, by omega, fun _ => by omega⟩) (show (n1 - (i + 1)) < (n1 - i) by first | omega | (simp; omega)))
    · have h2p : ¬ (((i : Int) < (n1 : Int)) ∧ ((er : Int) = 0)) := by simpa using h2
      refine cd_exit (then_exit (then_exit (block_hit (then_n ?_))))
      refine cd_rg ?_
      refine rQ [] [0] [1, 2] (True) [(2, p0 b1), (5, p0 b3), (37, p0 b2)] (trivial) ?_
      refine rC 1 [2] [0] [bk b1 32 #[.int .u64 0, .slice none 0 0], bk b3 32 #[u6 (big t1), .slice a l.length cap], L] (end_any C b2 s ar er ⟨by first | (exact fun x hx => ⟨Nat.le_trans (hI.ok x hx).1 (by omega), Nat.le_trans (hI.ok x hx).2 (by omega)⟩; done) | exact Ok.h {}⟩ ⟨by first | (exact fun x hx => ⟨Nat.le_trans (hI.ok x hx).1 (by omega), Nat.le_trans (hI.ok x hx).2 (by omega)⟩; done) | exact Ok.h {}⟩ ⟨by first | (exact fun x hx => ⟨Nat.le_trans (hI.ok x hx).1 (by omega), Nat.le_trans (hI.ok x hx).2 (by omega)⟩; done) | exact Ok.h {}⟩) ?_
      rintro _ _ ⟨x2, hf22, hf23, rfl, rfl⟩
      refine rQ [] [2] [] (True) [(2, p0 b1), (5, p0 b3), (8, n6 x2)] (trivial) ?_
      refine rF ?_
      refine cd_seq ?_
      refine cQ [] (True) [(2, p0 b1), (5, p0 b3), (8, n6 x2), (40, .bool ((x2 : Int) == 0))] (trivial) ?_
      refine cI ((x2 : Int) == 0) (fun h6 => ?_) (fun h6 => ?_)
      · have h6p : (x2 : Int) = 0 := by simpa using h6
        refine cd_region ?_
        refine rQ [(0, .at 2)] [0] [1, 2] ((b3 = b3)) [(2, p0 b1), (5, p0 b3), (41, .agg #[u6 (big t1), .slice a l.length cap])] (rfl) ?_
        refine rR 1 [2] (check_any C (big t1) cap _ a l (SeesL.mono (Row.seesL (C := C) (l := l) (enc := chg) hR rfl rfl (fun _ => rfl) (by decide)) (by intro p hp; simp [hp])) ⟨by first | (exact fun x hx => ⟨Nat.le_trans (hI.ok x hx).1 (by omega), Nat.le_trans (hI.ok x hx).2 (by omega)⟩; done) | exact Ok.h {}⟩ ⟨by first | (exact fun x hx => ⟨Nat.le_trans (hI.ok x hx).1 (by omega), Nat.le_trans (hI.ok x hx).2 (by omega)⟩; done) | exact Ok.h {}⟩) ?_
        rintro _ rfl
        refine rQ [] [2] [] (True) [(2, p0 b1), (5, p0 b3), (8, n6 (checkB (big t1) l))] (trivial) ?_
        refine rg_nil ?_
        refine (then_n ?_)
        refine cd_seq ?_
        refine cQ [] (True) [(2, p0 b1), (5, p0 b3), (8, n6 (checkB (big t1) l)), (44, .bool (((checkB (big t1) l : Nat) : Int) != 0))] (trivial) ?_
        refine cI (((checkB (big t1) l : Nat) : Int) != 0) (fun h7 => ?_) (fun h7 => ?_)
        · have h7p : ((checkB (big t1) l : Nat) : Int) ≠ 0 := by simpa using h7
          refine cS [(2, .at 1)] ((b1 = b1)) [(2, p0 b1), (3, n6 (checkB (big t1) l))] [bk b2 227 #[str s, n6 ar, n6 er], bk b1 32 #[.int .u64 0, .slice none 0 0], bk b3 32 #[u6 (big t1), .slice a l.length cap], L] (rfl) ?_
          refine cd_more ?_
          refine cd_ret (then_ret (bot_ret (ret_cell_tmp 2 32 3 1 b1 (n6 (checkB (big t1) l)) #[.int .u64 0, .slice none 0 0] 32 (0, 0) [4] [[]] [bk b2 227 #[str s, n6 ar, n6 er], bk b1 32 #[.int .u64 0, .slice none 0 0], bk b3 32 #[u6 (big t1), .slice a l.length cap], L] rfl (by kernel_rfl) (by kernel_rfl) (by kernel_rfl) (by kernel_rfl) (by kernel_rfl) (by kernel_rfl) (by kernel_rfl) ?_)))
          refine ⟨checkB (big t1) l, 0, [], none, 0, [], (Row.nil 107 3), ?_, ?_, ?_, ?_, ?_, ?_, rfl⟩
          all_goals first | with_reducible rfl | (rw [parse_of hf1 (by assumption) (by first | exact .inl ⟨by omega, by assumption⟩ | exact .inr ⟨by omega, rfl⟩) (hI.done (by dsimp only; omega)) (by assumption) (by first | exact .inl ⟨by omega, rfl⟩ | exact .inr ⟨by omega, rfl⟩)]; first | exact if_pos (by omega) | exact if_neg (by omega); done) | (have := checkB_le (big t1) l; omega; done) | (exact check_len (seq := big t1) (by omega); done) | (exact check_seq (l := l) (by omega); done) | (exact hI.ok; done) | with_reducible assumption | omega | rfl | (simp_all; done) | (simp_all; omega)
        · have h7p : ¬ (((checkB (big t1) l : Nat) : Int) ≠ 0) := by simpa using h7
          refine cd_skip (then_n ?_)
          refine cS [(0, .at 2), (1, .at 1)] ((b3 = b3) ∧ (b1 = b1)) [(2, p0 b1), (3, z6 0)] [bk b2 227 #[str s, n6 ar, n6 er], bk b1 32 #[u6 (big t1), .slice a l.length cap], bk b3 32 #[u6 (big t1), .slice a l.length cap], L] (⟨rfl, rfl⟩) ?_
          refine cd_ret (bot_ret (ret_cell_tmp 2 32 3 1 b1 (z6 0) #[u6 (big t1), .slice a l.length cap] 32 (0, 0) [3] [L] [bk b2 227 #[str s, n6 ar, n6 er], bk b1 32 #[u6 (big t1), .slice a l.length cap], bk b3 32 #[u6 (big t1), .slice a l.length cap]] rfl (by kernel_rfl) (by kernel_rfl) (by kernel_rfl) (by kernel_rfl) (by kernel_rfl) (by kernel_rfl) (by kernel_rfl) ?_))
          refine ⟨0, (big t1), l, a, cap, L, hR, ?_, ?_, ?_, ?_, ?_, ?_, rfl⟩
          all_goals first | with_reducible rfl | (rw [parse_of hf1 (by assumption) (by first | exact .inl ⟨by omega, by assumption⟩ | exact .inr ⟨by omega, rfl⟩) (hI.done (by dsimp only; omega)) (by assumption) (by first | exact .inl ⟨by omega, rfl⟩ | exact .inr ⟨by omega, rfl⟩)]; first | exact if_pos (by omega) | exact if_neg (by omega); done) | (have := checkB_le (big t1) l; omega; done) | (exact check_len (seq := big t1) (by omega); done) | (exact check_seq (l := l) (by omega); done) | (exact hI.ok; done) | with_reducible assumption | omega | rfl | (simp_all; done) | (simp_all; omega)
      · have h6p : ¬ ((x2 : Int) = 0) := by simpa using h6
        refine cd_skip (then_n ?_)
        refine cd_seq ?_
        refine cQ [] (True) [(2, p0 b1), (5, p0 b3), (8, n6 x2), (44, .bool ((x2 : Int) != 0))] (trivial) ?_
        refine cI ((x2 : Int) != 0) (fun h8 => ?_) (fun h8 => ?_)
        · have h8p : (x2 : Int) ≠ 0 := by simpa using h8
          refine cS [(2, .at 1)] ((b1 = b1)) [(2, p0 b1), (3, n6 x2)] [bk b2 227 #[str s, n6 ar, n6 er], bk b1 32 #[.int .u64 0, .slice none 0 0], bk b3 32 #[u6 (big t1), .slice a l.length cap], L] (rfl) ?_
          refine cd_more ?_
          refine cd_ret (then_ret (bot_ret (ret_cell_tmp 2 32 3 1 b1 (n6 x2) #[.int .u64 0, .slice none 0 0] 32 (0, 0) [4] [[]] [bk b2 227 #[str s, n6 ar, n6 er], bk b1 32 #[.int .u64 0, .slice none 0 0], bk b3 32 #[u6 (big t1), .slice a l.length cap], L] rfl (by kernel_rfl) (by kernel_rfl) (by kernel_rfl) (by kernel_rfl) (by kernel_rfl) (by kernel_rfl) (by kernel_rfl) ?_)))
          refine ⟨x2, 0, [], none, 0, [], (Row.nil 107 3), ?_, ?_, ?_, ?_, ?_, ?_, rfl⟩
          all_goals first | with_reducible rfl | (rw [parse_of hf1 (by assumption) (by first | exact .inl ⟨by omega, by assumption⟩ | exact .inr ⟨by omega, rfl⟩) (hI.done (by dsimp only; omega)) (by assumption) (by first | exact .inl ⟨by omega, rfl⟩ | exact .inr ⟨by omega, rfl⟩)]; first | exact if_pos (by omega) | exact if_neg (by omega); done) | (have := checkB_le (big t1) l; omega; done) | (exact check_len (seq := big t1) (by omega); done) | (exact check_seq (l := l) (by omega); done) | (exact hI.ok; done) | with_reducible assumption | omega | rfl | (simp_all; done) | (simp_all; omega)
        · have h8p : ¬ ((x2 : Int) ≠ 0) := by simpa using h8
          refine cd_skip (then_n ?_)
          refine cS [(0, .at 2), (1, .at 1)] ((b3 = b3) ∧ (b1 = b1)) [(2, p0 b1), (3, z6 0)] [bk b2 227 #[str s, n6 ar, n6 er], bk b1 32 #[u6 (big t1), .slice a l.length cap], bk b3 32 #[u6 (big t1), .slice a l.length cap], L] (⟨rfl, rfl⟩) ?_
          refine cd_ret (bot_ret (ret_cell_tmp 2 32 3 1 b1 (z6 0) #[u6 (big t1), .slice a l.length cap] 32 (0, 0) [3] [L] [bk b2 227 #[str s, n6 ar, n6 er], bk b1 32 #[u6 (big t1), .slice a l.length cap], bk b3 32 #[u6 (big t1), .slice a l.length cap]] rfl (by kernel_rfl) (by kernel_rfl) (by kernel_rfl) (by kernel_rfl) (by kernel_rfl) (by kernel_rfl) (by kernel_rfl) ?_))
          refine ⟨0, (big t1), l, a, cap, L, hR, ?_, ?_, ?_, ?_, ?_, ?_, rfl⟩
          all_goals first | with_reducible rfl | (rw [parse_of hf1 (by assumption) (by first | exact .inl ⟨by omega, by assumption⟩ | exact .inr ⟨by omega, rfl⟩) (hI.done (by dsimp only; omega)) (by assumption) (by first | exact .inl ⟨by omega, rfl⟩ | exact .inr ⟨by omega, rfl⟩)]; first | exact if_pos (by omega) | exact if_neg (by omega); done) | (have := checkB_le (big t1) l; omega; done) | (exact check_len (seq := big t1) (by omega); done) | (exact check_seq (l := l) (by omega); done) | (exact hI.ok; done) | with_reducible assumption | omega | rfl | (simp_all; done) | (simp_all; omega)
  · have h1p : ¬ ((n1 : Int) > 2000) := by simpa using h1
    refine cd_skip (then_n ?_)
    refine cd_seq ?_
    refine cQ [] (True) [(2, p0 b1), (4, p0 b2), (5, p0 b3), (6, u6 n1), (7, .int .u64 0)] (trivial) ?_
    refine cd_block ?_
    refine cd_more ?_
    refine lp (fun x : Nat × (List Chg) × (Option Addr) × Nat × Blks × Nat × Nat => [(2, p0 b1), (4, p0 b2), (5, p0 b3), (6, u6 n1), (7, u6 x.1)]) (fun x : Nat × (List Chg) × (Option Addr) × Nat × Blks × Nat × Nat => [bk b2 227 #[str s, n6 x.2.2.2.2.2.1, n6 x.2.2.2.2.2.2], bk b1 32 #[.int .u64 0, .slice none 0 0], bk b3 32 #[u6 (big t1), .slice x.2.2.1 x.2.1.length x.2.2.2.1], x.2.2.2.2.1]) (fun x : Nat × (List Chg) × (Option Addr) × Nat × Blks × Nat × Nat => ParseInv n1 ⟨s, a1_2, e1_2⟩ x.1 x.2.1 ⟨s, x.2.2.2.2.2.1, x.2.2.2.2.2.2⟩ ∧ Row 107 3 x.2.2.1 (x.2.1 : List Chg).length x.2.2.2.1 ((x.2.1 : List Chg).flatMap chg) x.2.2.2.2.1 ∧ x.2.2.2.2.2.1 ≤ s.length ∧ x.2.2.2.2.2.2 ≤ 100 ∧ (x.2.2.2.2.2.2 = 0 → n1 ≤ 2000)) (fun x : Nat × (List Chg) × (Option Addr) × Nat × Blks × Nat × Nat => n1 - x.1) ((0, [], none, 0, [], a1_2, e1_2)) (show ParseInv n1 ⟨s, a1_2, e1_2⟩ 0 [] ⟨s, a1_2, e1_2⟩ ∧ Row 107 3 none ([] : List Chg).length 0 (([] : List Chg).flatMap chg) [] ∧ a1_2 ≤ s.length ∧ e1_2 ≤ 100 ∧ (e1_2 = 0 → n1 ≤ 2000) from ⟨ParseInv.start _ _, Row.nil 107 3, by omega, by omega, fun h => by first | omega | exact absurd h (fail_ne (by assumption) (by decide))⟩) ?_
    rintro ⟨i, l, a, cap, L, ar, er⟩ hI
    replace hI : ParseInv n1 ⟨s, a1_2, e1_2⟩ i l ⟨s, ar, er⟩ ∧ Row 107 3 a (l : List Chg).length cap ((l : List Chg).flatMap chg) L ∧ ar ≤ s.length ∧ er ≤ 100 ∧ (er = 0 → n1 ≤ 2000) := hI
    obtain ⟨hI, hR, har, her, h20⟩ := hI
    have hlen := hI.len
    have hle := hI.le
    refine cd_seq ?_
    refine cd_rg ?_
    refine rQ [] [0, 1, 2, 3] [4, 5, 6, 7] (True) [(2, p0 b1), (4, p0 b2), (5, p0 b3), (6, u6 n1), (7, u6 i), (23, .bool (decide ((i : Int) < (n1 : Int))))] (trivial) ?_
    refine rg_join2 [] [(2, p0 b1), (4, p0 b2), (5, p0 b3), (6, u6 n1), (7, u6 i), (27, .bool ((decide ((i : Int) < (n1 : Int))) && ((er : Int) == 0)))] [bk b2 227 #[str s, n6 ar, n6 er], bk b1 32 #[.int .u64 0, .slice none 0 0], bk b3 32 #[u6 (big t1), .slice a l.length cap], L] (fun hj => ?_) ?_
    · refine rI 23 (decide ((i : Int) < (n1 : Int))) (fun g2 => ?_) (fun g2 => ?_)
      · have g2p : (i : Int) < (n1 : Int) := by simpa using g2
        refine rQ [] [4] [5, 6, 7] (True) [(2, p0 b1), (4, p0 b2), (5, p0 b3), (6, u6 n1), (7, u6 i), (23, .bool true), (24, p0 b2)] (trivial) ?_
        refine rC 5 [6, 7] [0] [bk b1 32 #[.int .u64 0, .slice none 0 0], bk b3 32 #[u6 (big t1), .slice a l.length cap], L] (err_any C b2 s ar er) ?_
        rintro _ _ ⟨rfl, rfl⟩
        refine rQ [] [6, 7] [] (True) [(2, p0 b1), (4, p0 b2), (5, p0 b3), (6, u6 n1), (7, u6 i), (27, .bool ((er : Int) == 0))] (trivial) ?_
        refine rP 27 (.bool ((er : Int) == 0)) (.bool ((decide ((i : Int) < (n1 : Int))) && ((er : Int) == 0))) (by first | (rw [show (decide ((i : Int) < (n1 : Int))) = true from g2]; done) | (rw [show (decide ((i : Int) < (n1 : Int))) = true from g2]; rfl)) ?_
        exact rM hj
      · have g2p : ¬ ((i : Int) < (n1 : Int)) := by simpa using g2
        refine rQ [] [4, 5, 6, 7] [] (True) [(2, p0 b1), (4, p0 b2), (5, p0 b3), (6, u6 n1), (7, u6 i), (27, .bool false)] (trivial) ?_
        refine rP 27 (.bool false) (.bool ((decide ((i : Int) < (n1 : Int))) && ((er : Int) == 0))) (by first | (rw [show (decide ((i : Int) < (n1 : Int))) = false from g2]; done) | (rw [show (decide ((i : Int) < (n1 : Int))) = false from g2]; rfl)) ?_
        exact rM hj
    refine rD [(2, p0 b1), (4, p0 b2), (5, p0 b3), (6, u6 n1), (7, u6 i), (27, .bool ((decide ((i : Int) < (n1 : Int))) && ((er : Int) == 0)))] ?_
    refine cI ((decide ((i : Int) < (n1 : Int))) && ((er : Int) == 0)) (fun h9 => ?_) (fun h9 => ?_)
    · have h9p : ((i : Int) < (n1 : Int)) ∧ ((er : Int) = 0) := by simpa using h9
      refine cd_skip (then_n ?_)
      refine cd_seq ?_
      refine cd_block ?_
      refine dr0 [bk b1 32 #[.int .u64 0, .slice none 0 0]] [bk b2 227 #[str s, n6 ar, n6 er], bk b3 32 #[u6 (big t1), .slice a l.length cap], L] [0, 1, 1] 8 ?_
      refine aS [] [0, 2] (True) [(2, p0 b1), (4, p0 b2), (5, p0 b3), (6, u6 n1), (7, u6 i), (30, pq b3 1), (32, p0 b2)] (bm 8 5) 6 (trivial) ?_
      refine aII (i := 1) (j := 3) ?_ ?_
      ·
        refine xQ [(1, .at 1)] (b3 = b3) [(2, p0 b1), (4, p0 b2), (5, p0 b3), (6, u6 n1), (7, u6 i), (31, .slice a l.length cap), (32, p0 b2)] (bm 8 7) (rfl) ?_
        refine aI (i := 3) ?_
        refine xC [0] [bk b3 32 #[u6 (big t1), .slice a l.length cap], L] [2, 4, 5, 6, 7, 31, 33] (bm 8 15) (change_any C b2 s ar er ⟨by first | (exact fun x hx => ⟨Nat.le_trans (hI.ok x hx).1 (by omega), Nat.le_trans (hI.ok x hx).2 (by omega)⟩; done) | exact Ok.h {}⟩ ⟨by first | (exact fun x hx => ⟨Nat.le_trans (hI.ok x hx).1 (by omega), Nat.le_trans (hI.ok x hx).2 (by omega)⟩; done) | exact Ok.h {}⟩ ⟨by first | (exact fun x hx => ⟨Nat.le_trans (hI.ok x hx).1 (by omega), Nat.le_trans (hI.ok x hx).2 (by omega)⟩; done) | exact Ok.h {}⟩) ?_
        rintro _ _ ⟨k3, key3, val3, a1_5, e1_6, hf24, hf25, hf26, hf27, hf28, rfl, rfl⟩
        refine aI (i := 4) ?_
        refine xN (.cells #[n6 k3, str key3, str val3] 107 (0, 0)) (fun b7 => sl b7 1 1) [2, 4, 5, 6, 7, 31, 34] (bm 8 31) (fun b7 => ?_)
        refine aI (i := 5) ?_
        refine xX (do pure (.value (← Builtin.append_ #[30, 30] 30 #[.slice a l.length cap, sl b7 1 1]))) [2, 2] [L, bk b7 107 #[n6 k3, str key3, str val3]] [bk b2 227 #[str s, n6 a1_5, n6 e1_6], bk b3 32 #[u6 (big t1), .slice a l.length cap]] [2, 4, 5, 6, 7, 35] (bm 8 63) (gv_push (bytes := 40) (l := l) (enc := chg) (⟨(k3 : Int), key3, val3⟩ : Chg) 30 (by kernel_rfl) hR rfl rfl (by kernel_rfl) (by omega) (by omega)) ?_
        rintro _ _ ⟨a4, cap4, L4, rfl, rfl, h10⟩
        refine aS [] [6] (True) [(2, p0 b1), (4, p0 b2), (5, p0 b3), (6, u6 n1), (7, u6 i), (35, .slice a4 ((l ++ [(⟨(k3 : Int), key3, val3⟩ : Chg)]).length) cap4), (36, pq b3 1)] (bm 8 127) 1 (trivial) ?_
        refine aI (i := 7) ?_
        refine xS [(7, .at 2)] (b3 = b3) [(2, p0 b1), (4, p0 b2), (5, p0 b3), (6, u6 n1), (7, u6 i)] [L4, bk b2 227 #[str s, n6 a1_5, n6 e1_6], bk b3 32 #[u6 (big t1), .slice a4 ((l ++ [(⟨(k3 : Int), key3, val3⟩ : Chg)]).length) cap4]] (bm 8 255) (rfl) ?_
        refine aK [0, 0, 0, 0] [(2, p0 b1), (4, p0 b2), (5, p0 b3), (6, u6 n1), (7, u6 i)] [bk b1 32 #[.int .u64 0, .slice none 0 0], L4, bk b2 227 #[str s, n6 a1_5, n6 e1_6], bk b3 32 #[u6 (big t1), .slice a4 ((l ++ [(⟨(k3 : Int), key3, val3⟩ : Chg)]).length) cap4]] ?_
        refine (block_n (then_n ?_))
        refine cd_region ?_
        refine rQ [] [0, 1, 2] [] ((inKind .u64 ((i : Int) + 1))) [(2, p0 b1), (4, p0 b2), (5, p0 b3), (6, u6 n1), (7, u6 (i + 1))] (inK_u64 (by omega)) ?_
        refine rT [2, 0, 1, 0] [bk b2 227 #[str s, n6 a1_5, n6 e1_6], bk b1 32 #[.int .u64 0, .slice none 0 0], bk b3 32 #[u6 (big t1), .slice a4 ((l ++ [(⟨(k3 : Int), key3, val3⟩ : Chg)]).length) cap4], L4] ?_
        refine rg_nil ?_
        refine (lM ((i + 1, l ++ [(⟨(k3 : Int), key3, val3⟩ : Chg)], a4, cap4, L4, a1_5, e1_6)) (show ParseInv n1 ⟨s, a1_2, e1_2⟩ (i + 1) (l ++ [(⟨(k3 : Int), key3, val3⟩ : Chg)]) ⟨s, a1_5, e1_6⟩ ∧ Row 107 3 a4 (l ++ [(⟨(k3 : Int), key3, val3⟩ : Chg)] : List Chg).length cap4 ((l ++ [(⟨(k3 : Int), key3, val3⟩ : Chg)] : List Chg).flatMap chg) L4 ∧ a1_5 ≤ s.length ∧ e1_6 ≤ 100 ∧ (e1_6 = 0 → n1 ≤ 2000) from ⟨hI.next (by omega) (by dsimp only; omega) (by assumption) (by assumption), h10, by omega, by omega, fun _ => by omega⟩) (show (n1 - (i + 1)) < (n1 - i) by first | omega | (simp; omega)))
      ·
        refine xC [0] [bk b3 32 #[u6 (big t1), .slice a l.length cap], L] [2, 4, 5, 6, 7, 30, 33] (bm 8 13) (change_any C b2 s ar er ⟨by first | (exact fun x hx => ⟨Nat.le_trans (hI.ok x hx).1 (by omega), Nat.le_trans (hI.ok x hx).2 (by omega)⟩; done) | exact Ok.h {}⟩ ⟨by first | (exact fun x hx => ⟨Nat.le_trans (hI.ok x hx).1 (by omega), Nat.le_trans (hI.ok x hx).2 (by omega)⟩; done) | exact Ok.h {}⟩ ⟨by first | (exact fun x hx => ⟨Nat.le_trans (hI.ok x hx).1 (by omega), Nat.le_trans (hI.ok x hx).2 (by omega)⟩; done) | exact Ok.h {}⟩) ?_
        rintro _ _ ⟨k4, key4, val4, a1_6, e1_7, hf29, hf30, hf31, hf32, hf33, rfl, rfl⟩
        refine aII (i := 1) (j := 4) ?_ ?_
        ·
          refine xQ [(1, .at 1)] (b3 = b3) [(2, p0 b1), (4, p0 b2), (5, p0 b3), (6, u6 n1), (7, u6 i), (31, .slice a l.length cap), (33, .agg #[n6 k4, str key4, str val4])] (bm 8 15) (rfl) ?_
          refine aI (i := 4) ?_
          refine xN (.cells #[n6 k4, str key4, str val4] 107 (0, 0)) (fun b8 => sl b8 1 1) [2, 4, 5, 6, 7, 31, 34] (bm 8 31) (fun b8 => ?_)
          refine aI (i := 5) ?_
          refine xX (do pure (.value (← Builtin.append_ #[30, 30] 30 #[.slice a l.length cap, sl b8 1 1]))) [2, 2] [L, bk b8 107 #[n6 k4, str key4, str val4]] [bk b2 227 #[str s, n6 a1_6, n6 e1_7], bk b3 32 #[u6 (big t1), .slice a l.length cap]] [2, 4, 5, 6, 7, 35] (bm 8 63) (gv_push (bytes := 40) (l := l) (enc := chg) (⟨(k4 : Int), key4, val4⟩ : Chg) 30 (by kernel_rfl) hR rfl rfl (by kernel_rfl) (by omega) (by omega)) ?_
          rintro _ _ ⟨a5, cap5, L5, rfl, rfl, h11⟩
          refine aS [] [6] (True) [(2, p0 b1), (4, p0 b2), (5, p0 b3), (6, u6 n1), (7, u6 i), (35, .slice a5 ((l ++ [(⟨(k4 : Int), key4, val4⟩ : Chg)]).length) cap5), (36, pq b3 1)] (bm 8 127) 1 (trivial) ?_
          refine aI (i := 7) ?_
          refine xS [(7, .at 2)] (b3 = b3) [(2, p0 b1), (4, p0 b2), (5, p0 b3), (6, u6 n1), (7, u6 i)] [L5, bk b2 227 #[str s, n6 a1_6, n6 e1_7], bk b3 32 #[u6 (big t1), .slice a5 ((l ++ [(⟨(k4 : Int), key4, val4⟩ : Chg)]).length) cap5]] (bm 8 255) (rfl) ?_
          refine aK [0, 0, 0, 0] [(2, p0 b1), (4, p0 b2), (5, p0 b3), (6, u6 n1), (7, u6 i)] [bk b1 32 #[.int .u64 0, .slice none 0 0], L5, bk b2 227 #[str s, n6 a1_6, n6 e1_7], bk b3 32 #[u6 (big t1), .slice a5 ((l ++ [(⟨(k4 : Int), key4, val4⟩ : Chg)]).length) cap5]] ?_
          refine (block_n (then_n ?_))
          refine cd_region ?_
          refine rQ [] [0, 1, 2] [] ((inKind .u64 ((i : Int) + 1))) [(2, p0 b1), (4, p0 b2), (5, p0 b3), (6, u6 n1), (7, u6 (i + 1))] (inK_u64 (by omega)) ?_
          refine rT [2, 0, 1, 0] [bk b2 227 #[str s, n6 a1_6, n6 e1_7], bk b1 32 #[.int .u64 0, .slice none 0 0], bk b3 32 #[u6 (big t1), .slice a5 ((l ++ [(⟨(k4 : Int), key4, val4⟩ : Chg)]).length) cap5], L5] ?_
          refine rg_nil ?_
          refine (lM ((i + 1, l ++ [(⟨(k4 : Int), key4, val4⟩ : Chg)], a5, cap5, L5, a1_6, e1_7)) (show ParseInv n1 ⟨s, a1_2, e1_2⟩ (i + 1) (l ++ [(⟨(k4 : Int), key4, val4⟩ : Chg)]) ⟨s, a1_6, e1_7⟩ ∧ Row 107 3 a5 (l ++ [(⟨(k4 : Int), key4, val4⟩ : Chg)] : List Chg).length cap5 ((l ++ [(⟨(k4 : Int), key4, val4⟩ : Chg)] : List Chg).flatMap chg) L5 ∧ a1_6 ≤ s.length ∧ e1_7 ≤ 100 ∧ (e1_7 = 0 → n1 ≤ 2000) from ⟨hI.next (by omega) (by dsimp only; omega) (by assumption) (by assumption), h11, by omega, by omega, fun _ => by omega⟩) (show (n1 - (i + 1)) < (n1 - i) by first | omega | (simp; omega)))
        ·
          refine xN (.cells #[n6 k4, str key4, str val4] 107 (0, 0)) (fun b9 => sl b9 1 1) [2, 4, 5, 6, 7, 30, 34] (bm 8 29) (fun b9 => ?_)
          refine aI (i := 1) ?_
          refine xQ [(1, .at 1)] (b3 = b3) [(2, p0 b1), (4, p0 b2), (5, p0 b3), (6, u6 n1), (7, u6 i), (31, .slice a l.length cap), (34, sl b9 1 1)] (bm 8 31) (rfl) ?_
          refine aI (i := 5) ?_
          refine xX (do pure (.value (← Builtin.append_ #[30, 30] 30 #[.slice a l.length cap, sl b9 1 1]))) [2, 2] [L, bk b9 107 #[n6 k4, str key4, str val4]] [bk b2 227 #[str s, n6 a1_6, n6 e1_7], bk b3 32 #[u6 (big t1), .slice a l.length cap]] [2, 4, 5, 6, 7, 35] (bm 8 63) (gv_push (bytes := 40) (l := l) (enc := chg) (⟨(k4 : Int), key4, val4⟩ : Chg) 30 (by kernel_rfl) hR rfl rfl (by kernel_rfl) (by omega) (by omega)) ?_
          rintro _ _ ⟨a6, cap6, L6, rfl, rfl, h12⟩
          refine aS [] [6] (True) [(2, p0 b1), (4, p0 b2), (5, p0 b3), (6, u6 n1), (7, u6 i), (35, .slice a6 ((l ++ [(⟨(k4 : Int), key4, val4⟩ : Chg)]).length) cap6), (36, pq b3 1)] (bm 8 127) 1 (trivial) ?_
          refine aI (i := 7) ?_
          refine xS [(7, .at 2)] (b3 = b3) [(2, p0 b1), (4, p0 b2), (5, p0 b3), (6, u6 n1), (7, u6 i)] [L6, bk b2 227 #[str s, n6 a1_6, n6 e1_7], bk b3 32 #[u6 (big t1), .slice a6 ((l ++ [(⟨(k4 : Int), key4, val4⟩ : Chg)]).length) cap6]] (bm 8 255) (rfl) ?_
          refine aK [0, 0, 0, 0] [(2, p0 b1), (4, p0 b2), (5, p0 b3), (6, u6 n1), (7, u6 i)] [bk b1 32 #[.int .u64 0, .slice none 0 0], L6, bk b2 227 #[str s, n6 a1_6, n6 e1_7], bk b3 32 #[u6 (big t1), .slice a6 ((l ++ [(⟨(k4 : Int), key4, val4⟩ : Chg)]).length) cap6]] ?_
          refine (block_n (then_n ?_))
          refine cd_region ?_
          refine rQ [] [0, 1, 2] [] ((inKind .u64 ((i : Int) + 1))) [(2, p0 b1), (4, p0 b2), (5, p0 b3), (6, u6 n1), (7, u6 (i + 1))] (inK_u64 (by omega)) ?_
          refine rT [2, 0, 1, 0] [bk b2 227 #[str s, n6 a1_6, n6 e1_7], bk b1 32 #[.int .u64 0, .slice none 0 0], bk b3 32 #[u6 (big t1), .slice a6 ((l ++ [(⟨(k4 : Int), key4, val4⟩ : Chg)]).length) cap6], L6] ?_
          refine rg_nil ?_
          refine (lM ((i + 1, l ++ [(⟨(k4 : Int), key4, val4⟩ : Chg)], a6, cap6, L6, a1_6, e1_7)) (show ParseInv n1 ⟨s, a1_2, e1_2⟩ (i + 1) (l ++ [(⟨(k4 : Int), key4, val4⟩ : Chg)]) ⟨s, a1_6, e1_7⟩ ∧ Row 107 3 a6 (l ++ [(⟨(k4 : Int), key4, val4⟩ : Chg)] : List Chg).length cap6 ((l ++ [(⟨(k4 : Int), key4, val4⟩ : Chg)] : List Chg).flatMap chg) L6 ∧ a1_6 ≤ s.length ∧ e1_7 ≤ 100 ∧ (e1_7 = 0 → n1 ≤ 2000) from ⟨hI.next (by omega) (by dsimp only; omega) (by assumption) (by assumption), h12, by omega, by omega, fun _ => by omega⟩) (show (n1 - (i + 1)) < (n1 - i) by first | omega | (simp; omega)))
    · have h9p : ¬ (((i : Int) < (n1 : Int)) ∧ ((er : Int) = 0)) := by simpa using h9
      refine cd_exit (then_exit (then_exit (block_hit (then_n ?_))))
      refine cd_rg ?_
      refine rQ [] [0] [1, 2] (True) [(2, p0 b1), (5, p0 b3), (37, p0 b2)] (trivial) ?_
      refine rC 1 [2] [0] [bk b1 32 #[.int .u64 0, .slice none 0 0], bk b3 32 #[u6 (big t1), .slice a l.length cap], L] (end_any C b2 s ar er ⟨by first | (exact fun x hx => ⟨Nat.le_trans (hI.ok x hx).1 (by omega), Nat.le_trans (hI.ok x hx).2 (by omega)⟩; done) | exact Ok.h {}⟩ ⟨by first | (exact fun x hx => ⟨Nat.le_trans (hI.ok x hx).1 (by omega), Nat.le_trans (hI.ok x hx).2 (by omega)⟩; done) | exact Ok.h {}⟩ ⟨by first | (exact fun x hx => ⟨Nat.le_trans (hI.ok x hx).1 (by omega), Nat.le_trans (hI.ok x hx).2 (by omega)⟩; done) | exact Ok.h {}⟩) ?_
      rintro _ _ ⟨x3, hf34, hf35, rfl, rfl⟩
      refine rQ [] [2] [] (True) [(2, p0 b1), (5, p0 b3), (8, n6 x3)] (trivial) ?_
      refine rF ?_
      refine cd_seq ?_
      refine cQ [] (True) [(2, p0 b1), (5, p0 b3), (8, n6 x3), (40, .bool ((x3 : Int) == 0))] (trivial) ?_
      refine cI ((x3 : Int) == 0) (fun h13 => ?_) (fun h13 => ?_)
      · have h13p : (x3 : Int) = 0 := by simpa using h13
        refine cd_region ?_
        refine rQ [(0, .at 2)] [0] [1, 2] ((b3 = b3)) [(2, p0 b1), (5, p0 b3), (41, .agg #[u6 (big t1), .slice a l.length cap])] (rfl) ?_
        refine rR 1 [2] (check_any C (big t1) cap _ a l (SeesL.mono (Row.seesL (C := C) (l := l) (enc := chg) hR rfl rfl (fun _ => rfl) (by decide)) (by intro p hp; simp [hp])) ⟨by first | (exact fun x hx => ⟨Nat.le_trans (hI.ok x hx).1 (by omega), Nat.le_trans (hI.ok x hx).2 (by omega)⟩; done) | exact Ok.h {}⟩ ⟨by first | (exact fun x hx => ⟨Nat.le_trans (hI.ok x hx).1 (by omega), Nat.le_trans (hI.ok x hx).2 (by omega)⟩; done) | exact Ok.h {}⟩) ?_
        rintro _ rfl
        refine rQ [] [2] [] (True) [(2, p0 b1), (5, p0 b3), (8, n6 (checkB (big t1) l))] (trivial) ?_
        refine rg_nil ?_
        refine (then_n ?_)
        refine cd_seq ?_
        refine cQ [] (True) [(2, p0 b1), (5, p0 b3), (8, n6 (checkB (big t1) l)), (44, .bool (((checkB (big t1) l : Nat) : Int) != 0))] (trivial) ?_
        refine cI (((checkB (big t1) l : Nat) : Int) != 0) (fun h14 => ?_) (fun h14 => ?_)
        · have h14p : ((checkB (big t1) l : Nat) : Int) ≠ 0 := by simpa using h14
          refine cS [(2, .at 1)] ((b1 = b1)) [(2, p0 b1), (3, n6 (checkB (big t1) l))] [bk b2 227 #[str s, n6 ar, n6 er], bk b1 32 #[.int .u64 0, .slice none 0 0], bk b3 32 #[u6 (big t1), .slice a l.length cap], L] (rfl) ?_
          refine cd_more ?_
          refine cd_ret (then_ret (bot_ret (ret_cell_tmp 2 32 3 1 b1 (n6 (checkB (big t1) l)) #[.int .u64 0, .slice none 0 0] 32 (0, 0) [4] [[]] [bk b2 227 #[str s, n6 ar, n6 er], bk b1 32 #[.int .u64 0, .slice none 0 0], bk b3 32 #[u6 (big t1), .slice a l.length cap], L] rfl (by kernel_rfl) (by kernel_rfl) (by kernel_rfl) (by kernel_rfl) (by kernel_rfl) (by kernel_rfl) (by kernel_rfl) ?_)))
          refine ⟨checkB (big t1) l, 0, [], none, 0, [], (Row.nil 107 3), ?_, ?_, ?_, ?_, ?_, ?_, rfl⟩
          all_goals first | with_reducible rfl | (rw [parse_of hf1 (by assumption) (by first | exact .inl ⟨by omega, by assumption⟩ | exact .inr ⟨by omega, rfl⟩) (hI.done (by dsimp only; omega)) (by assumption) (by first | exact .inl ⟨by omega, rfl⟩ | exact .inr ⟨by omega, rfl⟩)]; first | exact if_pos (by omega) | exact if_neg (by omega); done) | (have := checkB_le (big t1) l; omega; done) | (exact check_len (seq := big t1) (by omega); done) | (exact check_seq (l := l) (by omega); done) | (exact hI.ok; done) | with_reducible assumption | omega | rfl | (simp_all; done) | (simp_all; omega)
        · have h14p : ¬ (((checkB (big t1) l : Nat) : Int) ≠ 0) := by simpa using h14
          refine cd_skip (then_n ?_)
          refine cS [(0, .at 2), (1, .at 1)] ((b3 = b3) ∧ (b1 = b1)) [(2, p0 b1), (3, z6 0)] [bk b2 227 #[str s, n6 ar, n6 er], bk b1 32 #[u6 (big t1), .slice a l.length cap], bk b3 32 #[u6 (big t1), .slice a l.length cap], L] (⟨rfl, rfl⟩) ?_
          refine cd_ret (bot_ret (ret_cell_tmp 2 32 3 1 b1 (z6 0) #[u6 (big t1), .slice a l.length cap] 32 (0, 0) [3] [L] [bk b2 227 #[str s, n6 ar, n6 er], bk b1 32 #[u6 (big t1), .slice a l.length cap], bk b3 32 #[u6 (big t1), .slice a l.length cap]] rfl (by kernel_rfl) (by kernel_rfl) (by kernel_rfl) (by kernel_rfl) (by kernel_rfl) (by kernel_rfl) (by kernel_rfl) ?_))
          refine ⟨0, (big t1), l, a, cap, L, hR, ?_, ?_, ?_, ?_, ?_, ?_, rfl⟩
          all_goals first | with_reducible rfl | (rw [parse_of hf1 (by assumption) (by first | exact .inl ⟨by omega, by assumption⟩ | exact .inr ⟨by omega, rfl⟩) (hI.done (by dsimp only; omega)) (by assumption) (by first | exact .inl ⟨by omega, rfl⟩ | exact .inr ⟨by omega, rfl⟩)]; first | exact if_pos (by omega) | exact if_neg (by omega); done) | (have := checkB_le (big t1) l; omega; done) | (exact check_len (seq := big t1) (by omega); done) | (exact check_seq (l := l) (by omega); done) | (exact hI.ok; done) | with_reducible assumption | omega | rfl | (simp_all; done) | (simp_all; omega)
      · have h13p : ¬ ((x3 : Int) = 0) := by simpa using h13
        refine cd_skip (then_n ?_)
        refine cd_seq ?_
        refine cQ [] (True) [(2, p0 b1), (5, p0 b3), (8, n6 x3), (44, .bool ((x3 : Int) != 0))] (trivial) ?_
        refine cI ((x3 : Int) != 0) (fun h15 => ?_) (fun h15 => ?_)
        · have h15p : (x3 : Int) ≠ 0 := by simpa using h15
          refine cS [(2, .at 1)] ((b1 = b1)) [(2, p0 b1), (3, n6 x3)] [bk b2 227 #[str s, n6 ar, n6 er], bk b1 32 #[.int .u64 0, .slice none 0 0], bk b3 32 #[u6 (big t1), .slice a l.length cap], L] (rfl) ?_
          refine cd_more ?_
          refine cd_ret (then_ret (bot_ret (ret_cell_tmp 2 32 3 1 b1 (n6 x3) #[.int .u64 0, .slice none 0 0] 32 (0, 0) [4] [[]] [bk b2 227 #[str s, n6 ar, n6 er], bk b1 32 #[.int .u64 0, .slice none 0 0], bk b3 32 #[u6 (big t1), .slice a l.length cap], L] rfl (by kernel_rfl) (by kernel_rfl) (by kernel_rfl) (by kernel_rfl) (by kernel_rfl) (by kernel_rfl) (by kernel_rfl) ?_)))
          refine ⟨x3, 0, [], none, 0, [], (Row.nil 107 3), ?_, ?_, ?_, ?_, ?_, ?_, rfl⟩
          all_goals first | with_reducible rfl | (rw [parse_of hf1 (by assumption) (by first | exact .inl ⟨by omega, by assumption⟩ | exact .inr ⟨by omega, rfl⟩) (hI.done (by dsimp only; omega)) (by assumption) (by first | exact .inl ⟨by omega, rfl⟩ | exact .inr ⟨by omega, rfl⟩)]; first | exact if_pos (by omega) | exact if_neg (by omega); done) | (have := checkB_le (big t1) l; omega; done) | (exact check_len (seq := big t1) (by omega); done) | (exact check_seq (l := l) (by omega); done) | (exact hI.ok; done) | with_reducible assumption | omega | rfl | (simp_all; done) | (simp_all; omega)
        · have h15p : ¬ ((x3 : Int) ≠ 0) := by simpa using h15
          refine cd_skip (then_n ?_)
          refine cS [(0, .at 2), (1, .at 1)] ((b3 = b3) ∧ (b1 = b1)) [(2, p0 b1), (3, z6 0)] [bk b2 227 #[str s, n6 ar, n6 er], bk b1 32 #[u6 (big t1), .slice a l.length cap], bk b3 32 #[u6 (big t1), .slice a l.length cap], L] (⟨rfl, rfl⟩) ?_
          refine cd_ret (bot_ret (ret_cell_tmp 2 32 3 1 b1 (z6 0) #[u6 (big t1), .slice a l.length cap] 32 (0, 0) [3] [L] [bk b2 227 #[str s, n6 ar, n6 er], bk b1 32 #[u6 (big t1), .slice a l.length cap], bk b3 32 #[u6 (big t1), .slice a l.length cap]] rfl (by kernel_rfl) (by kernel_rfl) (by kernel_rfl) (by kernel_rfl) (by kernel_rfl) (by kernel_rfl) (by kernel_rfl) ?_))
          refine ⟨0, (big t1), l, a, cap, L, hR, ?_, ?_, ?_, ?_, ?_, ?_, rfl⟩
          all_goals first | with_reducible rfl | (rw [parse_of hf1 (by assumption) (by first | exact .inl ⟨by omega, by assumption⟩ | exact .inr ⟨by omega, rfl⟩) (hI.done (by dsimp only; omega)) (by assumption) (by first | exact .inl ⟨by omega, rfl⟩ | exact .inr ⟨by omega, rfl⟩)]; first | exact if_pos (by omega) | exact if_neg (by omega); done) | (have := checkB_le (big t1) l; omega; done) | (exact check_len (seq := big t1) (by omega); done) | (exact check_seq (l := l) (by omega); done) | (exact hI.ok; done) | with_reducible assumption | omega | rfl | (simp_all; done) | (simp_all; omega)

end Go.Proofs
