/- WalLasts: whatever the batches, the places where the power goes and the fate of what wasn't synced are, the law answers true. No condition. -/
import Derived.Test.YtooncojgfdcjeaaGreatDoorQ1
import Derived.Test.YtooncojgfdcjeaaGreatDoorRa
import Derived.Test.YtooncojgfdcjeaaGreatDoorTie
import Derived.Test.YtooncojgfdcjeaaGreatDoorCards
import Derived.SevenTiedAt
namespace Go.Proofs.YtooncojgfdcjeaaGreatDoor
open Go.ChangeShapes Go.WideShapes Go.ChangeAt Go.RowKit Go.Sep

theorem laidOut : laidOutB Tryz.prog = true := by kernel_rfl
theorem calls_at {f : FuncId} {args : Array Value} {v : Value} {W : World} (h : FnT Tryz.prog ⟨W.heap.size, W⟩ f args [] (fun r L => r = v ∧ L = [])) :
    Calls Tryz.prog f args W fun e W' => e = .returned v ∧ Below W.heap.size W W' := by
  refine (h W [] ⟨Below.refl _ _, Nat.le_refl _, by simp, by simp⟩).mono ?_
  rintro e W' ⟨r, L, rfl, ho, rfl, _⟩
  exact ⟨rfl, ho.low⟩
theorem open_fate {H : Type} {enc : TypeId × Value → H} {W : World} {base : Nat} {sp : Nat → Bool} {held : Bool} {n : Nat} {cs : List Value} {y : DataW H × List MemPlace} (h : DataW.trod enc Tryz.prog W base sp held n 37 cs = some y) :
    ∃ (k a : Int) (t : Nat), cs = [.int .i64 k, .int .i64 a, .int .u8 (t : Int)] ∧ t < 256 := by
  obtain ⟨xs, m, _, _, hl, hx, hf⟩ := DataW.trod_struct Tryz.underlying37 h
  rw [c1.2.2.2.2.2] at hl
  have f0 : DataW.trod enc Tryz.prog W base sp held m 3 ((cs.drop 0).take (Tryz.prog.cellsOf 3)) = xs[0]? := hf 0 _ rfl
  have f1 : DataW.trod enc Tryz.prog W base sp held m 3 ((cs.drop 1).take (Tryz.prog.cellsOf 3)) = xs[1]? := hf 1 _ rfl
  have f2 : DataW.trod enc Tryz.prog W base sp held m 5 ((cs.drop 2).take (Tryz.prog.cellsOf 5)) = xs[2]? := hf 2 _ rfl
  have hx3 : xs.length = 3 := hx
  rw [c1.1, one_of (by omega), List.getElem?_eq_getElem (by omega)] at f0 f1
  rw [c1.2.2.2.2.1, one_of (by omega), List.getElem?_eq_getElem (by omega)] at f2
  obtain ⟨k, e0, _⟩ := DataW.trod_int Tryz.underlying3 f0
  obtain ⟨a, e1, _⟩ := DataW.trod_int Tryz.underlying3 f1
  obtain ⟨t, e2, _, ht⟩ := DataW.trod_int Tryz.underlying5 f2
  have hb := bounds_u8 ht
  obtain ⟨q, rfl⟩ : ∃ q : Nat, t = q := ⟨t.toNat, by omega⟩
  simp only [List.cons.injEq, and_true] at e0 e1 e2
  exact ⟨k, a, q, (list3 hl).trans (by rw [e0, e1, e2]), by omega⟩

set_option maxRecDepth 100000 in
theorem walLasts_lifted (os : Os) (started : os.Started) (H : Type) (enc : TypeId × Value → H) :
    ReturnsInHanded {} Tryz.checked os 4 .any (fun w args => (Rows.walLastsSpec.pre enc Tryz.prog Tryz.f4 Rows.walLastsRow.domain false w args ∧ laidMetH Tryz.prog Rows.walLastsRow.laid w) ∧ sizedMet enc Tryz.prog Tryz.f4 (OpenSpec.ofChange Rows.walLastsSpec) false w args)
      (Rows.walLastsSpec.post enc Tryz.prog Tryz.f4 false true false false) := by
  refine returnsInHanded_of_change_and (C := Tryz.checked) (X := fun w _ => laidMetH Tryz.prog Rows.walLastsRow.laid w) (fun _ _ _ hh h => h.of_heap hh) own started (by kernel_rfl) Tryz.func4
    (ChangeSpec.witness_shaped (enc := enc) (C := Tryz.checked) (os := os) (X := fun w _ => laidMetH Tryz.prog Rows.walLastsRow.laid w) false (World.laidAll Tryz.prog os Rows.walLastsRow.laid) #[.slice none 0 0, .int .u8 0, .int .u8 0, .agg #[.int .i64 0, .int .i64 0, .int .u8 0]] 8 (World.laidAll_os _ _ _)
      (World.shaped_of_ZipB (by kernel_rfl) (by kernel_rfl)) (by kernel_rfl) (by kernel_rfl) (by kernel_rfl)
      (by rw [MakeChecks.laidMetH_plain _ _ _ (by kernel_rfl)]; exact laidMet_laidAll _ (by kernel_rfl) (by kernel_rfl))) ?_
  intro W base args ds gs before hval0 hW hc _ hL _
  have hval : ∀ (j : Nat) t v, Tryz.f4.params[j]? = some t → args[j]? = some v → Value.okWide Tryz.prog W .any base t v := hval0
  have hW' := hW
  obtain ⟨p, q, hA0, hV, rfl, _, _⟩ := hW
  have hA : DataW.TrodAll enc Tryz.prog W 0 (fun _ => true) true Tryz.f4.params.toList args.toList ds p := hA0
  rw [Tryz.params4] at hA hval
  obtain ⟨v0, v1, v2, v3, d0, d1, d2, d3, p0, p1, p2, p3, rfl, rfl, rfl, h0, h1, h2, h3⟩ := trodAll_four hA
  obtain ⟨n1, rfl, rfl, rfl, hn1⟩ := open_int Tryz.underlying5 (hval 1 5 v1 rfl rfl) h1
  obtain ⟨n2, rfl, rfl, rfl, hn2⟩ := open_int Tryz.underlying5 (hval 2 5 v2 rfl rfl) h2
  obtain ⟨a0, l0, c0, rfl⟩ := okWide_slice Tryz.underlying25 (hval 0 25 v0 rfl rfl)
  obtain ⟨cs, rfl, _⟩ := okWide_struct Tryz.underlying37 (hval 3 37 v3 rfl rfl)
  obtain ⟨rfl, rfl⟩ := trodVars_none hV
  have hb1 := bounds_u8 hn1
  have hb2 := bounds_u8 hn2
  obtain ⟨m1, rfl⟩ : ∃ m : Nat, n1 = m := ⟨n1.toNat, by omega⟩
  obtain ⟨m2, rfl⟩ : ∃ m : Nat, n2 = m := ⟨n2.toNat, by omega⟩
  obtain ⟨fu0, hf0⟩ := h0
  obtain ⟨fu3, hf3⟩ := h3
  obtain ⟨a, bl, cap, hv, hsee, hq⟩ := slice_sees btv (fun z => SeesL ⟨W.heap.size, W⟩ [] z.a chg 3 z.l ∧ z.seq < 18446744073709551616) c32 (by decide) (fun _ => rfl) Tryz.underlying25 (fun _ _ _ h => open_bat h) (v := .slice a0 l0 c0) hf0
  obtain ⟨k, at_, t, hcs, ht⟩ := open_fate hf3
  have hcs' : cs = #[.int .i64 k, .int .i64 at_, .int .u8 (t : Int)] := by apply Array.ext'; exact hcs
  subst hcs'
  have fin := calls_at (W := W) (walLasts_any ⟨W.heap.size, W⟩ cap m1 m2 k at_ t a bl hsee ⟨by omega⟩ ⟨by omega⟩ ⟨ht⟩ ⟨fun z hz => (hq z hz).1⟩ ⟨fun z hz => (hq z hz).2⟩)
  rw [← hv] at fin
  refine fin.mono fun e W' ⟨he, hw⟩ => ?_
  subst he
  have hlt : ∀ x ∈ p0 ++ [] ++ [] ++ p3 ++ [], x.block < W.heap.size := fun x hx => hW'.lt x hx
  refine ⟨_, rfl, _, _, _, [], p0 ++ ([] ++ ([] ++ p3)), [], hW', trodAll_mk1 (shut_bool Tryz.underlying4 _), ?_, rfl, hw.frame _, fun h => by cases h⟩
  exact trodAll_mk4 (Below.trod laidOut (by kernel_rfl) (of_decide_eq_true (by kernel_rfl)) ⟨fu0, hf0⟩ hw (fun x hx => hlt x (by simp [hx]))) (shut_int Tryz.underlying5 hn1) (shut_int Tryz.underlying5 hn2)
    (Below.trod laidOut (by kernel_rfl) (of_decide_eq_true (by kernel_rfl)) ⟨fu3, hf3⟩ hw (fun x hx => hlt x (by simp [hx])))

theorem walLasts_row : Rows.WalLastsSaid :=
  OpenClaim.holds_of_wide 4 Tryz.f4 rfl rfl rfl rfl rfl rfl rfl ⟨rfl, rfl, rfl, rfl, rfl⟩ rfl rfl rfl rfl rfl (by kernel_rfl) Tryz.func4 (by kernel_rfl)
    (of_decide_eq_true (by kernel_rfl)) (by unfold Func.isWrapper; first | (rw [if_pos (by decide +kernel)]; kernel_rfl) | (rw [if_neg (by decide +kernel)]; exact ⟨rfl, rfl⟩))
    (fun os started H enc _ => walLasts_lifted os started H enc)
theorem walLasts_holds : Rows.WalLastsCardSaid :=
  Claim7.holds_tied_plain_at .later [] [.data, .data, .data, .data, .pinned] true (true, "b8a18ae9fa771390e824c08e7d761973cac9d5a9b26b77cfc00995fc1b317f8b") true walLasts_row (fun _ h => by cases h) (by kernel_rfl) (fun _ h => by cases h) walLasts_row_tie rfl ⟨rfl, rfl⟩ (by kernel_rfl) rfl
    (fun f fn hf hfn => by
      obtain rfl : f = 4 := Option.some.inj ((show Tryz.prog.funcNamed "bourse/bourselaw16.WalLasts" = some 4 by kernel_rfl).symm.trans hf) |>.symm
      obtain rfl : fn = Tryz.f4 := (Option.some.inj (Tryz.func4.symm.trans hfn)).symm
      exact ⟨by kernel_rfl, fun j t ht => by
        rw [Tryz.params4] at ht
        have hm : t ∈ [25, 5, 5, 37] := by simpa using Array.mem_of_getElem? ht
        have hall : ([25, 5, 5, 37].all fun u => !Tryz.prog.wantsStandIn u) = true := by kernel_rfl
        exact (show Tryz.prog.wantsStandIn t = false by simpa using List.all_eq_true.1 hall t hm)⟩)
    (by kernel_rfl)
#print axioms walLasts_holds
end Go.Proofs.YtooncojgfdcjeaaGreatDoor
