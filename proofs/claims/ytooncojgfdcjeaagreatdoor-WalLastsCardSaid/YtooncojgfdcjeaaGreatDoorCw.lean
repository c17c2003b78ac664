/- The steps of WalLasts, told as its walk needs them. No condition. -/
import Derived.Test.YtooncojgfdcjeaaGreatDoorCr
namespace Go.Proofs
open Go Go.Sep

theorem ex_name1 : nameF [108] 1 = [108, 45, 49] := by kernel_rfl
theorem ex_create1 : Dsk.create ⟨[], 4194304, 0, -1, -1, false⟩ (nameF [108] 1) = (0, ⟨[(nameF [108] 1, ⟨[], 0⟩)], 4194304, 1, -1, -1, false⟩) := by kernel_rfl
section
variable {nm S : List UInt8} {L : List Bat} {room st st1 e seq nx nx1 long1 : Nat} {fu fa fu1 fa1 : Int} {dn dn1 br1 : Bool} {fs1 : Files} {b : List Chg}
theorem add_ok (hL : LogB S L) (hnx : nx = nextOf 0 L) (hfu : -1 ≤ fu ∧ fu ≤ 1099511627776) (hfa : -1 ≤ fa ∧ fa ≤ 1099511627776)
    (h : addL ⟨[(nm, ⟨S, S.length⟩)], room, st, fu, fa, dn⟩ ⟨nm, S.length, nx, false⟩ seq b = (e, ⟨fs1, room, st1, fu1, fa1, dn1⟩, ⟨nm, long1, nx1, br1⟩)) (he : e = 0) :
    (S ++ layB S.length (batB seq b)).length = long1 ∧ false = br1 ∧ [(nm, (⟨S ++ layB S.length (batB seq b), (S ++ layB S.length (batB seq b)).length⟩ : FileS))] = fs1 ∧ LogB (S ++ layB S.length (batB seq b)) (L ++ [(seq, b)]) ∧ nx1 = nextOf 0 (L ++ [(seq, b)]) ∧ checkB seq b = 0 := by
  rcases add_law rfl hL hnx hfu hfa h with ⟨_, h1, h2, h3, h4, h5⟩ | ⟨h0, _⟩ | ⟨h0, _⟩
  · simp only [LogS.mk.injEq, true_and] at h1
    exact ⟨h1.1.symm, h1.2.2.symm, h2.symm, h3, h1.2.1.trans h4, h5⟩
  · exact absurd he h0
  · exact absurd he h0
theorem add_same (hL : LogB S L) (hnx : nx = nextOf 0 L) (hfu : -1 ≤ fu ∧ fu ≤ 1099511627776) (hfa : -1 ≤ fa ∧ fa ≤ 1099511627776)
    (h : addL ⟨[(nm, ⟨S, S.length⟩)], room, st, fu, fa, dn⟩ ⟨nm, S.length, nx, false⟩ seq b = (e, ⟨fs1, room, st1, fu1, fa1, dn1⟩, ⟨nm, long1, nx1, br1⟩)) (he : e ≠ 0) (hb : br1 = false) :
    S.length = long1 ∧ nx = nx1 ∧ [(nm, (⟨S, S.length⟩ : FileS))] = fs1 := by
  rcases add_law rfl hL hnx hfu hfa h with ⟨h0, _⟩ | ⟨_, h1, h2⟩ | ⟨_, h1, _⟩
  · exact absurd h0 he
  · simp only [LogS.mk.injEq, true_and] at h1
    simp only [Dsk.mk.injEq] at h2
    exact ⟨h1.1.symm, h1.2.1.symm, h2.1.symm⟩
  · simp only [LogS.mk.injEq, true_and] at h1
    rw [hb] at h1
    exact absurd h1.2.2 (by simp)
theorem add_broke (hL : LogB S L) (hnx : nx = nextOf 0 L) (hfu : -1 ≤ fu ∧ fu ≤ 1099511627776) (hfa : -1 ≤ fa ∧ fa ≤ 1099511627776)
    (h : addL ⟨[(nm, ⟨S, S.length⟩)], room, st, fu, fa, dn⟩ ⟨nm, S.length, nx, false⟩ seq b = (e, ⟨fs1, room, st1, fu1, fa1, dn1⟩, ⟨nm, long1, nx1, br1⟩)) (he : e ≠ 0) (hb : br1 = true) :
    ∃ T, [(nm, (⟨S ++ T, S.length⟩ : FileS))] = fs1 ∧ (T = [] ∨ (T = layB S.length (batB seq b) ∧ nextOf 0 L ≤ seq ∧ checkB seq b = 0)) := by
  rcases add_law rfl hL hnx hfu hfa h with ⟨h0, _⟩ | ⟨_, h1, _⟩ | ⟨_, _, T, h2, h3⟩
  · exact absurd h0 he
  · simp only [LogS.mk.injEq, true_and] at h1
    rw [hb] at h1
    exact absurd h1.2.2 (by simp)
  · exact ⟨T, h2.symm, h3⟩
theorem add_bounds (hfu : -1 ≤ fu ∧ fu ≤ 1099511627776) (hfa : -1 ≤ fa ∧ fa ≤ 1099511627776) {W W1 : LogS} {fs : Files} {D1 : Dsk}
    (h : addL ⟨fs, room, st, fu, fa, dn⟩ W seq b = (e, D1, W1)) :
    (-1 ≤ D1.fuse ∧ D1.fuse ≤ 1099511627776) ∧ (-1 ≤ D1.fault ∧ D1.fault ≤ 1099511627776) ∧ D1.steps ≤ st + 2 := by
  have key : ∀ n r, (-1 ≤ (Dsk.wal ⟨fs, room, st, fu, fa, dn⟩ n r).2.fuse ∧ (Dsk.wal ⟨fs, room, st, fu, fa, dn⟩ n r).2.fuse ≤ 1099511627776) ∧ (-1 ≤ (Dsk.wal ⟨fs, room, st, fu, fa, dn⟩ n r).2.fault ∧ (Dsk.wal ⟨fs, room, st, fu, fa, dn⟩ n r).2.fault ≤ 1099511627776) ∧ (Dsk.wal ⟨fs, room, st, fu, fa, dn⟩ n r).2.steps ≤ st + 2 := by
    intro n r
    rcases hA : Dsk.append ⟨fs, room, st, fu, fa, dn⟩ n r with ⟨e', fs', room', st', fu', fa', dn'⟩
    obtain ⟨a1, a2, a3, a4, a5⟩ := append_bounds hA hfu hfa
    unfold Dsk.wal
    rw [hA]
    split
    · rcases hB : Dsk.sync ⟨fs', room', st', fu', fa', dn'⟩ n with ⟨e2, fs2, room2, st2, fu2, fa2, dn2⟩
      obtain ⟨b1, b2, b3, b4, b5, _⟩ := does_bounds hB ⟨a1, a2⟩ ⟨a3, a4⟩
      exact ⟨⟨b1, b2⟩, ⟨b3, b4⟩, by simp only; omega⟩
    · exact ⟨⟨a1, a2⟩, ⟨a3, a4⟩, by simp only; omega⟩
  unfold addL at h
  split at h
  · cases h; exact ⟨hfu, hfa, by simp only; omega⟩
  · split at h
    · cases h; exact ⟨hfu, hfa, by simp only; omega⟩
    · split at h
      · cases h; exact ⟨hfu, hfa, by simp only; omega⟩
      · split at h <;> (cases h; exact key _ _)
end
theorem read_one {nm t : List UInt8} {f : FileS} {room st e : Nat} {fu fa : Int} {dn : Bool} (h : Dsk.read ⟨[(nm, f)], room, st, fu, fa, dn⟩ nm = (t, e)) (hd : dn = false) : f.s = t ∧ 0 = e := by
  subst hd
  simp only [Dsk.read, Dsk.there, getF, getA_one, Bool.false_eq_true, if_false, Option.getD_some, Option.isSome_some, if_true, Prod.mk.injEq] at h
  exact h
theorem load_one {nm : List UInt8} {f : FileS} {room st e : Nat} {fu fa : Int} {bs : List Bt} (h1 : bs.map Bt.bat = if e = 0 then batches (Dsk.read ⟨[(nm, f)], room, st, fu, fa, false⟩ nm).1 else []) (h2 : (Dsk.read ⟨[(nm, f)], room, st, fu, fa, false⟩ nm).2 = e) : 0 = e ∧ bs.map Bt.bat = batches f.s := by
  obtain ⟨e1, e2⟩ := read_one (t := (Dsk.read ⟨[(nm, f)], room, st, fu, fa, false⟩ nm).1) (e := (Dsk.read ⟨[(nm, f)], room, st, fu, fa, false⟩ nm).2) rfl rfl
  have he : 0 = e := e2.trans h2
  refine ⟨he, ?_⟩
  rw [h1, if_pos he.symm, ← e1]
theorem lay_lim {S : List UInt8} {seq i : Nat} {l : List Chg} (hc : checkB seq l = 0) (h60 : l.length ≤ 60) (h : S.length ≤ 8000000 * i) : (S ++ layB S.length (batB seq l)).length ≤ 8000000 * (i + 1) := by
  have h1 := batB_len hc h60
  have h2 := layB_len S.length (batB seq l)
  rw [List.length_append]; omega
theorem read_sh {nm t X : List UInt8} {n room st e : Nat} {fu fa : Int} {dn : Bool} (h : Dsk.read ⟨[(nm, ⟨X, n⟩)], room, st, fu, fa, dn⟩ nm = (t, e)) (hd : dn = false) : X = t ∧ 0 = e := read_one h hd
theorem fall_sure0 (S : List UInt8) (keep at_ : Int) (turn : Nat) : ∃ X, (fallF ⟨S, S.length⟩ keep at_ turn).s = S ++ X ∧ (turn = 0 → X <+: ([] : List UInt8)) :=
  ⟨[], by rw [fall_same _ _ _ _ rfl, List.append_nil], fun _ => List.nil_prefix⟩
theorem bat_push (bs : List Bt) (x : Bt) : (bs ++ [x]).map Bt.bat = bs.map Bt.bat ++ [(x.seq, x.l)] := by simp [Bt.bat]
theorem light_key {l : List Chg} (h : ∀ c ∈ l, l.length ≤ 60 ∧ c.key.length ≤ 300 ∧ c.val.length ≤ 4200) : ∀ x ∈ l, x.key.length ≤ 1099511627776 ∧ x.val.length ≤ 1099511627776 := fun x hx => by
  have := h x hx; omega
theorem light_len {l : List Chg} (h : ∀ c ∈ l, l.length ≤ 60 ∧ c.key.length ≤ 300 ∧ c.val.length ≤ 4200) : l.length ≤ 60 := by
  cases l with
  | nil => simp
  | cons c l => exact (h c (by simp)).1
theorem ins_push {C : Ctx} {H : Blks} {bs : List Bt} {x : Bt} (h : BtsIn C H bs) (hx : SeesL C H x.a chg 3 x.l) : BtsIn C H (bs ++ [x]) := fun b hb => by
  rcases List.mem_append.1 hb with hb | hb
  · exact h b hb
  · rw [List.mem_singleton.1 hb]; exact hx
theorem cond_turn {turn : Nat} {Q : Prop} (h : ¬ ((turn : Int) ≠ 0)) : ¬ (turn ≠ 0 ∧ Q) := fun h2 => h (by omega)
theorem cond_long {turn : Nat} {shown now : List UInt8} {bs : List Bt} {l1 : List (List UInt8 × Nat)} (hl : l1 = recs now)
    (h : ¬ (((l1.length : Int) > (bs.length : Int)) ∧ (¬ (now = ((shown.take (if ((shown.length : Nat) : Int) < ((now.length : Nat) : Int) then ((shown.length : Nat) : Int) else ((now.length : Nat) : Int)).toNat).drop 0))))) (hs : ¬ (shown = [])) :
    ¬ (turn ≠ 0 ∧ (shown = [] ∨ ((recs now).length > (bs.map Bt.bat).length ∧ ¬ now = shown.take (min now.length shown.length)))) := by
  rintro ⟨_, h2 | ⟨h2, h3⟩⟩
  · exact hs h2
  · subst hl
    refine h ⟨by rw [List.length_map] at h2; omega, fun h4 => h3 ?_⟩
    rw [List.drop_zero] at h4
    rw [show min now.length shown.length = (if ((shown.length : Nat) : Int) < ((now.length : Nat) : Int) then ((shown.length : Nat) : Int) else ((now.length : Nat) : Int)).toNat by split <;> omega]
    exact h4
theorem fin_one {bs bs1 : List Bt} {x : Bt} {nb : List Bat} {Q : Prop} (hgot : bs1.map Bt.bat = nb) (key : nb = bs.map Bt.bat ∨ (Q ∧ nb = bs.map Bt.bat ++ [(x.seq, x.l)])) (hg : decide (bs1.map Bt.bat = bs.map Bt.bat) = false) :
    Value.bool (decide (bs1.map Bt.bat = (bs ++ [x]).map Bt.bat)) = .bool true := by
  rcases key with h | ⟨_, h⟩
  · rw [decide_eq_true (hgot.trans h)] at hg; cases hg
  · rw [bat_push, decide_eq_true (hgot.trans h)]
theorem fin_two {bs bs1 : List Bt} {nb L : List Bat} (hgot : bs1.map Bt.bat = nb) (key : nb = bs.map Bt.bat ∨ (([] : List UInt8) ≠ [] ∧ nb = L)) :
    Value.bool (decide (bs1.map Bt.bat = bs.map Bt.bat)) = .bool true := by
  rcases key with h | ⟨h, _⟩
  · rw [decide_eq_true (hgot.trans h)]
  · exact absurd rfl h
/-- A premise of a call within WalLasts. -/
structure Oq (p : Prop) : Prop where
  h : p := by first | (simp; done) | exact congrArg Prod.fst ex_create1 | (simp only; omega) | (simp only [List.length_append]; omega) | exact fun k => one_file k (by omega) | (simp [usedF]; omega) | exact fun k => one_file k (by simp only; omega) | exact light_key (by assumption) | exact BtsIn.mono (by assumption) (by intro p hp; first | (simp [hp]; done) | cases hp) | assumption | omega | (simp only [getF, getA_one, Option.getD_some]; omega) | exact Ok.h {}
end Go.Proofs
