/- What becomes of a log where the power goes: the plain law of WalLasts. No condition. -/
import Derived.Test.YtooncojgfdcjeaaGreatDoorFr
namespace Go.Proofs
open Go Go.Sep

/-! ### The fall of a file -/
def keepN (keep : Int) (n : Nat) : Nat := if keep < 0 then 0 else if keep.toNat < n then keep.toNat else n
def turnF (l : List UInt8) (k : Nat) (at_ : Int) (turn : Nat) : List UInt8 := if 0 ≤ at_ ∧ at_ < (k : Int) then l.set at_.toNat (UInt8.ofNat ((l.getD at_.toNat 0).toNat ^^^ turn)) else l
def fallF (f : FileS) (keep at_ : Int) (turn : Nat) : FileS :=
  ⟨f.s.take f.sure ++ (turnF (f.s.drop f.sure) (keepN keep (f.s.drop f.sure).length) at_ turn).take (keepN keep (f.s.drop f.sure).length),
   (f.s.take f.sure ++ (turnF (f.s.drop f.sure) (keepN keep (f.s.drop f.sure).length) at_ turn).take (keepN keep (f.s.drop f.sure).length)).length⟩
theorem turnF_zero (l : List UInt8) (k : Nat) (at_ : Int) : turnF l k at_ 0 = l := by
  unfold turnF
  split
  · apply List.ext_getElem?
    intro i
    rw [List.getElem?_set]
    split
    · rename_i h
      subst h
      split
      · rename_i h2
        simp only [Nat.xor_zero, List.getD_eq_getElem?_getD, List.getElem?_eq_getElem h2, Option.getD_some]
        simp
      · rename_i h2
        rw [List.getElem?_eq_none (by omega)]
    · rfl
  · rfl
theorem keepN_le (keep : Int) (n : Nat) : keepN keep n ≤ n := by
  unfold keepN
  split
  · omega
  · split <;> omega
theorem turnF_len (l : List UInt8) (k : Nat) (at_ : Int) (turn : Nat) : (turnF l k at_ turn).length = l.length := by unfold turnF; split <;> simp
theorem fall_len (f : FileS) (keep at_ : Int) (turn : Nat) : (fallF f keep at_ turn).s.length ≤ f.s.length := by
  have := keepN_le keep (f.s.drop f.sure).length
  simp only [fallF, List.length_append, List.length_take, turnF_len, List.length_drop] at this ⊢
  omega
theorem fall_sure (S T : List UInt8) (keep at_ : Int) (turn : Nat) : ∃ X, (fallF ⟨S ++ T, S.length⟩ keep at_ turn).s = S ++ X ∧ (turn = 0 → X <+: T) := by
  refine ⟨(turnF T (keepN keep T.length) at_ turn).take (keepN keep T.length), ?_, ?_⟩
  · simp only [fallF, List.take_left' rfl, List.drop_left' rfl]
  · rintro rfl
    rw [turnF_zero]
    exact List.take_prefix _ _
theorem fall_same (f : FileS) (keep at_ : Int) (turn : Nat) (h : f.s.length = f.sure) : fallF f keep at_ turn = f := by
  obtain ⟨s, n⟩ := f
  simp only at h
  subst h
  have h0 : keepN keep 0 = 0 := by have := keepN_le keep 0; omega
  simp [fallF, h0]

/-! ### A batch that is added -/
theorem batB_len {seq : Nat} {l : List Chg} (h : checkB seq l = 0) (h60 : l.length ≤ 60) : (batB seq l).length ≤ 264100 := by
  have hall := check_all h
  have h1 := numB_len l.length
  have h2 : ∀ l : List Chg, (∀ x ∈ l, x.key.length ≤ 200 ∧ x.val.length ≤ 4096) → (l.flatMap chgB).length ≤ 4400 * l.length := by
    intro l
    induction l with
    | nil => intro _; simp
    | cons c l ih =>
      intro hl
      have h3 := ih (fun x hx => hl x (by simp [hx]))
      have h4 := hl c (by simp)
      have h5 := textB_len c.key
      have h6 := textB_len c.val
      simp only [List.flatMap_cons, List.length_append, List.length_cons, chgB]
      split <;> simp only [List.length_nil, List.length_cons] <;> omega
  have h3 := h2 l (fun x hx => ⟨(hall x hx).2.2.1, (hall x hx).2.2.2.1⟩)
  simp only [batB, List.length_append, little_len]
  omega
/-- What is known of a disk that holds one log. -/
structure OneLog (nm : List UInt8) (S T : List UInt8) (D : Dsk) : Prop where
  fs : D.fs = [(nm, ⟨S ++ T, S.length⟩)]
theorem getA_one {β : Type} (nm : List UInt8) (f : β) : getA [(nm, f)] nm = some f := by simp [getA]
theorem putA_one {β : Type} (nm : List UInt8) (f g : β) : putA [(nm, f)] nm g = [(nm, g)] := by simp [putA]
theorem dsk_eta (D : Dsk) : D = ⟨D.fs, D.room, D.steps, D.fuse, D.fault, D.down⟩ := rfl
/-- The three ends of adding a batch to a log. -/
theorem add_law {nm S : List UInt8} {L : List Bat} {D D1 : Dsk} {W1 : LogS} {nx seq e : Nat} {b : List Chg} (hfs : D.fs = [(nm, ⟨S, S.length⟩)]) (hL : LogB S L) (hnx : nx = nextOf 0 L)
    (hfu : -1 ≤ D.fuse ∧ D.fuse ≤ 1099511627776) (hfa : -1 ≤ D.fault ∧ D.fault ≤ 1099511627776) (h : addL D ⟨nm, S.length, nx, false⟩ seq b = (e, D1, W1)) :
    (e = 0 ∧ W1 = ⟨nm, (S ++ layB S.length (batB seq b)).length, seq + b.length, false⟩ ∧ D1.fs = [(nm, ⟨S ++ layB S.length (batB seq b), (S ++ layB S.length (batB seq b)).length⟩)] ∧ LogB (S ++ layB S.length (batB seq b)) (L ++ [(seq, b)]) ∧ seq + b.length = nextOf 0 (L ++ [(seq, b)]) ∧ checkB seq b = 0) ∨
    (e ≠ 0 ∧ W1 = ⟨nm, S.length, nx, false⟩ ∧ D1 = D) ∨
    (e ≠ 0 ∧ W1 = ⟨nm, S.length, nx, true⟩ ∧ ∃ T, D1.fs = [(nm, ⟨S ++ T, S.length⟩)] ∧ (T = [] ∨ (T = layB S.length (batB seq b) ∧ nextOf 0 L ≤ seq ∧ checkB seq b = 0))) := by
  unfold addL at h
  rw [if_neg (by simp)] at h
  simp only at h
  split at h
  · cases h; exact .inr (.inl ⟨by omega, rfl, rfl⟩)
  · rename_i hseq
    split at h
    · rename_i hb
      cases h; exact .inr (.inl ⟨hb, rfl, rfl⟩)
    · rename_i hb
      have hc : checkB seq b = 0 := by
        unfold bytesB at hb
        split at hb
        · rename_i hc; exact absurd hc (by simpa using hb)
        · rename_i hc; exact Decidable.of_not_not hc
      have hbb : (bytesB seq b).1 = batB seq b := by unfold bytesB; rw [if_neg (by simp [hc])]
      rw [hbb] at h
      have hle : nextOf 0 L ≤ seq := by omega
      -- the two steps of the disk
      have ha := does_bounds (fs := D.fs) (room := D.room) (st := D.steps) (fu := D.fuse) (fa := D.fault) (dn := D.down) (M := 1099511627776) (e := (D.append nm (layB S.length (batB seq b))).1) (fs1 := (D.append nm (layB S.length (batB seq b))).2.fs) (room1 := (D.append nm (layB S.length (batB seq b))).2.room) (st1 := (D.append nm (layB S.length (batB seq b))).2.steps) (fu1 := (D.append nm (layB S.length (batB seq b))).2.fuse) (fa1 := (D.append nm (layB S.length (batB seq b))).2.fault) (dn1 := (D.append nm (layB S.length (batB seq b))).2.down) (own := if (getA D.fs nm).isSome then (if usedF D.fs + (layB S.length (batB seq b)).length > D.room then 14 else 0) else 16) (f := fun fs => putA fs nm ⟨(getF fs nm).s ++ layB S.length (batB seq b), (getF fs nm).sure⟩) rfl hfu hfa
      obtain ⟨a1, a2, a3, a4, _, _, a5, a6⟩ := ha
      have hf0 : putA D.fs nm ⟨(getF D.fs nm).s ++ layB S.length (batB seq b), (getF D.fs nm).sure⟩ = [(nm, ⟨S ++ layB S.length (batB seq b), S.length⟩)] := by
        rw [hfs, putA_one]; simp [getF, getA_one]
      unfold Dsk.wal at h
      by_cases e1 : (D.append nm (layB S.length (batB seq b))).1 = 0
      · rw [if_pos e1] at h
        have g1 : (D.append nm (layB S.length (batB seq b))).2.fs = [(nm, ⟨S ++ layB S.length (batB seq b), S.length⟩)] := (a5 e1).trans hf0
        generalize hE : (D.append nm (layB S.length (batB seq b))).2 = E at h g1 a1 a2 a3 a4
        have hs := does_bounds (fs := E.fs) (room := E.room) (st := E.steps) (fu := E.fuse) (fa := E.fault) (dn := E.down) (M := 1099511627776) (e := (E.sync nm).1) (fs1 := (E.sync nm).2.fs) (room1 := (E.sync nm).2.room) (st1 := (E.sync nm).2.steps) (fu1 := (E.sync nm).2.fuse) (fa1 := (E.sync nm).2.fault) (dn1 := (E.sync nm).2.down) (own := E.there nm) (f := fun fs => putA fs nm ⟨(getF fs nm).s, (getF fs nm).s.length⟩) rfl ⟨a1, a2⟩ ⟨a3, a4⟩
        obtain ⟨_, _, _, _, _, _, s5, s6⟩ := hs
        by_cases e2 : (E.sync nm).1 = 0
        · rw [if_neg (by simp [e2])] at h
          cases h
          refine .inl ⟨rfl, by simp, ?_, hL.next hle hc, (nextOf_push 0 L (seq, b)).symm, hc⟩
          rw [s5 e2, g1, putA_one]; simp [getF, getA_one]
        · rw [if_pos e2] at h
          cases h
          exact .inr (.inr ⟨e2, rfl, _, (s6 e2).trans g1, .inr ⟨rfl, hle, hc⟩⟩)
      · rw [if_neg e1, if_pos e1] at h
        cases h
        exact .inr (.inr ⟨e1, rfl, [], by rw [a6 e1, hfs, List.append_nil], .inl rfl⟩)

/-! ### Behind the crash -/
/-- Whatever becomes of what wasn't synced: the sure batches, or with them the one that wasn't. -/
theorem crash_law {S T X now shown : List UInt8} {L : List Bat} {seq : Nat} {b : List Chg} {turn : Nat} (hL : LogB S L) (hT : T = [] ∨ (T = layB S.length (batB seq b) ∧ nextOf 0 L ≤ seq ∧ checkB seq b = 0))
    (hnow : now = S ++ X) (hX : turn = 0 → X <+: T) (hsh : shown = [] ∨ shown = S ++ T)
    (hc : ¬ (turn ≠ 0 ∧ (shown = [] ∨ ((recs now).length > L.length ∧ ¬ now = shown.take (min now.length shown.length))))) :
    batches now = L ∨ (T ≠ [] ∧ batches now = L ++ [(seq, b)]) := by
  subst hnow
  have key : X <+: T → batches (S ++ X) = L ∨ (T ≠ [] ∧ batches (S ++ X) = L ++ [(seq, b)]) := by
    intro hp
    rcases hT with rfl | ⟨rfl, h1, h2⟩
    · obtain rfl := List.prefix_nil.1 hp
      rw [List.append_nil]; exact .inl hL.tells
    · have hpos := layB_pos S.length (batB seq b)
      rcases hL.cut h1 h2 hp with h | h
      · exact .inl h
      · exact .inr ⟨fun h0 => by rw [h0] at hpos; simp at hpos, h⟩
  by_cases ht : turn = 0
  · exact key (hX ht)
  · by_cases h0 : shown = []
    · exact absurd ⟨ht, .inl h0⟩ hc
    · by_cases hr : (recs (S ++ X)).length > L.length
      · by_cases hn : S ++ X = shown.take (min (S ++ X).length shown.length)
        · refine key ?_
          rcases hsh with h | h
          · exact absurd h h0
          · rw [h] at hn
            have hp : S ++ X <+: S ++ T := by rw [hn]; exact List.take_prefix _ _
            exact (List.prefix_append_right_inj _).1 hp
        · exact absurd ⟨ht, .inr ⟨hr, hn⟩⟩ hc
      · exact .inl (hL.more (by omega))
end Go.Proofs
