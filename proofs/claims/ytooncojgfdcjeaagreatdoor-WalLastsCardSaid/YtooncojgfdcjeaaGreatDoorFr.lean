/- Laid records read again, whole and cut. No condition. -/
import Derived.Test.YtooncojgfdcjeaaGreatDoorFb
import Derived.Test.YtooncojgfdcjeaaGreatDoorSp2
namespace Go.Proofs
open Go Go.Sep

/-! ### A piece -/
theorem at_right (A B : List UInt8) (i : Nat) : (A ++ B).getD (A.length + i) 0 = B.getD i 0 := by
  simp [List.getD_eq_getElem?_getD, List.getElem?_append_right]
theorem cut_right (A B : List UInt8) (i j : Nat) : cut (A ++ B) (A.length + i) (A.length + j) = cut B i j := by
  unfold cut
  rw [List.take_length_add_append, List.drop_length_add_append]
theorem cut_pad (S P R : List UInt8) : cut (S ++ (P ++ R)) S.length (S.length + P.length) = P := by
  have := cut_right S (P ++ R) 0 P.length
  rw [Nat.add_zero] at this
  rw [this]; simp [cut]
theorem piece_head (k : Nat) (t X : List UInt8) : ∃ c0 c1 c2 c3 : UInt8, little 4 (crcMask (crcOf ([UInt8.ofNat k] ++ t))) = [c0, c1, c2, c3] ∧
    pieceB k t ++ X = [c0, c1, c2, c3, UInt8.ofNat (t.length % 256), UInt8.ofNat (t.length / 256 % 256), UInt8.ofNat k] ++ (t ++ X) := by
  refine ⟨_, _, _, _, rfl, ?_⟩
  simp only [pieceB, little, List.append_assoc]
  rfl
theorem piece_bytes (A : List UInt8) (k : Nat) (t X : List UInt8) (hk : k ≤ 4) (ht : t.length + 7 ≤ 512) :
    byteAt (A ++ (pieceB k t ++ X)) (A.length + 6) = k ∧ (A ++ (pieceB k t ++ X)).getD (A.length + 6) 0 = UInt8.ofNat k ∧ byteAt (A ++ (pieceB k t ++ X)) (A.length + 4) + 256 * byteAt (A ++ (pieceB k t ++ X)) (A.length + 5) = t.length := by
  obtain ⟨c0, c1, c2, c3, _, h⟩ := piece_head k t X
  have e : UInt8.size = 256 := rfl
  have h6 : (A ++ (pieceB k t ++ X)).getD (A.length + 6) 0 = UInt8.ofNat k := by rw [at_right, h]; rfl
  have h5 : (A ++ (pieceB k t ++ X)).getD (A.length + 5) 0 = UInt8.ofNat (t.length / 256 % 256) := by rw [at_right, h]; rfl
  have h4 : (A ++ (pieceB k t ++ X)).getD (A.length + 4) 0 = UInt8.ofNat (t.length % 256) := by rw [at_right, h]; rfl
  refine ⟨?_, h6, ?_⟩
  · unfold byteAt; rw [h6, UInt8.toNat_ofNat_of_lt' (by omega)]
  · unfold byteAt; rw [h4, h5, UInt8.toNat_ofNat_of_lt' (by omega), UInt8.toNat_ofNat_of_lt' (by omega)]; omega
theorem pieceAt_read (A : List UInt8) (k : Nat) (t X : List UInt8) (h1 : 1 ≤ k) (hk : k ≤ 4) (ht : t.length + 7 ≤ 512 - A.length % 512) :
    pieceAt (A ++ (pieceB k t ++ X)) A.length = (k, t, A.length + 7 + t.length) := by
  obtain ⟨b6, g6, b4⟩ := piece_bytes A k t X hk (by omega)
  obtain ⟨c0, c1, c2, c3, hc, h⟩ := piece_head k t X
  have e1 : cut (A ++ (pieceB k t ++ X)) (A.length + 7) (A.length + 7 + t.length) = t := by
    rw [Nat.add_assoc, cut_right, h]
    have := cut_right [c0, c1, c2, c3, UInt8.ofNat (t.length % 256), UInt8.ofNat (t.length / 256 % 256), UInt8.ofNat k] (t ++ X) 0 t.length
    simp only [List.length_cons, List.length_nil, Nat.add_zero, Nat.zero_add] at this
    rw [this]; simp [cut]
  have e2 : cut (A ++ (pieceB k t ++ X)) A.length (A.length + 4) = [c0, c1, c2, c3] := by
    have := cut_right A (pieceB k t ++ X) 0 4
    rw [Nat.add_zero] at this
    rw [this, h]; rfl
  have hl : (A ++ (pieceB k t ++ X)).length = A.length + (7 + t.length + X.length) := by simp only [List.length_append, pieceB_len]
  unfold pieceAt
  rw [b6, b4, g6, e1, e2, hl, if_neg (by omega), if_neg, ]
  rw [← hc, big_little]
  exact fun h => h (Nat.mod_eq_of_lt (crcMask_lt _)).symm
theorem pieceD_read (S : List UInt8) (k : Nat) (t X : List UInt8) (h1 : 1 ≤ k) (hk : k ≤ 4) (ht : t.length + 7 ≤ 512 - (S.length + padN S.length) % 512) :
    pieceD (S ++ (List.replicate (padN S.length) 0 ++ (pieceB k t ++ X))) S.length = (k, t, S.length + padN S.length + 7 + t.length) := by
  have hA : (S ++ List.replicate (padN S.length) (0 : UInt8)).length = S.length + padN S.length := by simp
  have hl : (S ++ (List.replicate (padN S.length) 0 ++ (pieceB k t ++ X))).length = S.length + (padN S.length + (7 + t.length + X.length)) := by simp only [List.length_append, pieceB_len, List.length_replicate]
  rw [piece_at (by rw [hl]; omega)]
  · have := pieceAt_read (S ++ List.replicate (padN S.length) 0) k t X h1 hk (by rw [hA]; exact ht)
    rw [hA, List.append_assoc] at this
    exact this
  · have := cut_pad S (List.replicate (padN S.length) 0) (pieceB k t ++ X)
    rw [List.length_replicate] at this
    rw [this]
    exact fun b hb => (List.mem_replicate.1 hb).2
/-- A piece that is cut is none. -/
theorem pieceD_cut (S : List UInt8) (k : Nat) (t X : List UInt8) (hk : k ≤ 4) (ht : t.length + 7 ≤ 512) (hX : X <+: List.replicate (padN S.length) 0 ++ pieceB k t) (hn : X.length < padN S.length + (7 + t.length)) :
    (pieceD (S ++ X) S.length).1 = 0 := by
  by_cases hs : S.length + padN S.length + 7 > (S ++ X).length
  · rw [piece_short hs]
  · rw [List.length_append] at hs
    obtain ⟨Y, hY⟩ := hX
    -- the head stands whole
    obtain ⟨Z, hZ⟩ : ∃ Z, X = List.replicate (padN S.length) 0 ++ Z ∧ Z ++ Y = pieceB k t := by
      refine ⟨X.drop (padN S.length), ?_⟩
      have h1 : X.take (padN S.length) = List.replicate (padN S.length) 0 := by
        have := congrArg (List.take (padN S.length)) hY
        rw [List.take_append_of_le_length (by omega), List.take_left' (by simp)] at this
        exact this
      have h2 : X = List.replicate (padN S.length) 0 ++ X.drop (padN S.length) := by rw [← h1, List.take_append_drop]
      refine ⟨h2, ?_⟩
      rw [h2, List.append_assoc] at hY
      exact List.append_cancel_left hY
    obtain ⟨rfl, hZ⟩ := hZ
    simp only [List.length_append, List.length_replicate] at hs hn
    have hA : (S ++ List.replicate (padN S.length) (0 : UInt8)).length = S.length + padN S.length := by simp
    have hcut := cut_pad S (List.replicate (padN S.length) 0) Z
    rw [List.length_replicate] at hcut
    rw [piece_at (by simp only [List.length_append, List.length_replicate]; omega) (by rw [hcut]; exact fun b hb => (List.mem_replicate.1 hb).2)]
    obtain ⟨c0, c1, c2, c3, _, h⟩ := piece_head k t []
    simp only [List.append_nil] at h
    have hz7 : 7 ≤ Z.length := by omega
    have get : ∀ i, i < 7 → (S ++ (List.replicate (padN S.length) 0 ++ Z)).getD (S.length + padN S.length + i) 0 = (pieceB k t).getD i 0 := by
      intro i hi
      have := at_right (S ++ List.replicate (padN S.length) 0) Z i
      rw [hA, List.append_assoc] at this
      rw [this, ← hZ]
      simp only [List.getD_eq_getElem?_getD]
      rw [List.getElem?_append_left (by omega)]
    have e : UInt8.size = 256 := rfl
    have b4 : byteAt (S ++ (List.replicate (padN S.length) 0 ++ Z)) (S.length + padN S.length + 4) + 256 * byteAt (S ++ (List.replicate (padN S.length) 0 ++ Z)) (S.length + padN S.length + 5) = t.length := by
      unfold byteAt
      rw [get 4 (by omega), get 5 (by omega), h]
      show (UInt8.ofNat (t.length % 256)).toNat + 256 * (UInt8.ofNat (t.length / 256 % 256)).toNat = t.length
      rw [UInt8.toNat_ofNat_of_lt' (by omega), UInt8.toNat_ofNat_of_lt' (by omega)]; omega
    unfold pieceAt
    rw [b4, if_pos]
    refine .inr (.inr (.inr ?_))
    simp only [List.length_append, List.length_replicate]
    omega

/-! ### A record -/
theorem kindF_le (x y : Bool) : 1 ≤ kindF x y ∧ kindF x y ≤ 4 := by cases x <;> cases y <;> decide
theorem roomAt_fits (a l : Nat) : roomAt a l + 7 ≤ 512 - (a + padN a) % 512 := by
  have := pad_left a
  unfold roomAt; split <;> omega
theorem layG_step {f a : Nat} {bg : Bool} {r : List UInt8} : layG (f + 1) a bg r = List.replicate (padN a) 0 ++ pieceB (kindF bg (roomAt a r.length == r.length)) (r.take (roomAt a r.length)) ++
      (if r.drop (roomAt a r.length) = [] then [] else layG f (a + padN a + (7 + roomAt a r.length)) false (r.drop (roomAt a r.length))) := by rw [layG]
theorem room_len (a : Nat) (r : List UInt8) : (r.take (roomAt a r.length)).length = roomAt a r.length := by
  have := (roomAt_le a r.length).1
  rw [List.length_take]; omega
theorem room_end {a : Nat} {r : List UInt8} (h : r.drop (roomAt a r.length) = []) : roomAt a r.length = r.length := by
  have h1 := (roomAt_le a r.length).1
  have h2 : (r.drop (roomAt a r.length)).length = 0 := by rw [h]; rfl
  rw [List.length_drop] at h2; omega
theorem room_more {a : Nat} {r : List UInt8} (h : ¬ r.drop (roomAt a r.length) = []) : (roomAt a r.length == r.length) = false := by
  have h1 := (roomAt_le a r.length).1
  have h2 : 0 < (r.drop (roomAt a r.length)).length := List.length_pos_iff.2 h
  rw [List.length_drop] at h2
  simp; omega
/-- A laid record is read. -/
theorem recF_laid (X : List UInt8) : ∀ (g : Nat) (S : List UInt8) (bg : Bool) (r acc : List UInt8) (f : Nat), layMu S.length r < g → (S ++ (layG g S.length bg r ++ X)).length < f + S.length →
    recF f (S ++ (layG g S.length bg r ++ X)) S.length bg acc = (acc ++ r, S.length + (layG g S.length bg r).length)
  | 0, _, _, _, _, _, h, _ => by omega
  | g + 1, S, bg, r, acc, f, hg, hf => by
    have hkl := kindF_le bg (roomAt S.length r.length == r.length)
    have hfit := roomAt_fits S.length r.length
    have hrl := room_len S.length r
    rw [layG_step] at hf ⊢
    by_cases hd : r.drop (roomAt S.length r.length) = []
    · rw [if_pos hd] at hf ⊢
      have hr := room_end hd
      have ht : r.take (roomAt S.length r.length) = r := by rw [hr, List.take_length]
      rw [List.append_nil, ht, List.append_assoc] at hf ⊢
      have hp := pieceD_read S (kindF bg (roomAt S.length r.length == r.length)) r X hkl.1 hkl.2 (by omega)
      have hl : (S ++ (List.replicate (padN S.length) 0 ++ (pieceB (kindF bg (roomAt S.length r.length == r.length)) r ++ X))).length = S.length + (padN S.length + (7 + r.length + X.length)) := by simp only [List.length_append, pieceB_len, List.length_replicate]
      obtain ⟨f, rfl⟩ : ∃ f', f = f' + 1 := ⟨f - 1, by omega⟩
      rw [recF, hp]
      have hb : (roomAt S.length r.length == r.length) = true := by simp [hr]
      rw [hb]
      rw [if_neg (by cases bg <;> simp [kindF]), if_neg (by cases bg <;> simp [kindF])]
      simp only [List.length_append, List.length_replicate, pieceB_len]
      congr 1; omega
    · rw [if_neg hd] at hf ⊢
      have hb := room_more hd
      have hmu := layMu_lt hd
      have hS : (S ++ (List.replicate (padN S.length) 0 ++ pieceB (kindF bg (roomAt S.length r.length == r.length)) (r.take (roomAt S.length r.length)))).length = S.length + padN S.length + (7 + roomAt S.length r.length) := by
        simp only [List.length_append, List.length_replicate, pieceB_len, hrl]; omega
      have ih := recF_laid X g (S ++ (List.replicate (padN S.length) 0 ++ pieceB (kindF bg (roomAt S.length r.length == r.length)) (r.take (roomAt S.length r.length)))) false (r.drop (roomAt S.length r.length)) (acc ++ r.take (roomAt S.length r.length))
      rw [hS] at ih
      have hp := pieceD_read S (kindF bg (roomAt S.length r.length == r.length)) (r.take (roomAt S.length r.length)) (layG g (S.length + padN S.length + (7 + roomAt S.length r.length)) false (r.drop (roomAt S.length r.length)) ++ X) hkl.1 hkl.2 (by rw [hrl]; omega)
      have hl := congrArg List.length (show S ++ (List.replicate (padN S.length) 0 ++ pieceB (kindF bg (roomAt S.length r.length == r.length)) (r.take (roomAt S.length r.length)) ++ layG g (S.length + padN S.length + (7 + roomAt S.length r.length)) false (r.drop (roomAt S.length r.length)) ++ X) = _ from rfl)
      simp only [List.length_append, List.length_replicate, pieceB_len, hrl] at hl hf
      obtain ⟨f, rfl⟩ : ∃ f', f = f' + 1 := ⟨f - 1, by omega⟩
      simp only [List.append_assoc] at hp ih ⊢
      rw [recF, hp, hb]
      rw [hb] at ih
      rw [if_neg (by cases bg <;> simp [kindF]), if_pos (by cases bg <;> simp [kindF])]
      simp only [hrl]
      rw [show S.length + padN S.length + 7 + roomAt S.length r.length = S.length + padN S.length + (7 + roomAt S.length r.length) by omega]
      rw [ih f (by omega) (by simp only [List.length_append, List.length_replicate, pieceB_len, hrl]; omega)]
      simp only [List.length_append, List.length_replicate, pieceB_len, hrl, List.append_assoc, List.take_append_drop]
      congr 1; omega
/-- A record that is cut is none. -/
theorem recF_cut : ∀ (g : Nat) (S X : List UInt8) (bg : Bool) (r acc : List UInt8) (f : Nat), layMu S.length r < g → X <+: layG g S.length bg r → X.length < (layG g S.length bg r).length →
    recF f (S ++ X) S.length bg acc = ([], 0)
  | 0, _, _, _, _, _, _, h, _, _ => by omega
  | g + 1, S, X, bg, r, acc, f, hg, hX, hn => by
    have hkl := kindF_le bg (roomAt S.length r.length == r.length)
    have hfit := roomAt_fits S.length r.length
    have hrl := room_len S.length r
    match f with
    | 0 => rfl
    | f + 1 =>
    rw [layG_step] at hX hn
    by_cases hx : X.length < padN S.length + (7 + roomAt S.length r.length)
    · have hpre : X <+: List.replicate (padN S.length) 0 ++ pieceB (kindF bg (roomAt S.length r.length == r.length)) (r.take (roomAt S.length r.length)) := by
        refine List.prefix_of_prefix_length_le hX (List.prefix_append _ _) ?_
        simp only [List.length_append, List.length_replicate, pieceB_len, hrl]; omega
      have h0 := pieceD_cut S _ _ X hkl.2 (by omega) hpre (by rw [hrl]; exact hx)
      rw [recF, if_pos (.inl h0)]
    · by_cases hd : r.drop (roomAt S.length r.length) = []
      · rw [if_pos hd] at hn
        simp only [List.length_append, List.length_replicate, pieceB_len, hrl, List.length_nil] at hn
        omega
      · rw [if_neg hd] at hX hn
        have hb := room_more hd
        have hmu := layMu_lt hd
        have hP : (List.replicate (padN S.length) (0 : UInt8) ++ pieceB (kindF bg (roomAt S.length r.length == r.length)) (r.take (roomAt S.length r.length))).length = padN S.length + (7 + roomAt S.length r.length) := by
          simp only [List.length_append, List.length_replicate, pieceB_len, hrl]
        have hS : (S ++ (List.replicate (padN S.length) 0 ++ pieceB (kindF bg (roomAt S.length r.length == r.length)) (r.take (roomAt S.length r.length)))).length = S.length + padN S.length + (7 + roomAt S.length r.length) := by
          rw [List.length_append, hP]; omega
        obtain ⟨Z, rfl⟩ : ∃ Z, X = (List.replicate (padN S.length) (0 : UInt8) ++ pieceB (kindF bg (roomAt S.length r.length == r.length)) (r.take (roomAt S.length r.length))) ++ Z := by
          obtain ⟨Z, hZ⟩ := List.prefix_of_prefix_length_le (List.prefix_append _ _) hX (by rw [hP]; omega)
          exact ⟨Z, hZ.symm⟩
        have hZ := (List.prefix_append_right_inj _).1 hX
        rw [List.length_append (as := _ ++ _) (bs := Z), List.length_append (as := List.replicate _ _ ++ _) (bs := layG _ _ _ _)] at hn
        have ih := recF_cut g (S ++ (List.replicate (padN S.length) 0 ++ pieceB (kindF bg (roomAt S.length r.length == r.length)) (r.take (roomAt S.length r.length)))) Z false (r.drop (roomAt S.length r.length)) (acc ++ r.take (roomAt S.length r.length)) f
        rw [hS] at ih
        have hp := pieceD_read S (kindF bg (roomAt S.length r.length == r.length)) (r.take (roomAt S.length r.length)) Z hkl.1 hkl.2 (by rw [hrl]; omega)
        simp only [List.append_assoc] at hp ih ⊢
        rw [recF, hp, hb]
        rw [hb] at ih
        rw [if_neg (by cases bg <;> simp [kindF]), if_pos (by cases bg <;> simp [kindF])]
        simp only [hrl]
        rw [show S.length + padN S.length + 7 + roomAt S.length r.length = S.length + padN S.length + (7 + roomAt S.length r.length) by omega]
        exact ih (by omega) hZ (by omega)
theorem layB_pos (a : Nat) (r : List UInt8) : 7 ≤ (layB a r).length := by
  unfold layB
  rw [layG_step]
  simp only [List.length_append, pieceB_len]; omega

/-! ### A log -/
/-- These bytes are records, one behind the other, and nothing else. -/
def Laid (S : List UInt8) (rs : List (List UInt8 × Nat)) : Prop := ∀ X, recs (S ++ X) = rs ++ recsF ((S ++ X).length + 1) (S ++ X) S.length
theorem Laid.start : Laid [] [] := fun X => rfl
theorem recsF_none {log : List UInt8} {a f : Nat} (h : (recordF log a).2 = 0) : recsF f log a = [] := by
  cases f with
  | zero => rfl
  | succ f => rw [recsF, if_pos h]
theorem Laid.next {S r : List UInt8} {rs : List (List UInt8 × Nat)} (h : Laid S rs) : Laid (S ++ layB S.length r) (rs ++ [(r, S.length + (layB S.length r).length)]) := by
  intro X
  have h1 := h (layB S.length r ++ X)
  have hp := layB_pos S.length r
  have hr : recordF (S ++ (layB S.length r ++ X)) S.length = (r, S.length + (layB S.length r).length) := by
    have := recF_laid X (layMu S.length r + 1) S true r [] ((S ++ (layB S.length r ++ X)).length + 1) (by omega) (by show _ < _; unfold layB; omega)
    simpa [recordF, layB] using this
  rw [List.append_assoc, h1, recsF, hr, if_neg (by simp only; omega), List.append_assoc]
  simp only [List.singleton_append]
  rw [recsF_fuel _ _ ((S ++ (layB S.length r ++ X)).length + 1) _ (by simp only [List.length_append]; omega) (by simp only [List.length_append]; omega) (by simp only [List.length_append]; omega)]
  rw [show (S ++ layB S.length r).length = S.length + (layB S.length r).length from List.length_append]
theorem Laid.all {S : List UInt8} {rs : List (List UInt8 × Nat)} (h : Laid S rs) : recs S = rs := by
  have := h []
  rw [List.append_nil] at this
  rw [this, recsF_none, List.append_nil]
  rw [recordF, recF, piece_short (by omega)]
  simp
/-- Behind them a record that is cut: it is none. -/
theorem Laid.cut {S X r : List UInt8} {rs : List (List UInt8 × Nat)} (h : Laid S rs) (hX : X <+: layB S.length r) : recs (S ++ X) = rs ∨ X = layB S.length r := by
  by_cases hn : X.length < (layB S.length r).length
  · left
    rw [h X, recsF_none, List.append_nil]
    rw [recordF, recF_cut (layMu S.length r + 1) S X true r [] _ (by omega) hX hn]
  · right
    exact hX.eq_of_length_le (by omega)
/-- Behind them anything: they are told first. -/
theorem Laid.more {S X : List UInt8} {rs : List (List UInt8 × Nat)} (h : Laid S rs) (hl : (recs (S ++ X)).length ≤ rs.length) : recs (S ++ X) = rs := by
  rw [h X] at hl ⊢
  rw [List.length_append] at hl
  rw [List.length_eq_zero_iff.1 (show (recsF ((S ++ X).length + 1) (S ++ X) S.length).length = 0 by omega), List.append_nil]

/-! ### Batches in a log -/
/-- Batches that may stand one behind the other, from a number on. -/
def BatsOk : Nat → List Bat → Prop
  | _, [] => True
  | n, b :: l => n ≤ b.1 ∧ checkB b.1 b.2 = 0 ∧ BatsOk (b.1 + b.2.length) l
def nextOf : Nat → List Bat → Nat
  | n, [] => n
  | _, b :: l => nextOf (b.1 + b.2.length) l
theorem BatsOk.push : ∀ {n : Nat} {l : List Bat} {b : Bat}, BatsOk n l → nextOf n l ≤ b.1 → checkB b.1 b.2 = 0 → BatsOk n (l ++ [b])
  | _, [], _, _, h2, h3 => ⟨h2, h3, trivial⟩
  | _, _ :: _, _, h1, h2, h3 => ⟨h1.1, h1.2.1, BatsOk.push h1.2.2 h2 h3⟩
theorem nextOf_push : ∀ (n : Nat) (l : List Bat) (b : Bat), nextOf n (l ++ [b]) = b.1 + b.2.length
  | _, [], _ => rfl
  | _, c :: l, b => nextOf_push (c.1 + c.2.length) l b
theorem readB_bats : ∀ {n : Nat} {l : List Bat} {rs : List (List UInt8 × Nat)}, BatsOk n l → rs.map Prod.fst = l.map (fun b => batB b.1 b.2) → readB n rs = l
  | _, [], [], _, _ => rfl
  | _, [], _ :: _, _, h => by simp at h
  | _, _ :: _, [], _, h => by simp at h
  | n, b :: l, r :: rs, h, hm => by
    simp only [List.map_cons, List.cons.injEq] at hm
    have hp := parse_bat h.2.1
    rw [← hm.1] at hp
    rw [readB_go hp (by simp only [ne_eq, not_true_eq_false, false_or, Nat.not_lt]; exact h.1), readB_bats h.2.2 hm.2]
/-- A log's bytes that tell these batches, and nothing else. -/
structure LogB (S : List UInt8) (l : List Bat) : Prop where
  ok : BatsOk 0 l
  laid : ∃ rs, Laid S rs ∧ rs.map Prod.fst = l.map (fun b => batB b.1 b.2)
theorem LogB.start : LogB [] [] := ⟨trivial, [], Laid.start, rfl⟩
theorem LogB.next {S : List UInt8} {l : List Bat} {seq : Nat} {b : List Chg} (h : LogB S l) (hn : nextOf 0 l ≤ seq) (hc : checkB seq b = 0) : LogB (S ++ layB S.length (batB seq b)) (l ++ [(seq, b)]) := by
  obtain ⟨rs, h1, h2⟩ := h.laid
  exact ⟨h.ok.push hn hc, _, h1.next, by simp [h2]⟩
theorem LogB.tells {S : List UInt8} {l : List Bat} (h : LogB S l) : batches S = l := by
  obtain ⟨rs, h1, h2⟩ := h.laid
  rw [batches, h1.all]
  exact readB_bats h.ok h2
theorem LogB.cut {S X : List UInt8} {l : List Bat} {seq : Nat} {b : List Chg} (h : LogB S l) (hn : nextOf 0 l ≤ seq) (hc : checkB seq b = 0) (hX : X <+: layB S.length (batB seq b)) : batches (S ++ X) = l ∨ batches (S ++ X) = l ++ [(seq, b)] := by
  obtain ⟨rs, h1, h2⟩ := h.laid
  rcases h1.cut hX with h3 | rfl
  · left; rw [batches, h3]; exact readB_bats h.ok h2
  · right; exact (h.next hn hc).tells
theorem LogB.more {S X : List UInt8} {l : List Bat} (h : LogB S l) (hl : (recs (S ++ X)).length ≤ l.length) : batches (S ++ X) = l := by
  obtain ⟨rs, h1, h2⟩ := h.laid
  have := congrArg List.length h2
  rw [List.length_map, List.length_map] at this
  rw [batches, h1.more (by omega)]
  exact readB_bats h.ok h2
end Go.Proofs
