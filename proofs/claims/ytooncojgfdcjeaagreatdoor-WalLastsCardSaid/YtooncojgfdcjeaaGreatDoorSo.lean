/- Sorting by insertion, in plain Lean; rows that are written; rows of strings. No condition. -/
import Derived.Test.YtooncojgfdcjeaaGreatDoorSp2
namespace Go.Sep
open Go

/-! ### Strings in order -/
def leS (a b : List UInt8) : Prop := Op.bytesLess b a = false
theorem bl_cons (a b : UInt8) (x y : List UInt8) : Op.bytesLess (a :: x) (b :: y) = true ↔ a.toNat < b.toNat ∨ (a.toNat = b.toNat ∧ Op.bytesLess x y = true) := by
  simp only [Op.bytesLess, Bool.or_eq_true, Bool.and_eq_true, decide_eq_true_eq, beq_iff_eq, UInt8.lt_iff_toNat_lt, ← UInt8.toNat_inj]
theorem leS_cons (a b : UInt8) (x y : List UInt8) : leS (a :: x) (b :: y) ↔ a.toNat < b.toNat ∨ (a.toNat = b.toNat ∧ leS x y) := by
  unfold leS
  rw [← Bool.not_eq_true, bl_cons, ← Bool.not_eq_true]
  by_cases h : Op.bytesLess y x = true <;> simp [h] <;> omega
theorem leS_nil (a : List UInt8) : leS [] a := by cases a <;> simp [leS, Op.bytesLess]
theorem leS_refl : ∀ a : List UInt8, leS a a
  | [] => leS_nil _
  | a :: x => (leS_cons a a x x).2 (.inr ⟨rfl, leS_refl x⟩)
theorem leS_trans : ∀ {a b c : List UInt8}, leS a b → leS b c → leS a c
  | [], _, c, _, _ => leS_nil c
  | a :: x, [], c, h, _ => by simp [leS, Op.bytesLess] at h
  | a :: x, b :: y, [], _, h => by simp [leS, Op.bytesLess] at h
  | a :: x, b :: y, c :: z, h1, h2 => by
    rw [leS_cons] at h1 h2 ⊢
    rcases h1 with h1 | ⟨h1, h1'⟩ <;> rcases h2 with h2 | ⟨h2, h2'⟩
    · exact .inl (by omega)
    · exact .inl (by omega)
    · exact .inl (by omega)
    · exact .inr ⟨by omega, leS_trans h1' h2'⟩
theorem less_leS : ∀ {a b : List UInt8}, Op.bytesLess a b = true → leS a b
  | [], b, _ => leS_nil b
  | a :: x, [], h => by simp [Op.bytesLess] at h
  | a :: x, b :: y, h => by
    rw [bl_cons] at h
    rw [leS_cons]
    rcases h with h | ⟨h, h'⟩
    · exact .inl h
    · exact .inr ⟨h, less_leS h'⟩
theorem leS_antisymm : ∀ {a b : List UInt8}, leS a b → leS b a → a = b
  | [], [], _, _ => rfl
  | [], b :: y, _, h => by simp [leS, Op.bytesLess] at h
  | a :: x, [], h, _ => by simp [leS, Op.bytesLess] at h
  | a :: x, b :: y, h1, h2 => by
    rw [leS_cons] at h1 h2
    have e : a = b := UInt8.toNat_inj.1 (by omega)
    have e2 : x = y := leS_antisymm (by rcases h1 with h | h; omega; exact h.2) (by rcases h2 with h | h; omega; exact h.2)
    rw [e, e2]

/-! ### Sorting by insertion -/
abbrev Strs := List (List UInt8)
def atS (l : Strs) (i : Nat) : List UInt8 := l.getD i []
theorem atS_get {l : Strs} {i : Nat} (h : i < l.length) : l[i]? = some (atS l i) := by simp [atS, h]
def swapS (l : Strs) (i j : Nat) : Strs := (l.set i (atS l j)).set j (atS l i)
theorem swapS_len (l : Strs) (i j : Nat) : (swapS l i j).length = l.length := by simp [swapS]
theorem swapS_at {l : Strs} {i j : Nat} (hi : i < l.length) (hj : j < l.length) (k : Nat) : atS (swapS l i j) k = if k = j then atS l i else if k = i then atS l j else atS l k := by
  by_cases h1 : k = j
  · subst h1; simp [atS, swapS, hj]
  · rw [if_neg h1]
    by_cases h2 : k = i
    · subst h2
      rw [if_pos rfl]
      simp [atS, swapS, Ne.symm h1, hi]
    · rw [if_neg h2]
      simp [atS, swapS, Ne.symm h1, Ne.symm h2]
theorem swapS_perm {l : Strs} {i j : Nat} (hi : i < l.length) (hj : j < l.length) : (swapS l i j).Perm l := by
  have e1 : atS l i = l[i] := by simp [atS, hi]
  have e2 : atS l j = l[j] := by simp [atS, hj]
  unfold swapS
  rw [e1, e2]
  exact List.set_set_perm hi hj

/-- Up to place i all is sorted, but for what stands at j. -/
structure InsInv (l0 l : Strs) (i j : Nat) : Prop where
  perm : l.Perm l0
  jle : j ≤ i
  ilt : i < l.length
  sorted : ∀ p q, p < q → q ≤ i → q ≠ j → leS (atS l p) (atS l q)
structure OutInv (l0 l : Strs) (i : Nat) : Prop where
  perm : l.Perm l0
  sorted : ∀ p q, p < q → q < i → q < l.length → leS (atS l p) (atS l q)
theorem OutInv.len {l0 l : Strs} {i : Nat} (h : OutInv l0 l i) : l.length = l0.length := h.perm.length_eq
theorem InsInv.len {l0 l : Strs} {i j : Nat} (h : InsInv l0 l i j) : l.length = l0.length := h.perm.length_eq
theorem OutInv.start (l : Strs) : OutInv l l 1 := ⟨List.Perm.refl _, fun p q h1 h2 => by omega⟩
theorem OutInv.enter {l0 l : Strs} {i : Nat} (h : OutInv l0 l i) (hi : i < l.length) : InsInv l0 l i i := ⟨h.perm, by omega, hi, fun p q h1 h2 h3 => h.sorted p q h1 (by omega) (by omega)⟩
theorem InsInv.swap {l0 l : Strs} {i j : Nat} (h : InsInv l0 l i j) (hj : 0 < j) (hl : Op.bytesLess (atS l j) (atS l (j - 1)) = true) : InsInv l0 (swapS l j (j - 1)) i (j - 1) := by
  have hji := h.jle
  have hil := h.ilt
  have hs := fun k => swapS_at (l := l) (i := j) (j := j - 1) (by omega) (by omega) k
  refine ⟨(swapS_perm (by omega) (by omega)).trans h.perm, by omega, by rw [swapS_len]; omega, fun p q h1 h2 h3 => ?_⟩
  have hle := less_leS hl
  rw [hs p, hs q, if_neg h3]
  by_cases hq : q = j
  · subst hq
    rw [if_pos rfl]
    by_cases hp : p = q - 1
    · rw [if_pos hp]; exact hle
    · rw [if_neg hp, if_neg (by omega)]
      exact h.sorted p (q - 1) (by omega) (by omega) (by omega)
  · rw [if_neg hq]
    by_cases hp : p = j - 1
    · rw [if_pos hp]; exact h.sorted j q (by omega) h2 hq
    · rw [if_neg hp]
      by_cases hp2 : p = j
      · rw [if_pos hp2]; exact h.sorted (j - 1) q (by omega) h2 hq
      · rw [if_neg hp2]; exact h.sorted p q h1 h2 hq
theorem InsInv.leave {l0 l : Strs} {i j : Nat} (h : InsInv l0 l i j) (hl : ¬ (0 < j ∧ Op.bytesLess (atS l j) (atS l (j - 1)) = true)) : OutInv l0 l (i + 1) := by
  have hji := h.jle
  refine ⟨h.perm, fun p q h1 h2 h3 => ?_⟩
  by_cases hq : q = j
  · subst hq
    have h4 : leS (atS l (q - 1)) (atS l q) := by
      have : ¬ Op.bytesLess (atS l q) (atS l (q - 1)) = true := fun e => hl ⟨by omega, e⟩
      simpa [leS] using this
    by_cases hp : p = q - 1
    · rw [hp]; exact h4
    · exact leS_trans (h.sorted p (q - 1) (by omega) (by omega) (by omega)) h4
  · exact h.sorted p q h1 (by omega) hq
def Sorted (l : Strs) : Prop := l.Pairwise leS
theorem OutInv.done {l0 l : Strs} {i : Nat} (h : OutInv l0 l i) (hi : ¬ i < l0.length) : l.Perm l0 ∧ Sorted l := by
  have hl := h.len
  refine ⟨h.perm, ?_⟩
  unfold Sorted
  rw [List.pairwise_iff_getElem]
  intro p q hp hq hpq
  have := h.sorted p q hpq (by omega) hq
  simpa [atS, hp, hq] using this

theorem sorted_unique {a b : Strs} (h : a.Perm b) (ha : Sorted a) (hb : Sorted b) : a = b :=
  List.Perm.eq_of_pairwise (fun _ _ _ _ => leS_antisymm) ha hb h

/-! ### Rows of strings -/
def strv (x : List UInt8) : List Value := [str x]
section
variable {P : Program} {C : Ctx}
theorem gv_pushZ {α : Type} {L : Blks} {e sz cap : Nat} {a : Option Addr} {enc : α → List Value} {l : List α} {t t2 bytes b2 e2 : Nat} {ys : Array Value} {fz2 : Nat × Nat} (x : α) (ty : TypeId) (hok : appOk P t t2 e sz bytes = true)
    (hrow : RowZ e sz a l.length cap (l.flatMap enc) L) (hx : ys.toList = enc x) (hys : ys.size = 1 * sz) (h1 : oneCells ys.toList = true) (h63 : l.length + 1 ≤ 9223372036854775807) (hb47 : (l.length + 1) * bytes ≤ 140737488355328) :
    GivesR P C (do pure (.value (← Builtin.append_ #[t, t2] ty #[.slice a l.length cap, .slice (some ⟨b2, 0, none⟩) 1 1]))) [L, [(b2, .cells ys e2 fz2)]]
      (fun v L' => ∃ a' cap' L1, v = .slice a' (l ++ [x]).length cap' ∧ L' = [L1] ∧ RowZ e sz a' (l ++ [x]).length cap' ((l ++ [x]).flatMap enc) L1) := by
  intro w F hw
  have hw' : Owns C w (L ++ ((b2, .cells ys e2 fz2) :: F)) := by simpa using hw
  have hb : w.heap[b2]? = some (.cells ys e2 fz2) := hw'.get (by simp)
  obtain ⟨a', cap', w', L', h2, h3, h4⟩ := append_run (x := .slice (some ⟨b2, 0, none⟩) 1 1) (ys := ys.toList) (m := 1) ty hok hrow (Nat.zero_le _) hw' (fun w => rfl) (by simpa using hys) h1 (fun k => by
    have hb' : ({ w with drawn := k } : World).heap[b2]? = some (.cells ys e2 fz2) := hb
    have := loadCellsFrom_run (P := P) hb' 0 (1 * sz) 0 #[] (by omega)
    simp only [Builtin.firstCells, loadCells, this]
    simp [← hys]) h63 hb47
  refine ⟨_, w', _, [L'], by rw [Sem.run_bind, h2]; rfl, .inl rfl, ?_, a', cap', L', by simp, rfl, ?_⟩
  · have h5 : Owns C w' ((L' ++ [(b2, .cells ys e2 fz2)]) ++ F) := by simpa using h4
    simpa using h5.sub ((List.sublist_append_left L' _).append_right F)
  · rw [hx] at h3
    simpa [List.flatMap_append] using h3
end
/-- The cells of a row of strings, and what is spare. -/
def strCells (l : Strs) (spare : List Value) : Array Value := (l.flatMap strv ++ spare).toArray
theorem strv_flat (l : Strs) : l.flatMap strv = l.map str := by
  induction l with
  | nil => rfl
  | cons x l ih => simp [List.flatMap_cons, strv, ih]
theorem strCells_get {l : Strs} {spare : List Value} {i : Nat} (h : i < l.length) : (strCells l spare)[0 + i * 1]? = some (str (atS l i)) := by
  unfold strCells
  rw [strv_flat, List.getElem?_toArray, Nat.zero_add, Nat.mul_one, List.getElem?_append_left (by simpa using h), List.getElem?_map, atS_get h]
  rfl
theorem strCells_size (l : Strs) (spare : List Value) : (strCells l spare).size = l.length + spare.length := by simp [strCells, strv_flat]
theorem strCells_set {l : Strs} {spare : List Value} {i : Nat} (x : List UInt8) (h : i < l.length) : setCells (strCells l spare) (0 + i * 1) [str x] = strCells (l.set i x) spare := by
  simp only [setCells, strCells, strv_flat, Nat.zero_add, Nat.mul_one]
  apply Array.ext'
  rw [Array.toList_setIfInBounds, List.set_append_left _ _ (by simpa using h), List.map_set]
end Go.Sep
