/- A batch's bytes read again. No condition. -/
import Derived.Test.YtooncojgfdcjeaaGreatDoorSp3
namespace Go.Proofs
open Go Go.Sep

theorem scan_num (X : List UInt8) : ∀ (f i acc m : Nat), m < 128 ^ f → i + f ≤ 9 → 0 < f → (0 < m ∨ i = 0) → scan i acc (numG f m ++ X) = (acc + m * 128 ^ i, i + (numG f m).length, 0)
  | 0, _, _, _, _, _, h, _ => by omega
  | f + 1, i, acc, m, hm, hi, _, h0 => by
    have e : UInt8.size = 256 := rfl
    have e1 : 128 ^ (f + 1) = 128 ^ f * 128 := by rw [Nat.pow_succ]
    by_cases hn : m ≥ 128
    · have hf : 0 < f := by
        rcases Nat.eq_zero_or_pos f with rfl | h
        · simp at hm; omega
        · exact h
      rw [numG, if_pos hn, List.cons_append, scan]
      rw [UInt8.toNat_ofNat_of_lt' (by omega), if_neg (by omega), if_pos (by omega)]
      rw [scan_num X f (i + 1) _ (m / 128) (by omega) (by omega) hf (.inl (by omega))]
      simp only [List.length_cons, Prod.mk.injEq, and_true]
      refine ⟨?_, by omega⟩
      rw [Nat.pow_succ, show (m % 128 + 128) % 128 = m % 128 by omega, Nat.mul_comm (128 ^ i) 128, ← Nat.mul_assoc, Nat.add_assoc, ← Nat.add_mul, show m % 128 + m / 128 * 128 = m by omega]
    · rw [numG, if_neg hn, List.cons_append, scan]
      rw [UInt8.toNat_ofNat_of_lt' (by omega), if_neg (by omega), if_neg (by omega), if_neg (by omega)]
      rw [show m % 128 = m by omega]
      rfl
section
variable (A X : List UInt8)
theorem take_at (t : List UInt8) : Rd.take ⟨A ++ (t ++ X), A.length, 0⟩ t.length = (t, ⟨A ++ (t ++ X), A.length + t.length, 0⟩) := by
  unfold Rd.take
  rw [if_neg (by simp), if_neg (by simp only [List.length_append]; omega)]
  simp only [Int.toNat_natCast]
  rw [List.take_length_add_append, List.drop_left' rfl, List.take_left' rfl]
theorem num_at {n : Nat} (hn : n < 2097152) : Rd.num ⟨A ++ (numB n ++ X), A.length, 0⟩ = (n, ⟨A ++ (numB n ++ X), A.length + (numB n).length, 0⟩) := by
  have h3 : numB n = numG 3 n := numG_fuel 10 3 n (Nat.lt_of_lt_of_le hn (by decide)) (Nat.lt_of_lt_of_le hn (by decide)) (by omega) (by omega)
  have h := scan_num X 3 0 0 n (Nat.lt_of_lt_of_le hn (by decide)) (by omega) (by omega) (.inr rfl)
  refine Rd.num_ok rfl ?_
  rw [List.drop_left' rfl, h3, h]
  simp
theorem text_at {most : Nat} (t : List UInt8) (ht : t.length ≤ most) (hm : most < 2097152) : Rd.text ⟨A ++ (textB t ++ X), A.length, 0⟩ most = (t, ⟨A ++ (textB t ++ X), A.length + (textB t).length, 0⟩) := by
  unfold textB
  have h1 := num_at A (t ++ X) (n := t.length) (by omega)
  rw [← List.append_assoc (numB t.length)] at h1
  have h2 := take_at (A ++ numB t.length) X t
  simp only [List.append_assoc, List.length_append] at h1 h2 ⊢
  rw [Rd.text_take h1 (by omega) h2]
  simp only [Nat.add_assoc]
theorem change_at {c : Chg} (hk : c.kind = 1 ∨ c.kind = 2) (h1 : c.key.length ≤ 200) (h2 : c.val.length ≤ 4096) (h3 : c.kind = 2 → c.val.length = 0) :
    Rd.change ⟨A ++ (chgB c ++ X), A.length, 0⟩ = (c, ⟨A ++ (chgB c ++ X), A.length + (chgB c).length, 0⟩) := by
  obtain ⟨kind, key, val⟩ := c
  simp only at hk h1 h2 h3
  unfold chgB
  simp only
  rcases hk with rfl | rfl
  · rw [if_pos rfl]
    have t1 := take_at A (textB key ++ textB val ++ X) [UInt8.ofNat (1 : Int).toNat]
    have t2 := text_at (A ++ [UInt8.ofNat (1 : Int).toNat]) (textB val ++ X) key h1 (by omega)
    have t3 := text_at (A ++ [UInt8.ofNat (1 : Int).toNat] ++ textB key) X val h2 (by omega)
    simp only [List.append_assoc, List.length_append, List.length_cons, List.length_nil, Nat.zero_add, Nat.add_assoc] at t1 t2 t3 ⊢
    rw [Rd.change_of (k := 1) t1 t2 (.inl ⟨rfl, t3⟩) (by rfl) (Rd.mid_same (by simp))]
    rfl
  · have hv : val = [] := List.length_eq_zero_iff.1 (h3 rfl)
    subst hv
    rw [if_neg (by decide)]
    have t1 := take_at A (textB key ++ X) [UInt8.ofNat (2 : Int).toNat]
    have t2 := text_at (A ++ [UInt8.ofNat (2 : Int).toNat]) X key h1 (by omega)
    simp only [List.append_assoc, List.append_nil, List.length_append, List.length_cons, List.length_nil, Nat.zero_add, Nat.add_zero, Nat.add_assoc] at t1 t2 ⊢
    rw [Rd.change_of (k := 2) t1 t2 (.inr ⟨by omega, rfl, rfl⟩) (by rfl) (Rd.mid_same (by simp))]
    rfl
end
theorem go_at (X : List UInt8) : ∀ (l : List Chg) (A : List UInt8), (∀ x ∈ l, (x.kind = 1 ∨ x.kind = 2) ∧ 1 ≤ x.key.length ∧ x.key.length ≤ 200 ∧ x.val.length ≤ 4096 ∧ (x.kind = 2 → x.val.length = 0)) →
    parseGo l.length ⟨A ++ (l.flatMap chgB ++ X), A.length, 0⟩ = (l, ⟨A ++ (l.flatMap chgB ++ X), A.length + (l.flatMap chgB).length, 0⟩)
  | [], A, _ => by simp [parseGo]
  | c :: l, A, h => by
    obtain ⟨h1, _, h2, h3, h4⟩ := h c (by simp)
    have hc := change_at A (l.flatMap chgB ++ X) h1 h2 h3 h4
    have ih := go_at X l (A ++ chgB c) (fun x hx => h x (by simp [hx]))
    simp only [List.flatMap_cons, List.length_cons, List.append_assoc, List.length_append] at hc ih ⊢
    rw [parseGo, if_neg (by simp), hc]
    simp only
    rw [ih]
    simp only [Nat.add_assoc]
/-- A batch's bytes tell it. -/
theorem parse_bat {seq : Nat} {l : List Chg} (h : checkB seq l = 0) : parse (batB seq l) = (0, seq, l) := by
  have h1 := check_len h
  have h2 := check_seq h
  have t1 := take_at [] (numB l.length ++ l.flatMap chgB) (little 8 seq)
  have t2 := num_at (little 8 seq) (l.flatMap chgB) (n := l.length) (by omega)
  have t3 := go_at [] l (little 8 seq ++ numB l.length) (check_all h)
  simp only [List.nil_append, List.append_nil, List.length_nil, Nat.zero_add, little_len, List.append_assoc, List.length_append] at t1 t2 t3
  unfold batB
  rw [List.append_assoc]
  have hb : big (little 8 seq) = seq := by rw [big_little]; exact Nat.mod_eq_of_lt (Nat.lt_of_le_of_lt h2 (by decide))
  have hp := parse_of (e := 0) (e2 := 0) t1 t2 (.inr ⟨by omega, rfl⟩) t3 (by simp [Rd.stop, little_len]; omega) (.inl ⟨rfl, by rw [hb, h]⟩)
  rw [hp, if_neg (by simp), hb]
end Go.Proofs
