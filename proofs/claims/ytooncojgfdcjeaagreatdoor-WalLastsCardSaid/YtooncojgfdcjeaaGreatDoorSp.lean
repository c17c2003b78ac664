/- What the functions compute, in plain words: sums, numbers, records. No condition. -/
namespace Go.Sep

/-! ### The sum -/
def half (n : Nat) : Nat := if n % 2 = 1 then n / 2 ^^^ 2197175160 else n / 2
def halfs : Nat → Nat → Nat
  | 0, n => n
  | k + 1, n => halfs k (half n)
def crcB (n : Nat) : Nat := halfs 8 n
def crcStep (c : Nat) (b : UInt8) : Nat := crcB ((c % 256) ^^^ b.toNat) ^^^ (c / 256)
def crcAdd (c : Nat) (s : List UInt8) : Nat := s.foldl crcStep c
def crcOf (s : List UInt8) : Nat := 4294967295 - crcAdd 4294967295 s
def crcMask (n : Nat) : Nat := (n / 32768 + n % 32768 * 131072 + 2726488792) % 4294967296

theorem half_lt {n : Nat} (h : n < 4294967296) : half n < 4294967296 := by
  unfold half
  split
  · exact Nat.xor_lt_two_pow (n := 32) (by omega) (by decide)
  · omega
theorem halfs_lt : ∀ (k : Nat) {n : Nat}, n < 4294967296 → halfs k n < 4294967296
  | 0, _, h => h
  | k + 1, _, h => halfs_lt k (half_lt h)
theorem crcB_lt {n : Nat} (h : n < 4294967296) : crcB n < 4294967296 := halfs_lt 8 h
theorem xor8 {a b : Nat} (h : a < 256) (h2 : b < 256) : a ^^^ b < 256 := Nat.xor_lt_two_pow (n := 8) h h2
theorem crcStep_lt {c : Nat} (b : UInt8) (h : c < 4294967296) : crcStep c b < 4294967296 := by
  refine Nat.xor_lt_two_pow (n := 32) (crcB_lt ?_) (by omega)
  have := xor8 (Nat.mod_lt c (by decide : 256 > 0)) (UInt8.toNat_lt b)
  omega
theorem crcAdd_lt : ∀ (s : List UInt8) {c : Nat}, c < 4294967296 → crcAdd c s < 4294967296
  | [], _, h => h
  | b :: s, _, h => crcAdd_lt s (crcStep_lt b h)

def ByteInv (n0 n i : Nat) : Prop := i ≤ 8 ∧ n < 4294967296 ∧ halfs (8 - i) n = crcB n0
theorem ByteInv.next {n0 n i : Nat} (h : ByteInv n0 n i) (hi : i < 8) : ByteInv n0 (half n) (i + 1) := by
  obtain ⟨_, h2, h3⟩ := h
  refine ⟨hi, half_lt h2, ?_⟩
  rw [show 8 - i = (8 - (i + 1)) + 1 by omega] at h3
  exact h3
theorem ByteInv.odd {n0 n i : Nat} (h : ByteInv n0 n i) (hi : i < 8) (ho : n % 2 = 1) : ByteInv n0 (n / 2 ^^^ 2197175160) (i + 1) := by
  have := h.next hi; rwa [half, if_pos ho] at this
theorem ByteInv.even {n0 n i : Nat} (h : ByteInv n0 n i) (hi : i < 8) (ho : ¬ n % 2 = 1) : ByteInv n0 (n / 2) (i + 1) := by
  have := h.next hi; rwa [half, if_neg ho] at this
theorem ByteInv.done {n0 n i : Nat} (h : ByteInv n0 n i) (hi : ¬ i < 8) : n = crcB n0 := by
  obtain ⟨h1, _, h3⟩ := h
  have : i = 8 := by omega
  subst this
  exact h3

def AddInv (c0 : Nat) (s : List UInt8) (c i : Nat) : Prop := i ≤ s.length ∧ c < 4294967296 ∧ crcAdd c (s.drop i) = crcAdd c0 s
theorem AddInv.next {c0 c i : Nat} {s : List UInt8} (h : AddInv c0 s c i) (hi : i < s.length) : AddInv c0 s (crcStep c (s.getD i 0)) (i + 1) := by
  obtain ⟨_, h2, h3⟩ := h
  refine ⟨hi, crcStep_lt _ h2, ?_⟩
  rw [List.drop_eq_getElem_cons hi] at h3
  rw [← h3, List.getD_eq_getElem?_getD, List.getElem?_eq_getElem hi]
  rfl
theorem AddInv.done {c0 c i : Nat} {s : List UInt8} (h : AddInv c0 s c i) (hi : ¬ i < s.length) : c = crcAdd c0 s := by
  obtain ⟨h1, _, h3⟩ := h
  rwa [List.drop_of_length_le (by omega)] at h3

theorem AddInv.next2 {c0 c i : Nat} {s : List UInt8} (h : AddInv c0 s c i) (hi : i < s.length) : AddInv c0 s (crcB (c % 2 ^ 8 ^^^ (s.getD i 0).toNat) ^^^ (c / 2 ^ 8)) (i + 1) := by
  rw [show (2 : Nat) ^ 8 = 256 from rfl]
  exact h.next hi
theorem mask_or {n : Nat} (h : n < 4294967296) : n / 2 ^ 15 ||| n % 32768 * 131072 = n / 32768 + n % 32768 * 131072 := by
  have h1 := Nat.shiftLeft_add_eq_or_of_lt (i := 17) (b := n / 2 ^ 15) (by omega) (n % 32768)
  rw [Nat.shiftLeft_eq] at h1
  rw [Nat.or_comm, show (131072 : Nat) = 2 ^ 17 from rfl, ← h1]
  omega

theorem crcOf_lt (s : List UInt8) : crcOf s < 4294967296 := by unfold crcOf; omega
theorem crcMask_lt (n : Nat) : crcMask n < 4294967296 := Nat.mod_lt _ (by decide)

/-! ### Numbers as bytes, the lowest first -/
def little : Nat → Nat → List UInt8
  | 0, _ => []
  | k + 1, n => UInt8.ofNat (n % 256) :: little k (n / 256)
def big : List UInt8 → Nat
  | [] => 0
  | b :: s => b.toNat + 256 * big s
theorem little_len : ∀ (k n : Nat), (little k n).length = k
  | 0, _ => rfl
  | k + 1, n => by simp [little, little_len k]
theorem big_lt : ∀ s : List UInt8, big s < 256 ^ s.length
  | [] => by simp [big]
  | b :: s => by
    have h1 := big_lt s
    have h2 := UInt8.toNat_lt b
    simp only [big, List.length_cons, Nat.pow_succ]
    omega
theorem big_little : ∀ (k n : Nat), big (little k n) = n % 256 ^ k
  | 0, n => by simp [little, big, Nat.mod_one]
  | k + 1, n => by
    simp only [little, big, big_little k]
    rw [UInt8.toNat_ofNat_of_lt' (by have : UInt8.size = 256 := rfl; omega), Nat.pow_succ, Nat.mul_comm (256 ^ k) 256, Nat.mod_mul]
theorem little_big : ∀ (s : List UInt8), little s.length (big s) = s
  | [] => rfl
  | b :: s => by
    have h2 := UInt8.toNat_lt b
    have e1 : (b.toNat + 256 * big s) % 256 = b.toNat := by omega
    have e2 : (b.toNat + 256 * big s) / 256 = big s := by omega
    simp only [List.length_cons, little, big, e1, e2, little_big s]
    simp

/-! ### A reader -/
structure Rd where
  s : List UInt8
  at_ : Nat
  e : Nat
def Rd.fail (r : Rd) (c : Nat) : Rd := if r.e = 0 then { r with e := c } else r
def Rd.take (r : Rd) (n : Int) : List UInt8 × Rd :=
  if r.e ≠ 0 then ([], r) else if n < 0 ∨ n > (r.s.length : Int) - r.at_ then ([], { r with e := 3 })
  else ((r.s.take (r.at_ + n.toNat)).drop r.at_, { r with at_ := r.at_ + n.toNat })
/-- A number: what it is, how many bytes it has, the error. -/
def scan (i acc : Nat) : List UInt8 → Nat × Nat × Nat
  | [] => (0, 0, 3)
  | c :: l =>
    if i = 9 ∧ c.toNat > 1 then (0, 0, 8)
    else if c.toNat ≥ 128 then scan (i + 1) (acc + c.toNat % 128 * 128 ^ i) l
    else if c.toNat = 0 ∧ i > 0 then (0, 0, 4) else (acc + c.toNat % 128 * 128 ^ i, i + 1, 0)
def Rd.num (r : Rd) : Nat × Rd :=
  if r.e ≠ 0 then (0, r) else
  if (scan 0 0 (r.s.drop r.at_)).2.2 ≠ 0 then (0, { r with e := (scan 0 0 (r.s.drop r.at_)).2.2 })
  else ((scan 0 0 (r.s.drop r.at_)).1, { r with at_ := r.at_ + (scan 0 0 (r.s.drop r.at_)).2.1 })
def Rd.text (r : Rd) (most : Nat) : List UInt8 × Rd :=
  if r.num.1 > most then ([], r.num.2.fail 5) else r.num.2.take r.num.1
def Rd.stop (r : Rd) : Nat := if r.e = 0 ∧ r.at_ < r.s.length then 4 else r.e

theorem Rd.num_bad {s : List UInt8} {a e : Nat} (h : e ≠ 0) : Rd.num ⟨s, a, e⟩ = (0, ⟨s, a, e⟩) := by simp [Rd.num, h]
theorem Rd.num_err {s : List UInt8} {a e z : Nat} (h : e = 0) (hz : (scan 0 0 (s.drop a)).2.2 = z) (h0 : z ≠ 0) : Rd.num ⟨s, a, e⟩ = (0, ⟨s, a, z⟩) := by simp [Rd.num, h, hz, h0]
theorem Rd.num_ok {s : List UInt8} {a e x k : Nat} (h : e = 0) (hz : scan 0 0 (s.drop a) = (x, k, 0)) : Rd.num ⟨s, a, e⟩ = (x, ⟨s, a + k, e⟩) := by simp [Rd.num, h, hz]

/-- Where a number is being read. -/
structure ScanInv (s : List UInt8) (a i acc : Nat) : Prop where
  ten : i ≤ 9
  lt : acc < 128 ^ i
  eq : scan i acc (s.drop (a + i)) = scan 0 0 (s.drop a)
theorem ScanInv.start (s : List UInt8) (a : Nat) : ScanInv s a 0 0 := ⟨by omega, by omega, rfl⟩
theorem pow_le9 {i : Nat} (h : i ≤ 9) : 128 ^ i ≤ 9223372036854775808 := by
  have := Nat.pow_le_pow_right (n := 128) (by omega) h
  exact this
section
variable {s : List UInt8} {a i acc : Nat}
theorem ScanInv.none (h : ScanInv s a i acc) (hl : ¬ a + i < s.length) : scan 0 0 (s.drop a) = (0, 0, 3) := by
  rw [← h.eq, List.drop_of_length_le (by omega)]; rfl
theorem drop_get {j : Nat} (hl : j < s.length) : s.drop j = s.getD j 0 :: s.drop (j + 1) := by
  rw [List.drop_eq_getElem_cons hl, List.getD_eq_getElem?_getD, List.getElem?_eq_getElem hl]; rfl
theorem ScanInv.step (h : ScanInv s a i acc) (hl : a + i < s.length) : scan 0 0 (s.drop a) =
    (if i = 9 ∧ (s.getD (a + i) 0).toNat > 1 then (0, 0, 8)
    else if (s.getD (a + i) 0).toNat ≥ 128 then scan (i + 1) (acc + (s.getD (a + i) 0).toNat % 128 * 128 ^ i) (s.drop (a + i + 1))
    else if (s.getD (a + i) 0).toNat = 0 ∧ i > 0 then (0, 0, 4) else (acc + (s.getD (a + i) 0).toNat % 128 * 128 ^ i, i + 1, 0)) := by
  rw [← h.eq, drop_get hl]; rfl
theorem ScanInv.wide (h : ScanInv s a i acc) (hl : a + i < s.length) (h1 : i = 9) (h2 : (s.getD (a + i) 0).toNat > 1) : scan 0 0 (s.drop a) = (0, 0, 8) := by
  rw [h.step hl, if_pos ⟨h1, h2⟩]
theorem ScanInv.next (h : ScanInv s a i acc) (hl : a + i < s.length) (h1 : ¬ (i = 9 ∧ (s.getD (a + i) 0).toNat > 1)) (h2 : (s.getD (a + i) 0).toNat ≥ 128) :
    ScanInv s a (i + 1) (acc + (s.getD (a + i) 0).toNat % 128 * 128 ^ i) := by
  refine ⟨?_, ?_, ?_⟩
  · have := h.ten
    omega
  · have h3 := h.lt
    rw [Nat.pow_succ]
    have h4 : (s.getD (a + i) 0).toNat % 128 ≤ 127 := by omega
    have h5 := Nat.mul_le_mul_right (128 ^ i) h4
    omega
  · rw [h.step hl, if_neg h1, if_pos h2]; rfl
theorem ScanInv.unit (h : ScanInv s a i acc) (hl : a + i < s.length) (h1 : ¬ (i = 9 ∧ (s.getD (a + i) 0).toNat > 1)) (h2 : (s.getD (a + i) 0).toNat ≥ 128) : 128 ^ i * 128 % 2 ^ 64 = 128 ^ (i + 1) := by
  have h3 := (h.next hl h1 h2).ten
  have h4 := pow_le9 h3
  rw [Nat.pow_succ] at h4 ⊢
  exact Nat.mod_eq_of_lt (by omega)
theorem ScanInv.long (h : ScanInv s a i acc) (hl : a + i < s.length) (h2 : ¬ (s.getD (a + i) 0).toNat ≥ 128) (h3 : (s.getD (a + i) 0).toNat = 0) (h4 : i > 0) : scan 0 0 (s.drop a) = (0, 0, 4) := by
  rw [h.step hl, if_neg (by omega), if_neg h2, if_pos ⟨h3, h4⟩]
theorem ScanInv.good (h : ScanInv s a i acc) (hl : a + i < s.length) (h1 : ¬ (i = 9 ∧ (s.getD (a + i) 0).toNat > 1)) (h2 : ¬ (s.getD (a + i) 0).toNat ≥ 128) (h3 : ¬ ((s.getD (a + i) 0).toNat = 0 ∧ i > 0)) :
    scan 0 0 (s.drop a) = (acc + (s.getD (a + i) 0).toNat % 128 * 128 ^ i, i + 1, 0) := by
  rw [h.step hl, if_neg h1, if_neg h2, if_neg h3]
/-- The next part of a number fits. -/
theorem ScanInv.fits (h : ScanInv s a i acc) (h1 : ¬ (i = 9 ∧ (s.getD (a + i) 0).toNat > 1)) : (s.getD (a + i) 0).toNat % 128 * 128 ^ i ≤ 9223372036854775808 ∧ acc + (s.getD (a + i) 0).toNat % 128 * 128 ^ i ≤ 18446744073709551615 := by
  have h3 := h.lt
  have h4 := h.ten
  by_cases h9 : i = 9
  · subst h9
    have h5 : (s.getD (a + 9) 0).toNat % 128 ≤ 1 := by omega
    have h6 := Nat.mul_le_mul_right (128 ^ 9) h5
    rw [show (128 : Nat) ^ 9 = 9223372036854775808 from rfl] at *
    omega
  · have h5 : (s.getD (a + i) 0).toNat % 128 ≤ 127 := by omega
    have h6 := Nat.mul_le_mul_right (128 ^ i) h5
    have h7 : 128 ^ i ≤ 128 ^ 8 := Nat.pow_le_pow_right (by omega) (by omega)
    rw [show (128 : Nat) ^ 8 = 72057594037927936 from rfl] at h7
    omega
theorem pow7 (i : Nat) : (128 : Nat) ^ i = 2 ^ (7 * i) := by rw [Nat.pow_mul]
theorem and127 (x : Nat) : x &&& 127 = x % 128 := Nat.and_two_pow_sub_one_eq_mod x 7
theorem ScanInv.shl (h : ScanInv s a i acc) (h1 : ¬ (i = 9 ∧ (s.getD (a + i) 0).toNat > 1)) : (s.getD (a + i) 0).toNat % 128 * 2 ^ (7 * i) ≤ 9223372036854775808 := by
  have := (h.fits h1).1
  rwa [pow7] at this
theorem or_add (h : ScanInv s a i acc) (x : Nat) : acc ||| x * 2 ^ (7 * i) = acc + x * 128 ^ i := by
  have h1 := h.lt
  have e : (128 : Nat) ^ i = 2 ^ (7 * i) := by rw [Nat.pow_mul]
  rw [e] at h1 ⊢
  have h2 := Nat.shiftLeft_add_eq_or_of_lt h1 x
  rw [Nat.shiftLeft_eq] at h2
  rw [Nat.or_comm, ← h2]
  omega
end
theorem scan_count : ∀ (l : List UInt8) (i acc n k : Nat), scan i acc l = (n, k, 0) → i < k ∧ k ≤ i + l.length
  | [], i, acc, n, k, h => by simp [scan] at h
  | c :: l, i, acc, n, k, h => by
    simp only [scan] at h
    split at h
    · simp at h
    · split at h
      · have := scan_count l _ _ _ _ h
        simp only [List.length_cons]; omega
      · split at h
        · simp at h
        · simp only [Prod.mk.injEq] at h
          simp only [List.length_cons]; omega

theorem take_len {r r' : Rd} {n : Int} {t : List UInt8} (h : r.take n = (t, r')) (k : Nat) (hk : n ≤ k) : t.length ≤ k := by
  unfold Rd.take at h
  split at h
  · cases h; simp
  · split at h
    · cases h; simp
    · cases h
      simp
      omega
theorem Rd.text_long {r r1 r2 : Rd} {n most : Nat} (h : r.num = (n, r1)) (hn : n > most) (hf : r1.fail 5 = r2) : r.text most = ([], r2) := by
  simp [Rd.text, h, hn, hf]
theorem Rd.text_take {r r1 r2 : Rd} {n most : Nat} {t : List UInt8} (h : r.num = (n, r1)) (hn : ¬ n > most) (hf : r1.take n = (t, r2)) : r.text most = (t, r2) := by
  simp [Rd.text, h, hn, hf]

/-! ### big, step by step -/
structure BigInv (s : List UInt8) (i n : Nat) : Prop where
  le : i ≤ s.length
  eq : n = big (s.take i)
  lt : n < 256 ^ i
theorem big_append : ∀ (s t : List UInt8), big (s ++ t) = big s + 256 ^ s.length * big t
  | [], t => by simp [big]
  | b :: s, t => by
    simp only [List.cons_append, big, big_append s t, List.length_cons, Nat.pow_succ]
    rw [Nat.mul_add, ← Nat.mul_assoc, Nat.mul_comm 256 (256 ^ s.length)]
    omega
theorem BigInv.next {s : List UInt8} {i n : Nat} (h : BigInv s i n) (hi : i < s.length) : BigInv s (i + 1) (n + (s.getD i 0).toNat * 2 ^ (8 * i)) := by
  have hb := UInt8.toNat_lt (s.getD i 0)
  have e : (2 : Nat) ^ (8 * i) = 256 ^ i := by rw [Nat.pow_mul]
  have hl : (s.take i).length = i := by simp; omega
  refine ⟨hi, ?_, ?_⟩
  · rw [List.take_succ_eq_append_getElem hi, big_append, ← h.eq, hl, e, List.getD_eq_getElem?_getD, List.getElem?_eq_getElem hi]
    simp [big, Nat.mul_comm]
  · rw [e, Nat.pow_succ]
    have h2 := h.lt
    have h3 := Nat.mul_le_mul_right (256 ^ i) (show (s.getD i 0).toNat ≤ 255 by omega)
    omega
theorem pow256_le {i : Nat} (h : i ≤ 7) : 256 ^ i ≤ 72057594037927936 := Nat.pow_le_pow_right (n := 256) (by omega) h
theorem BigInv.fits {s : List UInt8} {i n : Nat} (h : BigInv s i n) (hi : i < s.length) (h8 : s.length ≤ 8) : (s.getD i 0).toNat * 2 ^ (8 * i) ≤ 18374686479671623680 ∧ n ≤ 72057594037927936 := by
  have hb := UInt8.toNat_lt (s.getD i 0)
  have e : (2 : Nat) ^ (8 * i) = 256 ^ i := by rw [Nat.pow_mul]
  have h1 := pow256_le (i := i) (by omega)
  have h3 := Nat.mul_le_mul (show (s.getD i 0).toNat ≤ 255 by omega) h1
  have h2 := h.lt
  rw [e]
  exact ⟨h3, by omega⟩
theorem BigInv.or {s : List UInt8} {i n : Nat} (h : BigInv s i n) (x : Nat) : n ||| x * 2 ^ (8 * i) = n + x * 2 ^ (8 * i) := by
  have h1 := h.lt
  have e : (256 : Nat) ^ i = 2 ^ (8 * i) := by rw [Nat.pow_mul]
  rw [e] at h1
  have h2 := Nat.shiftLeft_add_eq_or_of_lt h1 x
  rw [Nat.shiftLeft_eq] at h2
  rw [Nat.or_comm, ← h2]
  omega
theorem BigInv.done {s : List UInt8} {i n : Nat} (h : BigInv s i n) (hi : ¬ i < s.length) : n = big s := by
  have := h.eq
  rwa [List.take_of_length_le (by omega)] at this
/-- From the other end. -/
theorem big_drop {s : List UInt8} {j : Nat} (hj : j < s.length) : big (s.drop j) = big (s.drop (j + 1)) * 256 + (s.getD j 0).toNat := by
  rw [drop_get hj]
  simp only [big]
  omega
theorem big_drop_lt {s : List UInt8} (j : Nat) (h8 : s.length ≤ 8) : big (s.drop j) < 18446744073709551616 := by
  have h1 := big_lt (s.drop j)
  have h2 : 256 ^ (s.drop j).length ≤ 256 ^ 8 := Nat.pow_le_pow_right (by omega) (by simp; omega)
  have h3 : (256 : Nat) ^ 8 = 18446744073709551616 := rfl
  omega
theorem big8 {t : List UInt8} (h : t.length ≤ 8) : big t < 18446744073709551616 := by simpa using big_drop_lt 0 h
theorem big4 {t : List UInt8} (h : t.length ≤ 4) : big t < 4294967296 := by
  have h1 := big_lt t
  have h2 : 256 ^ t.length ≤ 256 ^ 4 := Nat.pow_le_pow_right (by omega) h
  have h3 : (256 : Nat) ^ 4 = 4294967296 := rfl
  omega

/-! ### Batches -/
structure Chg where
  kind : Int
  key : List UInt8
  val : List UInt8
deriving DecidableEq
def wrongC (k : Int) (key val : List UInt8) : Nat :=
  if k ≠ 1 ∧ k ≠ 2 then 11 else if key.length < 1 ∨ key.length > 200 then 19 else if val.length > 4096 ∨ (k = 2 ∧ val.length > 0) then 5 else 0
def firstWrong : List Chg → Nat
  | [] => 0
  | c :: l => if wrongC c.kind c.key c.val ≠ 0 then wrongC c.kind c.key c.val else firstWrong l
def checkB (seq : Nat) (l : List Chg) : Nat :=
  if l.length > 2000 then 6 else if firstWrong l ≠ 0 then firstWrong l
  else if seq > 72057594037927935 ∨ (l.length > 0 ∧ seq + l.length - 1 > 72057594037927935) then 8 else 0
theorem wrongC_le (k : Int) (key val : List UInt8) : wrongC k key val ≤ 19 := by
  unfold wrongC
  split <;> try split <;> try split
  all_goals omega
theorem firstWrong_le : ∀ l : List Chg, firstWrong l ≤ 19
  | [] => by simp [firstWrong]
  | c :: l => by
    simp only [firstWrong]
    split
    · exact wrongC_le _ _ _
    · exact firstWrong_le l
structure WrongInv (l : List Chg) (i : Nat) : Prop where
  le : i ≤ l.length
  eq : firstWrong (l.drop i) = firstWrong l
theorem WrongInv.start (l : List Chg) : WrongInv l 0 := ⟨by omega, rfl⟩
theorem WrongInv.hit {l : List Chg} {i : Nat} {x : Chg} (h : WrongInv l i) (hx : l[i]? = some x) (hw : wrongC x.kind x.key x.val ≠ 0) : firstWrong l = wrongC x.kind x.key x.val := by
  obtain ⟨hi, hx⟩ := List.getElem?_eq_some_iff.1 hx
  rw [← h.eq, List.drop_eq_getElem_cons hi, firstWrong, hx, if_pos hw]
theorem WrongInv.next {l : List Chg} {i : Nat} {x : Chg} (h : WrongInv l i) (hx : l[i]? = some x) (hw : wrongC x.kind x.key x.val = 0) : WrongInv l (i + 1) := by
  obtain ⟨hi, hx⟩ := List.getElem?_eq_some_iff.1 hx
  refine ⟨hi, ?_⟩
  rw [← h.eq, List.drop_eq_getElem_cons hi, firstWrong, hx, if_neg (by simpa using hw)]
theorem WrongInv.done {l : List Chg} {i : Nat} (h : WrongInv l i) (hi : ¬ i < l.length) : firstWrong l = 0 := by
  rw [← h.eq, List.drop_of_length_le (by omega)]; rfl
theorem wrong11 {k : Int} {key val : List UInt8} (h1 : k ≠ 1) (h2 : k ≠ 2) : wrongC k key val = 11 := by rw [wrongC, if_pos ⟨h1, h2⟩]
theorem wrong19 {k : Int} {key val : List UInt8} (h1 : ¬ (k ≠ 1 ∧ k ≠ 2)) (h2 : key.length < 1 ∨ key.length > 200) : wrongC k key val = 19 := by rw [wrongC, if_neg h1, if_pos h2]
theorem wrong5 {k : Int} {key val : List UInt8} (h1 : ¬ (k ≠ 1 ∧ k ≠ 2)) (h2 : ¬ (key.length < 1 ∨ key.length > 200)) (h3 : val.length > 4096 ∨ (k = 2 ∧ val.length > 0)) : wrongC k key val = 5 := by rw [wrongC, if_neg h1, if_neg h2, if_pos h3]
theorem wrong0 {k : Int} {key val : List UInt8} (h1 : ¬ (k ≠ 1 ∧ k ≠ 2)) (h2 : ¬ (key.length < 1 ∨ key.length > 200)) (h3 : ¬ (val.length > 4096 ∨ (k = 2 ∧ val.length > 0))) : wrongC k key val = 0 := by rw [wrongC, if_neg h1, if_neg h2, if_neg h3]
theorem empty_len {l : List UInt8} : l = [] ↔ l.length = 0 := by simp
theorem check6 {seq : Nat} {l : List Chg} (h : l.length > 2000) : checkB seq l = 6 := by rw [checkB, if_pos h]
theorem checkW {seq : Nat} {l : List Chg} {n : Nat} (h : ¬ l.length > 2000) (hw : firstWrong l = n) (hn : n ≠ 0) : checkB seq l = n := by rw [checkB, if_neg h, hw, if_pos hn]
theorem check8 {seq : Nat} {l : List Chg} (h : ¬ l.length > 2000) (hw : firstWrong l = 0) (h8 : seq > 72057594037927935 ∨ (l.length > 0 ∧ seq + l.length - 1 > 72057594037927935)) : checkB seq l = 8 := by
  rw [checkB, if_neg h, if_neg (by simpa using hw), if_pos h8]
theorem check0 {seq : Nat} {l : List Chg} (h : ¬ l.length > 2000) (hw : firstWrong l = 0) (h8 : ¬ (seq > 72057594037927935 ∨ (l.length > 0 ∧ seq + l.length - 1 > 72057594037927935))) : checkB seq l = 0 := by
  rw [checkB, if_neg h, if_neg (by simpa using hw), if_neg h8]

/-! ### Two rows held against each other -/
structure EqInv {α : Type} (a b : List α) (i : Nat) : Prop where
  len : a.length = b.length
  le : i ≤ a.length
  eq : a.take i = b.take i
section
variable {α : Type} {a b : List α} {i : Nat}
theorem EqInv.start (h : a.length = b.length) : EqInv a b 0 := ⟨h, by omega, by simp⟩
theorem EqInv.next (h : EqInv a b i) {x y : α} (hx : a[i]? = some x) (hy : b[i]? = some y) (he : x = y) : EqInv a b (i + 1) := by
  refine ⟨h.len, (List.getElem?_eq_some_iff.1 hx).1, ?_⟩
  rw [List.take_add_one, List.take_add_one, h.eq, hx, hy, he]
theorem EqInv.done (h : EqInv a b i) (hi : ¬ i < a.length) : a = b := by
  have := h.eq
  have h2 := h.len
  rwa [List.take_of_length_le (by omega), List.take_of_length_le (by omega)] at this
theorem ne_at {x y : α} (hx : a[i]? = some x) (hy : b[i]? = some y) (he : ¬ x = y) : ¬ a = b := fun e => by
  subst e
  rw [hx] at hy
  exact he (Option.some.inj hy)
theorem ne_len (h : ¬ a.length = b.length) : ¬ a = b := fun e => h (by rw [e])
end

/-! ### A batch read -/
def Rd.mid (r : Rd) (k : Nat) : Rd := if r.e = 0 ∧ k ≠ 1 ∧ k ≠ 2 then r.fail 11 else r
def Rd.change (r : Rd) : Chg × Rd :=
  if big (r.take 1).1 = 1 then
    (⟨(1 : Int), (((r.take 1).2.mid 1).text 200).1, ((((r.take 1).2.mid 1).text 200).2.text 4096).1⟩, ((((r.take 1).2.mid 1).text 200).2.text 4096).2)
  else (⟨(big (r.take 1).1 : Int), (((r.take 1).2.mid (big (r.take 1).1)).text 200).1, []⟩, (((r.take 1).2.mid (big (r.take 1).1)).text 200).2)
theorem Rd.change_of {r r1 r2 r3 r4 : Rd} {t key val : List UInt8} {k : Nat} (h1 : r.take 1 = (t, r1)) (h3 : r2.text 200 = (key, r3)) (hv : (k = 1 ∧ r3.text 4096 = (val, r4)) ∨ (k ≠ 1 ∧ val = [] ∧ r4 = r3))
    (hk : k = big t) (h2 : r1.mid k = r2) : r.change = (⟨(k : Int), key, val⟩, r4) := by
  unfold Rd.change
  rw [h1]
  simp only []
  rw [← hk]
  rcases hv with ⟨e, hv⟩ | ⟨e, rfl, rfl⟩
  · subst e
    rw [if_pos rfl, h2, h3, hv]
    rfl
  · rw [if_neg e, h2, h3]
theorem Rd.mid_fail {r r' : Rd} {k : Nat} (h : r.e = 0) (h1 : k ≠ 1) (h2 : k ≠ 2) (hf : r.fail 11 = r') : r.mid k = r' := by rw [Rd.mid, if_pos ⟨h, h1, h2⟩, hf]
theorem Rd.mid_same {r : Rd} {k : Nat} (h : ¬ (r.e = 0 ∧ k ≠ 1 ∧ k ≠ 2)) : r.mid k = r := by rw [Rd.mid, if_neg h]
theorem big_one {t : List UInt8} (h : t.length ≤ 1) (h0 : ¬ t = []) : (t.getD 0 0).toNat = big t := by
  match t, h, h0 with
  | [b], _, _ => simp [big]
theorem big_none {t : List UInt8} (h : ¬ ¬ t = []) : 0 = big t := by
  have : t = [] := Decidable.of_not_not h
  subst this; rfl

/-- So many changes, or up to an error. -/
def parseGo : Nat → Rd → List Chg × Rd
  | 0, r => ([], r)
  | n + 1, r => if r.e ≠ 0 then ([], r) else (r.change.1 :: (parseGo n r.change.2).1, (parseGo n r.change.2).2)
structure ParseInv (n : Nat) (r0 : Rd) (i : Nat) (l : List Chg) (r : Rd) : Prop where
  le : i ≤ n
  len : l.length = i
  ok : ∀ x ∈ l, x.key.length ≤ 200 ∧ x.val.length ≤ 4096
  eq : parseGo n r0 = (l ++ (parseGo (n - i) r).1, (parseGo (n - i) r).2)
theorem ParseInv.start (n : Nat) (r : Rd) : ParseInv n r 0 [] r := ⟨by omega, rfl, by simp, by simp⟩
theorem ParseInv.next {n i : Nat} {r0 r r' : Rd} {l : List Chg} {c : Chg} (h : ParseInv n r0 i l r) (hi : i < n) (he : r.e = 0) (hc : r.change = (c, r')) (hl : c.key.length ≤ 200 ∧ c.val.length ≤ 4096) : ParseInv n r0 (i + 1) (l ++ [c]) r' := by
  refine ⟨hi, by simp [h.len], ?_, ?_⟩
  · intro x hx
    rcases List.mem_append.1 hx with hx | hx
    · exact h.ok x hx
    · rw [List.mem_singleton.1 hx]; exact hl
  · rw [h.eq, show n - i = (n - (i + 1)) + 1 by omega, parseGo, if_neg (by simpa using he), hc]
    simp
theorem ParseInv.done {n i : Nat} {r0 r : Rd} {l : List Chg} (h : ParseInv n r0 i l r) (hi : ¬ (i < n ∧ r.e = 0)) : parseGo n r0 = (l, r) := by
  rw [h.eq]
  cases hm : n - i with
  | zero => simp [parseGo]
  | succ m =>
    rw [parseGo, if_pos (by omega)]
    simp
def parse (s : List UInt8) : Nat × Nat × List Chg :=
  let p1 := Rd.take ⟨s, 0, 0⟩ 8
  let p2 := p1.2.num
  let r3 := if p2.1 > 2000 then p2.2.fail 6 else p2.2
  let p4 := parseGo p2.1 r3
  let e := p4.2.stop
  let e2 := if e = 0 then checkB (big p1.1) p4.1 else e
  if e2 ≠ 0 then (e2, 0, []) else (0, big p1.1, p4.1)
theorem parse_of {s t : List UInt8} {r1 r2 r3 r4 : Rd} {n e e2 : Nat} {l : List Chg} (h1 : Rd.take ⟨s, 0, 0⟩ 8 = (t, r1)) (h2 : r1.num = (n, r2)) (h3 : (n > 2000 ∧ r2.fail 6 = r3) ∨ (¬ n > 2000 ∧ r3 = r2))
    (h4 : parseGo n r3 = (l, r4)) (he : e = r4.stop) (he2 : (e = 0 ∧ e2 = checkB (big t) l) ∨ (e ≠ 0 ∧ e2 = e)) : parse s = if e2 ≠ 0 then (e2, 0, []) else (0, big t, l) := by
  have h3' : (if n > 2000 then r2.fail 6 else r2) = r3 := by
    rcases h3 with ⟨h, hf⟩ | ⟨h, rfl⟩
    · rw [if_pos h, hf]
    · rw [if_neg h]
  have he2' : (if e = 0 then checkB (big t) l else e) = e2 := by
    rcases he2 with ⟨h, rfl⟩ | ⟨h, rfl⟩
    · rw [if_pos h]
    · rw [if_neg h]
  unfold parse
  simp only [h1, h2, h3', h4, ← he, he2']
theorem fail_ne {r : Rd} {s : List UInt8} {a e c : Nat} (h : r.fail c = ⟨s, a, e⟩) (hc : c ≠ 0) : e ≠ 0 := by
  unfold Rd.fail at h
  split at h
  · cases h; exact hc
  · rename_i h0
    rw [h] at h0
    exact h0
theorem checkB_le (seq : Nat) (l : List Chg) : checkB seq l ≤ 19 := by
  unfold checkB
  have := firstWrong_le l
  split <;> try split <;> try split
  all_goals omega
theorem check_len {seq : Nat} {l : List Chg} (h : checkB seq l = 0) : l.length ≤ 2000 := by
  unfold checkB at h
  split at h
  · cases h
  · omega
theorem check_seq {seq : Nat} {l : List Chg} (h : checkB seq l = 0) : seq ≤ 72057594037927935 := by
  unfold checkB at h
  split at h
  · omega
  · split at h
    · omega
    · split at h
      · omega
      · omega
theorem big1 {t : List UInt8} (h : t.length ≤ 1) : big t < 256 := by
  have h1 := big_lt t
  have h2 : 256 ^ t.length ≤ 256 ^ 1 := Nat.pow_le_pow_right (by omega) h
  omega

/-! ### Zeros taken off -/
theorem right_step {s0 s : List UInt8} {k : Nat} (h : s0 = s ++ List.replicate k 0) (hl : 0 < s.length) (hz : (s.getD (s.length - 1) 0).toNat = 0) : s0 = (s.take (s.length - 1)).drop 0 ++ List.replicate (k + 1) 0 := by
  have e : s = s.take (s.length - 1) ++ [0] := by
    have h1 : s.drop (s.length - 1) = [0] := by
      rw [drop_get (by omega), List.drop_of_length_le (by omega)]
      have : s.getD (s.length - 1) 0 = 0 := by
        rw [← UInt8.toNat_inj, hz]; rfl
      rw [this]
    rw [← h1, List.take_append_drop]
  rw [List.drop_zero, h, List.replicate_succ, ← List.singleton_append, ← List.append_assoc, ← e]
theorem left_step {s0 s : List UInt8} {k : Nat} (h : s0 = List.replicate k 0 ++ s) (hl : 0 < s.length) (hz : (s.getD 0 0).toNat = 0) : s0 = List.replicate (k + 1) 0 ++ (s.take s.length).drop 1 := by
  have e : s = [0] ++ s.drop 1 := by
    have h1 := drop_get (s := s) (j := 0) hl
    have : s.getD 0 0 = 0 := by
      rw [← UInt8.toNat_inj, hz]; rfl
    rw [List.drop_zero, this] at h1
    exact h1
  rw [List.take_of_length_le (Nat.le_refl _), List.replicate_succ', List.append_assoc, ← e]
  exact h
theorem trim_iff {s t1 t : List UInt8} {k j : Nat} (h1 : s = t1 ++ List.replicate k 0) (h2 : t1 = List.replicate j 0 ++ t) (h3 : t = [] ∨ (t.getD 0 0).toNat ≠ 0) : t = [] ↔ ∀ b ∈ s, b = 0 := by
  constructor
  · rintro rfl b hb
    rw [h1, h2] at hb
    simp only [List.append_nil, List.mem_append] at hb
    rcases hb with hb | hb <;> exact (List.mem_replicate.1 hb).2
  · intro h
    rcases h3 with h3 | h3
    · exact h3
    · match t, h2, h3 with
      | [], _, _ => rfl
      | b :: t, h2, h3 =>
        have : b = 0 := h b (by rw [h1, h2]; simp)
        subst this
        exact absurd rfl h3

/-! ### A piece of a record -/
def padN (a : Nat) : Nat := if 512 - a % 512 < 7 then 512 - a % 512 else 0
def cut (log : List UInt8) (i j : Nat) : List UInt8 := (log.take j).drop i
def byteAt (log : List UInt8) (i : Nat) : Nat := (log.getD i 0).toNat
/-- What stands at a place that is no padding: its kind, its bytes, where it ends. -/
def pieceAt (log : List UInt8) (a : Nat) : Nat × List UInt8 × Nat :=
  if byteAt log (a + 6) < 1 ∨ byteAt log (a + 6) > 4 ∨ byteAt log (a + 4) + 256 * byteAt log (a + 5) + 7 > 512 - a % 512 ∨ a + 7 + (byteAt log (a + 4) + 256 * byteAt log (a + 5)) > log.length then (0, [], 0)
  else if crcMask (crcOf ([log.getD (a + 6) 0] ++ cut log (a + 7) (a + 7 + (byteAt log (a + 4) + 256 * byteAt log (a + 5))))) ≠ big (cut log a (a + 4)) then (0, [], 0)
  else (byteAt log (a + 6), cut log (a + 7) (a + 7 + (byteAt log (a + 4) + 256 * byteAt log (a + 5))), a + 7 + (byteAt log (a + 4) + 256 * byteAt log (a + 5)))
def pieceD (log : List UInt8) (at_ : Nat) : Nat × List UInt8 × Nat :=
  if at_ + padN at_ + 7 > log.length then (0, [], 0)
  else if ¬ ∀ b ∈ cut log at_ (at_ + padN at_), b = 0 then (0, [], 0)
  else pieceAt log (at_ + padN at_)
section
variable {log : List UInt8} {at_ : Nat}
theorem piece_short (h : at_ + padN at_ + 7 > log.length) : pieceD log at_ = (0, [], 0) := by rw [pieceD, if_pos h]
theorem piece_dirty (h : ¬ at_ + padN at_ + 7 > log.length) (h2 : ¬ ∀ b ∈ cut log at_ (at_ + padN at_), b = 0) : pieceD log at_ = (0, [], 0) := by rw [pieceD, if_neg h, if_pos h2]
theorem piece_at (h : ¬ at_ + padN at_ + 7 > log.length) (h2 : ∀ b ∈ cut log at_ (at_ + padN at_), b = 0) : pieceD log at_ = pieceAt log (at_ + padN at_) := by
  rw [pieceD, if_neg h, if_neg]
  exact fun h3 => h3 h2
end
theorem or_shift (a b : Nat) (h : a < 256) : a ||| b * 2 ^ 8 = a + 256 * b := by
  have h2 := Nat.shiftLeft_add_eq_or_of_lt (i := 8) (b := a) h b
  rw [Nat.shiftLeft_eq] at h2
  rw [Nat.or_comm, ← h2]
  omega
theorem padN_le (a : Nat) : padN a ≤ 6 := by unfold padN; split <;> omega
theorem take_fixed {s t : List UInt8} {r : Rd} (h : Rd.take ⟨s, 0, 0⟩ 4 = (t, r)) (h4 : 4 ≤ s.length) : t = s.take 4 := by
  unfold Rd.take at h
  rw [if_neg (by simp), if_neg (by simp; omega)] at h
  cases h
  simp
theorem cut_take4 {log : List UInt8} {a : Nat} : ((log.take (a + 7)).drop a).take 4 = cut log a (a + 4) := by
  unfold cut
  rw [List.drop_take, List.drop_take, List.take_take]
  congr 1
  omega

/-! ### A record -/
theorem pieceAt_to {log t : List UInt8} {a k z : Nat} (h : pieceAt log a = (k, t, z)) (hk : k ≠ 0) : a + 7 + t.length ≤ z ∧ z ≤ log.length := by
  unfold pieceAt at h
  split at h
  · cases h; exact absurd rfl hk
  · split at h
    · cases h; exact absurd rfl hk
    · cases h
      simp only [cut, List.length_drop, List.length_take]
      omega
theorem pieceD_to {log t : List UInt8} {a k z : Nat} (h : pieceD log a = (k, t, z)) (hk : k ≠ 0) : a + 7 + t.length ≤ z ∧ z ≤ log.length := by
  unfold pieceD at h
  split at h
  · cases h; exact absurd rfl hk
  · split at h
    · cases h; exact absurd rfl hk
    · have := pieceAt_to h hk
      omega
def recF : Nat → List UInt8 → Nat → Bool → List UInt8 → List UInt8 × Nat
  | 0, _, _, _, _ => ([], 0)
  | f + 1, log, a, bg, acc =>
    if (pieceD log a).1 = 0 ∨ (decide ((pieceD log a).1 = 1 ∨ (pieceD log a).1 = 2)) ≠ bg then ([], 0)
    else if (pieceD log a).1 = 2 ∨ (pieceD log a).1 = 3 then recF f log (pieceD log a).2.2 false (acc ++ (pieceD log a).2.1)
    else (acc ++ (pieceD log a).2.1, (pieceD log a).2.2)
theorem recF_fuel (log : List UInt8) : ∀ (f g a : Nat) (bg : Bool) (acc : List UInt8), log.length < f + a → log.length < g + a → a ≤ log.length → recF f log a bg acc = recF g log a bg acc
  | 0, _, _, _, _, h, _, h3 => by omega
  | _ + 1, 0, _, _, _, _, h, h3 => by omega
  | f + 1, g + 1, a, bg, acc, h1, h2, h3 => by
    simp only [recF]
    split
    · rfl
    · rename_i hk
      split
      · have := pieceD_to (log := log) (a := a) (k := (pieceD log a).1) (t := (pieceD log a).2.1) (z := (pieceD log a).2.2) rfl (by omega)
        exact recF_fuel log f g _ _ _ (by omega) (by omega) (by omega)
      · rfl
def recordF (log : List UInt8) (a : Nat) : List UInt8 × Nat := recF (log.length + 1) log a true []
structure RecInv (log : List UInt8) (a0 a : Nat) (bg : Bool) (acc : List UInt8) : Prop where
  le : a ≤ log.length
  len : acc.length ≤ a
  eq : recF (log.length + 1) log a bg acc = recordF log a0
section
variable {log t acc : List UInt8} {a0 a k z : Nat} {bg : Bool}
theorem RecInv.start (h : a ≤ log.length) : RecInv log a a true [] := ⟨h, by simp, rfl⟩
theorem RecInv.step (h : RecInv log a0 a bg acc) (hp : pieceD log a = (k, t, z)) : recordF log a0 =
    if k = 0 ∨ (decide (k = 1 ∨ k = 2)) ≠ bg then ([], 0) else if k = 2 ∨ k = 3 then recF log.length log z false (acc ++ t) else (acc ++ t, z) := by
  rw [← h.eq]
  simp only [recF, hp]
theorem RecInv.none (h : RecInv log a0 a bg acc) (hp : pieceD log a = (k, t, z)) (hb : k = 0 ∨ (decide (k = 1 ∨ k = 2)) ≠ bg) : recordF log a0 = ([], 0) := by rw [h.step hp, if_pos hb]
theorem RecInv.next (h : RecInv log a0 a bg acc) (hp : pieceD log a = (k, t, z)) (hb : ¬ (k = 0 ∨ (decide (k = 1 ∨ k = 2)) ≠ bg)) (hk : k = 2 ∨ k = 3) : RecInv log a0 z false (acc ++ t) := by
  obtain ⟨h1, h2⟩ := pieceD_to hp (by omega)
  refine ⟨h2, by have := h.len; simp; omega, ?_⟩
  rw [h.step hp, if_neg hb, if_pos hk]
  exact recF_fuel log _ _ _ _ _ (by omega) (by omega) h2
theorem RecInv.done (h : RecInv log a0 a bg acc) (hp : pieceD log a = (k, t, z)) (hb : ¬ (k = 0 ∨ (decide (k = 1 ∨ k = 2)) ≠ bg)) (hk : ¬ (k = 2 ∨ k = 3)) : recordF log a0 = (acc ++ t, z) := by
  rw [h.step hp, if_neg hb, if_neg hk]
theorem recF_to (log : List UInt8) : ∀ (f a : Nat) (bg : Bool) (acc u : List UInt8) (z : Nat), recF f log a bg acc = (u, z) → z ≠ 0 → a < z ∧ z ≤ log.length ∧ u.length + a ≤ z + acc.length
  | 0, _, _, _, _, _, h, hz => by cases h; exact absurd rfl hz
  | f + 1, a, bg, acc, u, z, h, hz => by
    simp only [recF] at h
    split at h
    · cases h; exact absurd rfl hz
    · rename_i hk
      obtain ⟨h1, h2⟩ := pieceD_to (log := log) (a := a) (k := (pieceD log a).1) (t := (pieceD log a).2.1) (z := (pieceD log a).2.2) rfl (by omega)
      split at h
      · have := recF_to log f _ _ _ _ _ h hz
        simp only [List.length_append] at this
        omega
      · cases h
        simp only [List.length_append]
        omega
theorem record_to {u : List UInt8} (h : recordF log a = (u, z)) (hz : z ≠ 0) : a < z ∧ z ≤ log.length ∧ u.length ≤ z := by
  have := recF_to log _ _ _ _ _ _ h hz
  simp at this
  omega
end

/-! ### Records one behind the other -/
def recsF : Nat → List UInt8 → Nat → List (List UInt8 × Nat)
  | 0, _, _ => []
  | f + 1, log, a => if (recordF log a).2 = 0 then [] else recordF log a :: recsF f log (recordF log a).2
def recs (log : List UInt8) : List (List UInt8 × Nat) := recsF (log.length + 1) log 0
theorem recsF_fuel (log : List UInt8) : ∀ (f g a : Nat), log.length < f + a → log.length < g + a → a ≤ log.length → recsF f log a = recsF g log a
  | 0, _, _, h, _, h3 => by omega
  | _ + 1, 0, _, _, h, h3 => by omega
  | f + 1, g + 1, a, h1, h2, h3 => by
    simp only [recsF]
    split
    · rfl
    · rename_i hz
      have := record_to (log := log) (a := a) (u := (recordF log a).1) (z := (recordF log a).2) rfl hz
      rw [recsF_fuel log f g _ (by omega) (by omega) (by omega)]
/-- What is still told from a place within a record, or between two. -/
def restOf (log : List UInt8) (a : Nat) (bg : Bool) (acc : List UInt8) : List (List UInt8 × Nat) :=
  if (recF (log.length + 1) log a bg acc).2 = 0 then [] else recF (log.length + 1) log a bg acc :: recsF (log.length + 1) log (recF (log.length + 1) log a bg acc).2
theorem restOf_start (log : List UInt8) : restOf log 0 true [] = recs log := by
  unfold restOf recs
  rw [show recF (log.length + 1) log 0 true [] = recordF log 0 from rfl]
  conv => rhs; rw [recsF]
  split
  · rfl
  · rename_i hz
    have := record_to (log := log) (a := 0) (u := (recordF log 0).1) (z := (recordF log 0).2) rfl hz
    rw [recsF_fuel log (log.length + 1) log.length _ (by omega) (by omega) (by omega)]
theorem piece_pad {log : List UInt8} {a : Nat} (h : 512 - a % 512 < 7) (hl : a < log.length) (hz : (log.getD a 0).toNat = 0) : pieceD log a = pieceD log (a + 1) := by
  have e : a + padN a = a + 1 + padN (a + 1) := by
    unfold padN
    by_cases h1 : a % 512 = 511
    · have : (a + 1) % 512 = 0 := by omega
      rw [if_pos h, if_neg (by omega)]; omega
    · have : (a + 1) % 512 = a % 512 + 1 := by omega
      rw [if_pos h, if_pos (by omega)]; omega
  unfold pieceD
  rw [e]
  by_cases hs : a + 1 + padN (a + 1) + 7 > log.length
  · rw [if_pos hs, if_pos hs]
  · rw [if_neg hs, if_neg hs]
    have hc : (∀ b ∈ cut log a (a + 1 + padN (a + 1)), b = 0) ↔ (∀ b ∈ cut log (a + 1) (a + 1 + padN (a + 1)), b = 0) := by
      unfold cut
      have hd := drop_get (s := log.take (a + 1 + padN (a + 1))) (j := a) (by simp; omega)
      have hg : (log.take (a + 1 + padN (a + 1))).getD a 0 = log.getD a 0 := by
        rw [List.getD_eq_getElem?_getD, List.getD_eq_getElem?_getD, List.getElem?_take_of_lt (by omega)]
      rw [hd, hg]
      have h0 : log.getD a 0 = 0 := by rw [← UInt8.toNat_inj, hz]; rfl
      simp only [h0, List.mem_cons, forall_eq_or_imp, true_and]
    by_cases hq : ∀ b ∈ cut log (a + 1) (a + 1 + padN (a + 1)), b = 0
    · rw [if_neg (fun h => h (hc.2 hq)), if_neg (fun h => h hq)]
    · rw [if_pos (fun h => hq (hc.1 h)), if_pos hq]
theorem restOf_pad {log acc : List UInt8} {a : Nat} {bg : Bool} (h : 512 - a % 512 < 7) (hl : a < log.length) (hz : (log.getD a 0).toNat = 0) : restOf log a bg acc = restOf log (a + 1) bg acc := by
  unfold restOf
  have : recF (log.length + 1) log a bg acc = recF (log.length + 1) log (a + 1) bg acc := by
    simp only [recF, piece_pad h hl hz]
  rw [this]
theorem restOf_none {log acc : List UInt8} {a : Nat} {bg : Bool} (h : (pieceD log a).1 = 0) : restOf log a bg acc = [] := by
  unfold restOf
  rw [if_pos]
  simp only [recF]
  rw [if_pos (.inl h)]
theorem restOf_wrong {log acc t : List UInt8} {a k z : Nat} {bg : Bool} (hp : pieceD log a = (k, t, z)) (h : (decide (k = 1 ∨ k = 2)) ≠ bg) : restOf log a bg acc = [] := by
  unfold restOf
  rw [if_pos]
  simp only [recF, hp]
  rw [if_pos (.inr h)]
theorem restOf_more {log acc t : List UInt8} {a k z : Nat} {bg : Bool} (ha : a ≤ log.length) (hp : pieceD log a = (k, t, z)) (hb : ¬ (k = 0 ∨ (decide (k = 1 ∨ k = 2)) ≠ bg)) (hk : k = 2 ∨ k = 3) : restOf log a bg acc = restOf log z false (acc ++ t) := by
  obtain ⟨h1, h2⟩ := pieceD_to hp (by omega)
  have e : recF (log.length + 1) log a bg acc = recF (log.length + 1) log z false (acc ++ t) := by
    rw [recF]
    simp only [hp]
    rw [if_neg hb, if_pos hk]
    exact recF_fuel log _ _ _ _ _ (by omega) (by omega) h2
  unfold restOf
  rw [e]
theorem restOf_rec {log acc t : List UInt8} {a k z : Nat} {bg : Bool} (ha : a ≤ log.length) (hp : pieceD log a = (k, t, z)) (hb : ¬ (k = 0 ∨ (decide (k = 1 ∨ k = 2)) ≠ bg)) (hk : ¬ (k = 2 ∨ k = 3)) : restOf log a bg acc = (acc ++ t, z) :: restOf log z true [] := by
  obtain ⟨h1, h2⟩ := pieceD_to hp (by omega)
  have e : recF (log.length + 1) log a bg acc = (acc ++ t, z) := by
    rw [recF]
    simp only [hp]
    rw [if_neg hb, if_neg hk]
  have e2 : recsF (log.length + 1) log z = restOf log z true [] := by
    unfold restOf
    rw [show recF (log.length + 1) log z true [] = recordF log z from rfl]
    conv => lhs; rw [recsF]
    split
    · rfl
    · rename_i hz
      have := record_to (log := log) (a := z) (u := (recordF log z).1) (z := (recordF log z).2) rfl hz
      rw [recsF_fuel log (log.length + 1) log.length _ (by omega) (by omega) (by omega)]
  unfold restOf
  rw [e, if_neg (by simp only []; omega)]
  rw [e2]
  rfl

theorem padN_zero {a : Nat} (h : ¬ 512 - a % 512 < 7) : padN a = 0 := by rw [padN, if_neg h]
theorem piece_over {log : List UInt8} {a : Nat} (h : a ≥ log.length) : (pieceD log a).1 = 0 := by rw [piece_short (by omega)]
theorem piece_nz {log : List UInt8} {a : Nat} (h7 : 512 - a % 512 < 7) (hl : a < log.length) (hz : ¬ (log.getD a 0).toNat = 0) : (pieceD log a).1 = 0 := by
  have hp : 1 ≤ padN a := by rw [padN, if_pos h7]; omega
  by_cases hs : a + padN a + 7 > log.length
  · rw [piece_short hs]
  · rw [piece_dirty hs]
    intro h
    have hm : log.getD a 0 ∈ cut log a (a + padN a) := by
      unfold cut
      have hd := drop_get (s := log.take (a + padN a)) (j := a) (by simp; omega)
      have hg : (log.take (a + padN a)).getD a 0 = log.getD a 0 := by
        rw [List.getD_eq_getElem?_getD, List.getD_eq_getElem?_getD, List.getElem?_take_of_lt (by omega)]
      rw [hd, hg]; simp
    exact hz (by rw [h _ hm]; rfl)
theorem piece_here {log : List UInt8} {a : Nat} (h7 : ¬ 512 - a % 512 < 7) (hl : ¬ a + 7 > log.length) : pieceD log a = pieceAt log a := by
  have e := padN_zero h7
  rw [piece_at (by rw [e]; omega) (by rw [e]; unfold cut; simp), e]
  rfl
theorem piece_gone {log : List UInt8} {a : Nat} (hl : a + 7 > log.length) : (pieceD log a).1 = 0 := by rw [piece_short (by omega)]
theorem little_eq {n : Nat} {s : List UInt8} (hn : n < 4294967296) (hs : s.length = 4) : little 4 n = s ↔ n = big s := by
  constructor
  · intro h
    have := big_little 4 n
    rw [h] at this
    rw [this]; exact (Nat.mod_eq_of_lt hn).symm
  · intro h
    have := little_big s
    rw [hs, ← h] at this
    exact this
section
variable {log : List UInt8} {p : Nat}
theorem here_bad (h7 : ¬ 512 - p % 512 < 7) (hl : ¬ p + 7 > log.length) (hb : (log.getD (p + 6) 0).toNat < 1 ∨ (log.getD (p + 6) 0).toNat > 4 ∨ (log.getD (p + 4) 0).toNat + 256 * (log.getD (p + 5) 0).toNat + 7 > 512 - p % 512 ∨ p + 7 + ((log.getD (p + 4) 0).toNat + 256 * (log.getD (p + 5) 0).toNat) > log.length) : (pieceD log p).1 = 0 := by
  rw [piece_here h7 hl]; unfold pieceAt byteAt; rw [if_pos hb]
theorem here_sum (h7 : ¬ 512 - p % 512 < 7) (hl : ¬ p + 7 > log.length) (hb : ¬ ((log.getD (p + 6) 0).toNat < 1 ∨ (log.getD (p + 6) 0).toNat > 4 ∨ (log.getD (p + 4) 0).toNat + 256 * (log.getD (p + 5) 0).toNat + 7 > 512 - p % 512 ∨ p + 7 + ((log.getD (p + 4) 0).toNat + 256 * (log.getD (p + 5) 0).toNat) > log.length))
    (hs : ¬ little 4 (crcMask (crcOf ([log.getD (p + 6) 0] ++ (log.take (p + 7 + ((log.getD (p + 4) 0).toNat + 256 * (log.getD (p + 5) 0).toNat))).drop (p + 7)))) = (log.take (p + 4)).drop p) : (pieceD log p).1 = 0 := by
  rw [piece_here h7 hl]; unfold pieceAt byteAt; rw [if_neg hb, if_pos]
  intro h
  exact hs ((little_eq (crcMask_lt _) (by simp [cut]; omega)).2 h)
theorem here_ok (h7 : ¬ 512 - p % 512 < 7) (hl : ¬ p + 7 > log.length) (hb : ¬ ((log.getD (p + 6) 0).toNat < 1 ∨ (log.getD (p + 6) 0).toNat > 4 ∨ (log.getD (p + 4) 0).toNat + 256 * (log.getD (p + 5) 0).toNat + 7 > 512 - p % 512 ∨ p + 7 + ((log.getD (p + 4) 0).toNat + 256 * (log.getD (p + 5) 0).toNat) > log.length))
    (hs : little 4 (crcMask (crcOf ([log.getD (p + 6) 0] ++ (log.take (p + 7 + ((log.getD (p + 4) 0).toNat + 256 * (log.getD (p + 5) 0).toNat))).drop (p + 7)))) = (log.take (p + 4)).drop p) :
    pieceD log p = ((log.getD (p + 6) 0).toNat, (log.take (p + 7 + ((log.getD (p + 4) 0).toNat + 256 * (log.getD (p + 5) 0).toNat))).drop (p + 7), p + 7 + ((log.getD (p + 4) 0).toNat + 256 * (log.getD (p + 5) 0).toNat)) := by
  rw [piece_here h7 hl]; unfold pieceAt byteAt; rw [if_neg hb, if_neg]
  · rfl
  · exact fun h => h ((little_eq (crcMask_lt _) (by simp [cut]; omega)).1 hs)
end
theorem kind_w {k : Nat} {w : Bool} (h : w = decide (k > 2)) (h1 : 1 ≤ k) (h4 : k ≤ 4) : ¬ (k = 0 ∨ (decide (k = 1 ∨ k = 2)) ≠ !w) := by
  subst h
  have : k = 1 ∨ k = 2 ∨ k = 3 ∨ k = 4 := by omega
  rcases this with rfl | rfl | rfl | rfl <;> simp
end Go.Sep
