/- Logs, in plain Lean: numbers' bytes, batches' bytes, names, records that are laid. No condition. -/
import Derived.Test.YtooncojgfdcjeaaGreatDoorDk
import Derived.Lib.MakeNoZero
import Derived.Laws.Externs
namespace Go.Sep
open Go

/-! ### Numbers -/
def numG : Nat → Nat → List UInt8
  | 0, _ => []
  | f + 1, n => if n ≥ 128 then UInt8.ofNat (n % 128 + 128) :: numG f (n / 128) else [UInt8.ofNat n]
/-- A number's bytes. -/
def numB (n : Nat) : List UInt8 := numG 10 n
theorem numG_fuel : ∀ (f g n : Nat), n < 128 ^ f → n < 128 ^ g → 0 < f → 0 < g → numG f n = numG g n
  | 0, _, _, _, _, h, _ => by omega
  | _ + 1, 0, _, _, _, _, h => by omega
  | f + 1, g + 1, n, h1, h2, _, _ => by
    simp only [numG]
    split
    · rename_i hn
      have e1 : 128 ^ (f + 1) = 128 ^ f * 128 := by rw [Nat.pow_succ]
      have e2 : 128 ^ (g + 1) = 128 ^ g * 128 := by rw [Nat.pow_succ]
      have hf : 0 < f := by
        rcases Nat.eq_zero_or_pos f with rfl | h
        · simp at h1; omega
        · exact h
      have hg : 0 < g := by
        rcases Nat.eq_zero_or_pos g with rfl | h
        · simp at h2; omega
        · exact h
      rw [numG_fuel f g (n / 128) (by omega) (by omega) hf hg]
    · rfl
def NumInv (n0 n : Nat) (out : List UInt8) : Prop := n < 18446744073709551616 ∧ out.length ≤ 9 ∧ n < 128 ^ (10 - out.length) ∧ out ++ numG (10 - out.length) n = numB n0
theorem NumInv.start {n : Nat} (h : n < 18446744073709551616) : NumInv n n [] := ⟨h, by simp, by simp; omega, by simp [numB]⟩
theorem NumInv.next {n0 n : Nat} {out : List UInt8} (h : NumInv n0 n out) (hn : n ≥ 128) : NumInv n0 (n / 2 ^ 7) (out ++ [UInt8.ofNat (n % 2 ^ 8 ||| 128)]) := by
  obtain ⟨h1, h2, h3, h4⟩ := h
  have e0 : n / 2 ^ 7 = n / 128 := rfl
  have hlen : out.length ≤ 8 := by
    refine Decidable.of_not_not fun hl => ?_
    have : out.length = 9 := by omega
    rw [this] at h3
    simp at h3
    omega
  have e1 : 10 - out.length = (10 - (out.length + 1)) + 1 := by omega
  rw [e1] at h3 h4
  rw [Nat.pow_succ] at h3
  simp only [numG, if_pos hn] at h4
  have e2 : n % 2 ^ 8 ||| 128 = n % 128 + 128 ∨ True := .inr trivial
  have e3 : UInt8.ofNat (n % 2 ^ 8 ||| 128) = UInt8.ofNat (n % 128 + 128) := by
    have hor : n % 2 ^ 8 ||| 128 = n % 128 + 128 := by
      have h256 : n % 2 ^ 8 = n % 128 + 128 * (n / 128 % 2) := by omega
      have h7 : n % 128 < 2 ^ 7 := by omega
      have hb : n / 128 % 2 = 0 ∨ n / 128 % 2 = 1 := by omega
      have hk : n % 128 ||| 128 = n % 128 + 128 := by
        have h8 := Nat.two_pow_add_eq_or_of_lt h7 1
        rw [show (2 ^ 7 * 1 : Nat) = 128 from rfl] at h8
        rw [Nat.or_comm]
        omega
      rcases hb with hb | hb
      · rw [h256, hb, Nat.mul_zero, Nat.add_zero]; exact hk
      · rw [h256, hb, Nat.mul_one, ← hk, Nat.or_assoc, Nat.or_self]
    rw [hor]
  have hl2 : (out ++ [UInt8.ofNat (n % 2 ^ 8 ||| 128)]).length = out.length + 1 := by simp
  refine ⟨by omega, by omega, by rw [hl2]; omega, ?_⟩
  rw [hl2, ← h4, List.append_assoc, e3, e0]
  rfl
theorem NumInv.done {n0 n : Nat} {out : List UInt8} (h : NumInv n0 n out) (hn : ¬ n ≥ 128) : out ++ [UInt8.ofNat (n % 2 ^ 8)] = numB n0 := by
  obtain ⟨h1, h2, h3, h4⟩ := h
  have e1 : 10 - out.length = (10 - (out.length + 1)) + 1 := by omega
  rw [e1] at h4
  simp only [numG, if_neg hn] at h4
  rw [← h4, show n % 2 ^ 8 = n by omega]
theorem numG_len : ∀ (f n : Nat), (numG f n).length ≤ f
  | 0, _ => by simp [numG]
  | f + 1, n => by
    simp only [numG]
    split
    · have := numG_len f (n / 128); simp; omega
    · simp
theorem numB_len (n : Nat) : (numB n).length ≤ 10 := numG_len 10 n
def textB (s : List UInt8) : List UInt8 := numB s.length ++ s

/-! ### Batches' bytes -/
def chgB (c : Chg) : List UInt8 := [UInt8.ofNat (c.kind.toNat)] ++ textB c.key ++ (if c.kind = 1 then textB c.val else [])
def batB (seq : Nat) (l : List Chg) : List UInt8 := little 8 seq ++ numB l.length ++ l.flatMap chgB
def bytesB (seq : Nat) (l : List Chg) : List UInt8 × Nat := if checkB seq l ≠ 0 then ([], checkB seq l) else (batB seq l, 0)

theorem firstWrong_all : ∀ {l : List Chg}, firstWrong l = 0 → ∀ x ∈ l, wrongC x.kind x.key x.val = 0
  | [], _, x, h => by simp at h
  | c :: l, h, x, hx => by
    simp only [firstWrong] at h
    split at h
    · rename_i hw
      exact absurd h hw
    · rename_i hw
      rcases List.mem_cons.1 hx with rfl | hx
      · exact Decidable.of_not_not hw
      · exact firstWrong_all h x hx
theorem wrong_fine {k : Int} {key val : List UInt8} (h : wrongC k key val = 0) : (k = 1 ∨ k = 2) ∧ 1 ≤ key.length ∧ key.length ≤ 200 ∧ val.length ≤ 4096 ∧ (k = 2 → val.length = 0) := by
  unfold wrongC at h
  split at h
  · omega
  · split at h
    · omega
    · split at h
      · omega
      · refine ⟨?_, ?_, ?_, ?_, ?_⟩ <;> omega
theorem check_all {seq : Nat} {l : List Chg} (h : checkB seq l = 0) : ∀ x ∈ l, (x.kind = 1 ∨ x.kind = 2) ∧ 1 ≤ x.key.length ∧ x.key.length ≤ 200 ∧ x.val.length ≤ 4096 ∧ (x.kind = 2 → x.val.length = 0) := by
  have hf : firstWrong l = 0 := by
    unfold checkB at h
    split at h
    · omega
    · split at h
      · rename_i hw; exact absurd h hw
      · rename_i hw; exact Decidable.of_not_not hw
  exact fun x hx => wrong_fine (firstWrong_all hf x hx)
theorem textB_len (s : List UInt8) : (textB s).length ≤ 10 + s.length := by have := numB_len s.length; simp [textB]; omega
/-- The bytes of the first i changes. -/
def BytInv (seq : Nat) (l : List Chg) (i : Nat) (o : List UInt8) : Prop := i ≤ l.length ∧ o = little 8 seq ++ numB l.length ++ (l.take i).flatMap chgB ∧ o.length ≤ 18 + 4400 * i
theorem BytInv.start (seq : Nat) (l : List Chg) : BytInv seq l 0 ([] ++ (little 8 seq ++ numB l.length)) := by
  have := numB_len l.length
  refine ⟨by omega, by simp, ?_⟩
  simp [little_len]; omega
theorem BytInv.put {seq i : Nat} {l : List Chg} {o : List UInt8} {c : Chg} (h : BytInv seq l i o) (hc : l[i]? = some c) (hk : c.kind = 1) (h1 : c.key.length ≤ 200) (h2 : c.val.length ≤ 4096) : BytInv seq l (i + 1) ((o ++ ([UInt8.ofNat c.kind.toNat] ++ textB c.key)) ++ textB c.val) := by
  obtain ⟨g1, g2, g3⟩ := h
  have := (List.getElem?_eq_some_iff.1 hc).1
  have ht1 := textB_len c.key
  have ht2 := textB_len c.val
  refine ⟨by omega, ?_, ?_⟩
  · rw [g2, ← take_push hc]
    simp [chgB, hk]
  · simp only [List.length_append, List.length_cons, List.length_nil]; omega
theorem BytInv.del {seq i : Nat} {l : List Chg} {o : List UInt8} {c : Chg} (h : BytInv seq l i o) (hc : l[i]? = some c) (hk : ¬ c.kind = 1) (h1 : c.key.length ≤ 200) : BytInv seq l (i + 1) (o ++ ([UInt8.ofNat c.kind.toNat] ++ textB c.key)) := by
  obtain ⟨g1, g2, g3⟩ := h
  have := (List.getElem?_eq_some_iff.1 hc).1
  have ht1 := textB_len c.key
  refine ⟨by omega, ?_, ?_⟩
  · rw [g2, ← take_push hc]
    simp [chgB, hk]
  · simp only [List.length_append, List.length_cons, List.length_nil]; omega
theorem BytInv.done {seq i : Nat} {l : List Chg} {o : List UInt8} (h : BytInv seq l i o) (hi : ¬ i < l.length) (hc : checkB seq l = 0) : bytesB seq l = (o, 0) := by
  obtain ⟨g1, g2, g3⟩ := h
  rw [List.take_of_length_le (by omega)] at g2
  rw [bytesB, if_neg (by simp [hc]), g2, batB]
theorem bytesB_bad {seq e : Nat} {l : List Chg} (h : checkB seq l = e) (he : e ≠ 0) : bytesB seq l = ([], e) := by
  rw [bytesB, h, if_pos he]

/-! ### Names -/
def dec2 (n : Nat) : List UInt8 := if n < 10 then [UInt8.ofNat (48 + n)] else [UInt8.ofNat (48 + n / 10), UInt8.ofNat (48 + n % 10)]
def nameF (kind : List UInt8) (n : Nat) : List UInt8 := kind ++ [45] ++ dec2 n

theorem small_one (n : Nat) (h : n < 10) : (([48, 49, 50, 51, 52, 53, 54, 55, 56, 57, 97, 98, 99, 100, 101, 102, 103, 104, 105, 106, 107, 108, 109, 110, 111, 112, 113, 114, 115, 116, 117, 118, 119, 120, 121, 122] : List UInt8).take (n + 1)).drop n = dec2 n := by
  have : ∀ n < 10, (([48, 49, 50, 51, 52, 53, 54, 55, 56, 57, 97, 98, 99, 100, 101, 102, 103, 104, 105, 106, 107, 108, 109, 110, 111, 112, 113, 114, 115, 116, 117, 118, 119, 120, 121, 122] : List UInt8).take (n + 1)).drop n = dec2 n := by decide
  exact this n h
def small2 : List UInt8 := (List.range 100).flatMap fun n => [UInt8.ofNat (48 + n / 10), UInt8.ofNat (48 + n % 10)]
theorem small_two (n : Nat) (h : n < 100) (h2 : ¬ n < 10) : (small2.take (n * 2 + 2)).drop (n * 2) = dec2 n := by
  have : ∀ n < 100, (small2.take (n * 2 + 2)).drop (n * 2) = [UInt8.ofNat (48 + n / 10), UInt8.ofNat (48 + n % 10)] := by decide
  rw [this n h, dec2, if_neg h2]
theorem dec2_len (n : Nat) : 1 ≤ (dec2 n).length ∧ (dec2 n).length ≤ 2 := by unfold dec2; split <;> simp
theorem dec2_ok {n : Nat} (h : n < 100) : ∀ b ∈ dec2 n, okB b = true := by
  have : ∀ n < 100, ∀ b ∈ dec2 n, okB b = true := by decide
  exact this n h
theorem name_ok {kind : List UInt8} {n : Nat} (hk : ∀ b ∈ kind, okB b = true) (hl : kind.length ≤ 20) (h : n < 100) : nameOk (nameF kind n) := by
  have := dec2_len n
  refine ⟨by simp [nameF]; omega, by simp [nameF]; omega, fun b hb => ?_⟩
  simp only [nameF, List.mem_append, List.mem_singleton] at hb
  rcases hb with (hb | rfl) | hb
  · exact hk b hb
  · rfl
  · exact dec2_ok h b hb

/-! ### Records that are laid -/
def pieceB (kind : Nat) (s : List UInt8) : List UInt8 := little 4 (crcMask (crcOf ([UInt8.ofNat kind] ++ s))) ++ [UInt8.ofNat (s.length % 2 ^ 8), UInt8.ofNat (s.length / 2 ^ 8 % 2 ^ 8), UInt8.ofNat kind] ++ s
def kindF (x y : Bool) : Nat := if x && y then 1 else if x then 2 else if y then 4 else 3
/-- How much of a record stands in the block at a place. -/
def roomAt (at_ : Nat) (l : Nat) : Nat := if l < 512 - (at_ + padN at_) % 512 - 7 then l else 512 - (at_ + padN at_) % 512 - 7
def layG : Nat → Nat → Bool → List UInt8 → List UInt8
  | 0, _, _, _ => []
  | f + 1, at_, bg, r => List.replicate (padN at_) 0 ++ pieceB (kindF bg (roomAt at_ r.length == r.length)) (r.take (roomAt at_ r.length)) ++
      (if r.drop (roomAt at_ r.length) = [] then [] else layG f (at_ + padN at_ + (7 + roomAt at_ r.length)) false (r.drop (roomAt at_ r.length)))
def layMu (at_ : Nat) (r : List UInt8) : Nat := 2 * r.length + (if at_ % 512 = 0 then 0 else 1)
/-- The bytes of a record behind so many. -/
def layB (at_ : Nat) (r : List UInt8) : List UInt8 := layG (layMu at_ r + 1) at_ true r
theorem pad_left (a : Nat) : 7 ≤ 512 - (a + padN a) % 512 := by unfold padN; split <;> omega
theorem roomAt_le (at_ l : Nat) : roomAt at_ l ≤ l ∧ roomAt at_ l + 7 ≤ 512 := by unfold roomAt padN; split <;> split <;> omega
theorem layMu_lt {at_ : Nat} {r : List UInt8} (h : ¬ r.drop (roomAt at_ r.length) = []) : layMu (at_ + padN at_ + (7 + roomAt at_ r.length)) (r.drop (roomAt at_ r.length)) < layMu at_ r := by
  have h1 := roomAt_le at_ r.length
  have h2 : (r.drop (roomAt at_ r.length)).length = r.length - roomAt at_ r.length := by simp
  unfold layMu
  rw [h2]
  by_cases h0 : roomAt at_ r.length = 0
  · rw [h0] at h1 h ⊢
    have hr : 0 < r.length := List.length_pos_iff.2 (by simpa using h)
    have h3 : (at_ + padN at_) % 512 = 505 := by
      unfold roomAt at h0
      unfold padN at h0 ⊢
      split at h0 <;> split at h0 <;> split <;> omega
    have h4 : at_ % 512 ≠ 0 := by
      intro h5
      unfold padN at h3
      split at h3 <;> omega
    have h5 : (at_ + padN at_ + (7 + 0)) % 512 = 0 := by omega
    rw [if_neg h4, if_pos h5]
    omega
  · have : 0 < r.length := by omega
    split <;> split <;> omega
theorem layG_fuel : ∀ (f g at_ : Nat) (bg : Bool) (r : List UInt8), layMu at_ r < f → layMu at_ r < g → layG f at_ bg r = layG g at_ bg r
  | 0, _, _, _, _, h, _ => by omega
  | _ + 1, 0, _, _, _, _, h => by omega
  | f + 1, g + 1, at_, bg, r, h1, h2 => by
    simp only [layG]
    split
    · rfl
    · rename_i hd
      have := layMu_lt hd
      rw [layG_fuel f g _ _ _ (by omega) (by omega)]
structure LayInv (at0 : Nat) (r0 : List UInt8) (at_ : Nat) (bg : Bool) (r out : List UInt8) : Prop where
  h : out ++ layG (layMu at_ r + 1) at_ bg r = layB at0 r0
  ge : at0 ≤ at_
  len : r.length ≤ r0.length
  olen : out.length = at_ - at0
  lim : at_ ≤ at0 + 14 * (layMu at0 r0 - layMu at_ r) + r0.length - r.length
  mu : layMu at_ r ≤ layMu at0 r0
theorem LayInv.start (at_ : Nat) (r : List UInt8) : LayInv at_ r at_ true r [] := ⟨rfl, by omega, by omega, by simp, by omega, by omega⟩
theorem pieceB_len (k : Nat) (s : List UInt8) : (pieceB k s).length = 7 + s.length := by simp [pieceB, little_len]; omega
theorem LayInv.next {at0 at_ : Nat} {r0 r out : List UInt8} {bg : Bool} (h : LayInv at0 r0 at_ bg r out) (hd : ¬ r.drop (roomAt at_ r.length) = []) :
    LayInv at0 r0 (at_ + padN at_ + (7 + roomAt at_ r.length)) false (r.drop (roomAt at_ r.length)) (out ++ List.replicate (padN at_) 0 ++ pieceB (kindF bg (roomAt at_ r.length == r.length)) (r.take (roomAt at_ r.length))) := by
  obtain ⟨h1, h2, h3, h4, h5, h6⟩ := h
  have hmu := layMu_lt hd
  have hroom := roomAt_le at_ r.length
  have hpad := padN_le at_
  have hdl : (r.drop (roomAt at_ r.length)).length = r.length - roomAt at_ r.length := by simp
  refine ⟨?_, by omega, by rw [hdl]; omega, ?_, by rw [hdl]; omega, by omega⟩
  · rw [← h1]
    conv => rhs; rw [layG, if_neg hd]
    rw [layG_fuel (layMu at_ r) (layMu (at_ + padN at_ + (7 + roomAt at_ r.length)) (r.drop (roomAt at_ r.length)) + 1) _ _ _ (by omega) (by omega)]
    simp [List.append_assoc]
  · simp only [List.length_append, List.length_replicate, pieceB_len, List.length_take]
    omega
theorem LayInv.done {at0 at_ : Nat} {r0 r out : List UInt8} {bg : Bool} (h : LayInv at0 r0 at_ bg r out) (hd : r.drop (roomAt at_ r.length) = []) :
    out ++ List.replicate (padN at_) 0 ++ pieceB (kindF bg (roomAt at_ r.length == r.length)) (r.take (roomAt at_ r.length)) = layB at0 r0 := by
  rw [← h.h, layG, if_pos hd]
  simp [List.append_assoc]
theorem LayInv.bound {at0 at_ : Nat} {r0 r out : List UInt8} {bg : Bool} (h : LayInv at0 r0 at_ bg r out) : at_ ≤ at0 + 29 * r0.length + 14 ∧ out.length ≤ 29 * r0.length + 14 := by
  have h1 := h.lim
  have h2 := h.len
  have h3 := h.olen
  have h4 : layMu at0 r0 ≤ 2 * r0.length + 1 := by unfold layMu; split <;> omega
  have h5 := h.mu
  omega

/-! ### Rows of bytes -/
theorem Row.u8push {a : Option Addr} {cap x : Nat} {l : List UInt8} {L : Blks} (h : Row 5 1 a (l.length + 1) cap (u8s l ++ [.int .u8 (x : Int)]) L) (hx : x < 256) : Row 5 1 a (l ++ [UInt8.ofNat x]).length cap (u8s (l ++ [UInt8.ofNat x])) L := by
  have e : (UInt8.ofNat x).toNat = x := by simp [UInt8.toNat_ofNat']; omega
  have e2 : u8s (l ++ [UInt8.ofNat x]) = u8s l ++ [.int .u8 (x : Int)] := by simp [u8s, e]
  rw [e2]
  simpa using h
theorem gv_u8push {P : Program} {C : Ctx} {L : Blks} {cap : Nat} {a : Option Addr} {l : List UInt8} {t t2 b2 e2 x : Nat} {fz2 : Nat × Nat} (ty : TypeId) (hok : appOk P t t2 5 1 1 = true)
    (hrow : Row 5 1 a l.length cap (u8s l) L) (hx : x < 256) (h47 : l.length + 1 ≤ 140737488355328) :
    GivesR P C (do pure (.value (← Builtin.append_ #[t, t2] ty #[.slice a l.length cap, .slice (some ⟨b2, 0, none⟩) 1 1]))) [L, [(b2, .cells #[.int .u8 (x : Int)] e2 fz2)]]
      (fun v L' => ∃ a' cap' L1, v = .slice a' (l ++ [UInt8.ofNat x]).length cap' ∧ L' = [L1] ∧ Row 5 1 a' (l ++ [UInt8.ofNat x]).length cap' (u8s (l ++ [UInt8.ofNat x])) L1) := by
  refine (gv_append1 (P := P) (C := C) (b2 := b2) (e2 := e2) (fz2 := fz2) (ys := #[.int .u8 (x : Int)]) (m := 1) ty hok hrow rfl rfl (by omega) (by omega)).mono ?_
  rintro v L' ⟨a', cap', L1, rfl, rfl, h⟩
  exact ⟨a', cap', L1, by simp, rfl, Row.u8push h hx⟩
/-- string(b), b a row of the call's own. -/
theorem gv_rowbytes {P : Program} {C : Ctx} {L : Blks} {cap : Nat} {a : Option Addr} (l : List UInt8) (hrow : Row 5 1 a l.length cap (u8s l) L) :
    GivesR P C (do pure (.value (← Conv.bytesToString (.slice a l.length cap)))) [L] (fun v L' => v = str l ∧ L' = [L]) := by
  intro w F hw
  rcases hrow with ⟨rfl, hn, rfl, hx, rfl⟩ | ⟨b, spare, fz, rfl, hc, h1, h2, h3, rfl⟩
  · have hl : l = [] := List.length_eq_zero_iff.1 hn
    subst hl
    exact ⟨.value (str []), w, _, [[]], rfl, .inl rfl, hw, rfl, rfl⟩
  · have hw' : Owns C w ((b, .cells (u8s l ++ spare).toArray 5 fz) :: F) := by simpa using hw
    have hb : w.heap[b]? = some (.cells (u8s l ++ spare).toArray 5 fz) := hw'.get (by simp)
    refine ⟨.value (str l), w, _, [[(b, .cells (u8s l ++ spare).toArray 5 fz)]], ?_, .inl rfl, hw, rfl, rfl⟩
    have h4 := loadCellsFrom_run (P := P) hb 0 l.length 0 #[] (by simp [u8s])
    have h5 : (u8s l ++ spare).toArray.extract (0 + 0) (0 + 0 + l.length) = ((l.map fun b => (b.toNat : Int)).map (Value.int .u8 ·)).toArray := by
      apply Array.ext'
      simp only [Array.toList_extract, List.extract_eq_take_drop, List.drop_zero, Nat.zero_add, Nat.sub_zero]
      rw [List.take_append_of_le_length (by simp [u8s]), List.take_of_length_le (by simp [u8s])]
      simp [u8s]
    rw [Sem.run_bind, run_bytesToString (P := P) w ⟨b, 0, none⟩ l.length cap (l.map fun b => (b.toNat : Int)) (by
      simp only [loadCells, h4, Array.empty_append, h5])]
    rw [fold_push]
    simp only [Result.andThen_ok, Sem.run_pure]
    simp [str, List.map_map, Function.comp_def]

theorem rep_write {k m : Nat} (h : m ≤ k) : List.replicate k (0 : UInt8) ++ ((List.replicate k (0 : UInt8)).take m).drop 0 = List.replicate (k + m) 0 := by
  rw [List.drop_zero, List.take_replicate, Nat.min_eq_left h, List.replicate_append_replicate]
theorem and32 (n : Nat) (h : n < 4294967296) : n &&& 4294967295 = n := by
  have := Nat.and_two_pow_sub_one_eq_mod n 32
  rw [show (2 ^ 32 - 1 : Nat) = 4294967295 from rfl] at this
  rw [this]; omega

/-! ### A log -/
structure LogS where
  name : List UInt8
  long : Nat
  next : Nat
  broken : Bool
def Dsk.wal (D : Dsk) (n rec_ : List UInt8) : Nat × Dsk := if (D.append n rec_).1 = 0 then (D.append n rec_).2.sync n else D.append n rec_
/-- A batch is added. -/
def addL (D : Dsk) (W : LogS) (seq : Nat) (l : List Chg) : Nat × Dsk × LogS :=
  if W.broken then (20, D, W) else if seq < W.next then (18, D, W) else if (bytesB seq l).2 ≠ 0 then ((bytesB seq l).2, D, W) else
  if (D.wal W.name (layB W.long (bytesB seq l).1)).1 ≠ 0 then ((D.wal W.name (layB W.long (bytesB seq l).1)).1, (D.wal W.name (layB W.long (bytesB seq l).1)).2, { W with broken := true }) else
  (0, (D.wal W.name (layB W.long (bytesB seq l).1)).2, { W with long := W.long + (layB W.long (bytesB seq l).1).length, next := seq + l.length })

/-- What a step leaves of the disk's own numbers. -/
theorem does_bounds {fs fs1 : Files} {room room1 st st1 own e : Nat} {fu fa fu1 fa1 M : Int} {dn dn1 : Bool} {f : Files → Files} (h : Dsk.does ⟨fs, room, st, fu, fa, dn⟩ own f = (e, ⟨fs1, room1, st1, fu1, fa1, dn1⟩)) (h1 : -1 ≤ fu ∧ fu ≤ M) (h2 : -1 ≤ fa ∧ fa ≤ M) :
    -1 ≤ fu1 ∧ fu1 ≤ M ∧ -1 ≤ fa1 ∧ fa1 ≤ M ∧ st1 ≤ st + 1 ∧ room1 = room ∧ (e = 0 → fs1 = f fs) ∧ (e ≠ 0 → fs1 = fs) := by
  have hd : ∀ x : Int, -1 ≤ x → -1 ≤ fuseD x ∧ fuseD x ≤ x ∨ fuseD x = -1 := fun x hx => by unfold fuseD; split <;> omega
  unfold Dsk.does at h
  split at h
  · cases h; exact ⟨h1.1, h1.2, h2.1, h2.2, by omega, rfl, by omega, fun _ => rfl⟩
  · split at h
    · rename_i hs
      simp only [Dsk.step, Prod.mk.injEq, Dsk.mk.injEq] at h hs
      obtain ⟨g0, g1, g2, g3, g4, g5, g6⟩ := h
      unfold stepC at g0 g3 g4 g5
      split at g0
      · rename_i ho; rw [if_pos ho] at g3 g4 g5; refine ⟨?_, ?_, ?_, ?_, ?_, g2.symm, fun h => absurd (g0.trans h) ho, fun _ => g1.symm⟩ <;> (simp only at g3 g4 g5; omega)
      · rename_i ho; rw [if_neg ho] at g3 g4 g5
        split at g0
        · rename_i ho2; rw [if_pos ho2] at g3 g4 g5; refine ⟨?_, ?_, ?_, ?_, ?_, g2.symm, fun h => by simp only at g0; omega, fun _ => g1.symm⟩ <;> (simp only at g3 g4 g5; omega)
        · rename_i ho2; rw [if_neg ho2] at g3 g4 g5
          split at g0
          · rename_i ho3; rw [if_pos ho3] at g3 g4 g5; refine ⟨?_, ?_, ?_, ?_, ?_, g2.symm, fun h => by simp only at g0; omega, fun _ => g1.symm⟩ <;> (simp only at g3 g4 g5; omega)
          · rename_i ho3
            exact absurd (by simp only [stepC]; rw [if_neg ho, if_neg ho2, if_neg ho3]) hs
    · rename_i hs
      simp only [Dsk.step, Prod.mk.injEq, Dsk.mk.injEq] at h hs
      obtain ⟨g0, g1, g2, g3, g4, g5, g6⟩ := h
      have hs' := Decidable.of_not_not hs
      unfold stepC at hs' g3 g4 g5
      split at hs'
      · omega
      · rename_i ho; rw [if_neg ho] at g3 g4 g5
        split at hs'
        · simp at hs'
        · rename_i ho2; rw [if_neg ho2] at g3 g4 g5
          split at hs'
          · simp at hs'
          · rename_i ho3; rw [if_neg ho3] at g3 g4 g5
            have q1 := hd fu h1.1
            have q2 := hd fa h2.1
            refine ⟨?_, ?_, ?_, ?_, ?_, g2.symm, fun _ => g1.symm, fun h => by omega⟩ <;> (simp only at g3 g4 g5; omega)
theorem append_bounds {fs fs1 : Files} {room room1 st st1 e : Nat} {fu fa fu1 fa1 M : Int} {dn dn1 : Bool} {n data : List UInt8} (h : Dsk.append ⟨fs, room, st, fu, fa, dn⟩ n data = (e, ⟨fs1, room1, st1, fu1, fa1, dn1⟩)) (h1 : -1 ≤ fu ∧ fu ≤ M) (h2 : -1 ≤ fa ∧ fa ≤ M) :
    -1 ≤ fu1 ∧ fu1 ≤ M ∧ -1 ≤ fa1 ∧ fa1 ≤ M ∧ st1 ≤ st + 1 := by
  have := does_bounds h h1 h2
  exact ⟨this.1, this.2.1, this.2.2.1, this.2.2.2.1, this.2.2.2.2.1⟩
theorem dk_eq {x : Nat × Dsk} {fs fs1 : Files} {room room1 st st1 e e1 : Nat} {fu fa fu1 fa1 : Int} {dn dn1 : Bool} (h : x = (e, ⟨fs, room, st, fu, fa, dn⟩)) (h2 : x = (e1, ⟨fs1, room1, st1, fu1, fa1, dn1⟩)) :
    e = e1 ∧ fs = fs1 ∧ st = st1 ∧ fu = fu1 ∧ fa = fa1 ∧ dn = dn1 := by
  rw [h] at h2
  simp only [Prod.mk.injEq, Dsk.mk.injEq] at h2
  obtain ⟨a, b, _, c, d, e, f⟩ := h2
  exact ⟨a, b, c, d, e, f⟩
theorem lg_eq {x : Nat × Dsk × LogS} {fs fs1 : Files} {room room1 st st1 e e1 lo lo1 ne ne1 : Nat} {nm nm1 : List UInt8} {fu fa fu1 fa1 : Int} {dn dn1 br br1 : Bool} (h : x = (e, ⟨fs, room, st, fu, fa, dn⟩, ⟨nm, lo, ne, br⟩)) (h2 : x = (e1, ⟨fs1, room1, st1, fu1, fa1, dn1⟩, ⟨nm1, lo1, ne1, br1⟩)) :
    e = e1 ∧ fs = fs1 ∧ st = st1 ∧ fu = fu1 ∧ fa = fa1 ∧ dn = dn1 ∧ lo = lo1 ∧ ne = ne1 ∧ br = br1 := by
  rw [h] at h2
  simp only [Prod.mk.injEq, Dsk.mk.injEq, LogS.mk.injEq] at h2
  obtain ⟨a, ⟨b, _, c, d, e, f⟩, _, g, i, j⟩ := h2
  exact ⟨a, b, c, d, e, f, g, i, j⟩

theorem layG_len : ∀ (f at_ : Nat) (bg : Bool) (r : List UInt8), layMu at_ r < f → (layG f at_ bg r).length ≤ 14 * layMu at_ r + 14 + r.length
  | 0, _, _, _, h => by omega
  | f + 1, at_, bg, r, h => by
    have hp := padN_le at_
    have hr := roomAt_le at_ r.length
    simp only [layG, List.length_append, List.length_replicate, pieceB_len, List.length_take]
    split
    · simp only [List.length_nil]; omega
    · rename_i hd
      have hm := layMu_lt hd
      have ih := layG_len f (at_ + padN at_ + (7 + roomAt at_ r.length)) false (r.drop (roomAt at_ r.length)) (by omega)
      simp only [List.length_drop] at ih
      omega
theorem layB_len (at_ : Nat) (r : List UInt8) : (layB at_ r).length ≤ 29 * r.length + 28 := by
  have h1 := layG_len (layMu at_ r + 1) at_ true r (by omega)
  have h2 : layMu at_ r ≤ 2 * r.length + 1 := by unfold layMu; split <;> omega
  unfold layB; omega
theorem bytesB_seq {seq e : Nat} {l : List Chg} {t : List UInt8} (h : bytesB seq l = (t, e)) (he : e = 0) : seq ≤ 72057594037927935 ∧ l.length ≤ 2000 := by
  unfold bytesB at h
  split at h
  · rename_i hc; cases h; exact absurd he hc
  · rename_i hc; exact ⟨check_seq (Decidable.of_not_not hc), check_len (Decidable.of_not_not hc)⟩
section
variable {D D1 D2 : Dsk} {nm t : List UInt8} {long nx seq e e2 e3 : Nat} {br : Bool} {l : List Chg}
theorem addL_broken (h : br = true) : addL D ⟨nm, long, nx, br⟩ seq l = (20, D, ⟨nm, long, nx, br⟩) := by rw [addL, if_pos h]
theorem addL_order (h : br = false) (h2 : seq < nx) : addL D ⟨nm, long, nx, br⟩ seq l = (18, D, ⟨nm, long, nx, br⟩) := by rw [addL, if_neg (by simp [h]), if_pos h2]
theorem addL_bytes (h : br = false) (h2 : ¬ seq < nx) (hb : bytesB seq l = (t, e)) (he : e ≠ 0) : addL D ⟨nm, long, nx, br⟩ seq l = (e, D, ⟨nm, long, nx, br⟩) := by
  rw [addL, if_neg (by simp [h]), if_neg h2, hb, if_pos he]
theorem addL_app (h : br = false) (h2 : ¬ seq < nx) (hb : bytesB seq l = (t, e)) (he : e = 0) (ha : D.append nm (layB long t) = (e2, D1)) (h3 : e2 ≠ 0) : addL D ⟨nm, long, nx, br⟩ seq l = (e2, D1, ⟨nm, long, nx, true⟩) := by
  have hw : D.wal nm (layB long t) = (e2, D1) := by simp only [Dsk.wal, ha]; exact if_neg h3
  rw [addL, if_neg (by simp [h]), if_neg h2, hb, if_neg (by simp [he])]
  simp only [hw]
  rw [if_pos h3]
theorem addL_syn (h : br = false) (h2 : ¬ seq < nx) (hb : bytesB seq l = (t, e)) (he : e = 0) (ha : D.append nm (layB long t) = (e2, D1)) (h3 : e2 = 0) (hs : D1.sync nm = (e3, D2)) (h4 : e3 ≠ 0) : addL D ⟨nm, long, nx, br⟩ seq l = (e3, D2, ⟨nm, long, nx, true⟩) := by
  have hw : D.wal nm (layB long t) = (e3, D2) := by simp only [Dsk.wal, ha]; rw [if_pos h3, hs]
  rw [addL, if_neg (by simp [h]), if_neg h2, hb, if_neg (by simp [he])]
  simp only [hw]
  rw [if_pos h4]
theorem addL_ok (h : br = false) (h2 : ¬ seq < nx) (hb : bytesB seq l = (t, e)) (he : e = 0) (ha : D.append nm (layB long t) = (e2, D1)) (h3 : e2 = 0) (hs : D1.sync nm = (e3, D2)) (h4 : e3 = 0) :
    addL D ⟨nm, long, nx, br⟩ seq l = (0, D2, ⟨nm, long + (layB long t).length, seq + l.length, br⟩) := by
  have hw : D.wal nm (layB long t) = (e3, D2) := by simp only [Dsk.wal, ha]; rw [if_pos h3, hs]
  rw [addL, if_neg (by simp [h]), if_neg h2, hb, if_neg (by simp [he])]
  simp only [hw]
  rw [if_neg (by simp [h4])]
end

theorem read_len {D : Dsk} {n t : List UInt8} {e m : Nat} (h : D.read n = (t, e)) (hm : ∀ k, (getF D.fs k).s.length ≤ m) : t.length ≤ m := by
  unfold Dsk.read at h
  split at h
  · cases h; simp
  · cases h; exact hm n
/-! ### Examples -/
theorem lay_hi : layB 0 [104, 105] = [139, 110, 172, 224, 2, 0, 1, 104, 105] := by kernel_rfl
def wholeF (log : List UInt8) : Nat := ((recs log).getLast?.map Prod.snd).getD 0
def lastTo (pre : List (List UInt8 × Nat)) : Nat := (pre.getLast?.map Prod.snd).getD 0
theorem lastTo_push (pre : List (List UInt8 × Nat)) (x : List UInt8 × Nat) : lastTo (pre ++ [x]) = x.2 := by simp [lastTo]
theorem lastTo_le {log : List UInt8} {pre : List (List UInt8 × Nat)} {x : List UInt8 × Nat} (h : Tells (recs log) pre x) : x.2 ≤ log.length := by
  have hx := h.mem
  have : ∀ (f a : Nat) (y : List UInt8 × Nat), y ∈ recsF f log a → y.2 ≤ log.length := by
    intro f
    induction f with
    | zero => intro a y hy; simp [recsF] at hy
    | succ f ih =>
      intro a y hy
      simp only [recsF] at hy
      split at hy
      · simp at hy
      · rename_i hz
        rcases List.mem_cons.1 hy with rfl | hy
        · have := record_to (log := log) (a := a) (u := (recordF log a).1) (z := (recordF log a).2) rfl hz
          omega
        · exact ih _ _ hy
  exact this _ _ _ hx
theorem ex_create : Dsk.create ⟨[], 1000, 0, -1, -1, false⟩ (nameF [108] 3) = (0, ⟨[([108, 45, 51], ⟨[], 0⟩)], 1000, 1, -1, -1, false⟩) := by kernel_rfl
def exChg : List Chg := [⟨1, [97], []⟩]
def exRec : List UInt8 := layB 0 (batB 1 exChg)
theorem ex_add : addL ⟨[([108, 45, 51], ⟨[], 0⟩)], 1000, 1, -1, -1, false⟩ ⟨nameF [108] 3, 0, 0, false⟩ 1 exChg = (0, ⟨[([108, 45, 51], ⟨exRec, 20⟩)], 1000, 3, -1, -1, false⟩, ⟨nameF [108] 3, 20, 2, false⟩) := by kernel_rfl
theorem ex_read : Dsk.read ⟨[([108, 45, 51], ⟨exRec, 20⟩)], 1000, 3, -1, -1, false⟩ (nameF [108] 3) = (exRec, 0) := by kernel_rfl
theorem ex_batches : batches exRec = [(1, exChg)] := by kernel_rfl
theorem one_file {k : List UInt8} {f : FileS} (n : List UInt8) {m : Nat} (h : f.s.length ≤ m) : (getF [(k, f)] n).s.length ≤ m := by
  unfold getF getA
  split
  · exact h
  · simp [getA]
theorem ex_one {bs : List Bt} (h : bs.map Bt.bat = [(1, exChg)]) : ∃ x : Bt, bs = [x] ∧ x.seq = 1 := by
  match bs, h with
  | [], h => simp at h
  | _ :: _ :: _, h => simp at h
  | [x], h =>
    refine ⟨x, rfl, ?_⟩
    simp only [List.map_cons, List.map_nil, List.cons.injEq, and_true, Bt.bat, Prod.mk.injEq] at h
    exact h.1

def copyOk (P : Program) (t : TypeId) : Bool := match P.underlying t with | some (.slice e) => (P.info? e).isSome | _ => false
theorem gv_copy0 {P : Program} {C : Ctx} {b cap : Nat} {ts : Array TypeId} {ty t : TypeId} (hts : ts[0]? = some t) (hok : copyOk P t = true) :
    GivesR P C (do pure (.value (← Builtin.copy_ ts ty #[.slice (some ⟨b, 0, none⟩) 0 cap, .slice none 0 0]))) [] (fun v L' => v = .int .i64 0 ∧ L' = []) := by
  intro w F hw
  obtain ⟨e, i, ht, hi⟩ : ∃ e i, P.underlying t = some (.slice e) ∧ P.info? e = some i := by
    unfold copyOk at hok
    split at hok
    · rename_i e he
      obtain ⟨i, hi⟩ := Option.isSome_iff_exists.1 hok
      exact ⟨e, i, he, hi⟩
    · cases hok
  refine ⟨.value (.int .i64 0), w, _, [], ?_, .inl rfl, hw, rfl, rfl⟩
  simp only [Builtin.copy_, hts, List.getElem?_toArray, List.getElem?_cons_zero, List.getElem?_cons_succ, Sem.run_bind, run_underlying ht, Result.andThen_ok, Builtin.lenOf, Sem.run_pure, run_sizeOf _ hi, Builtin.firstCells]
  rfl

/-! ### Blocks of bytes that nothing tells -/
theorem gv_mnz {C : Ctx} {P : Program} {f : FuncId} {n : Nat} {fn : Func} {t : TypeId} (ps : Array TypeId) (hf : P.funcs[f]? = some fn) (h1 : (fn.name == "runtime.NumGoroutine") = false) (h2 : fn.body.isNone = true) (h3 : (Extern.findNext fn).isNone = true)
    (he : Extern.find fn = some (Extern.BytealgMakeNoZero.makeNoZero ps #[t])) (ht : P.underlying t = some (.slice 5)) (hn : n ≤ 281474976710656) :
    GivesR P C (callFunc f #[.int .i64 (n : Int)]) [] (fun v L' => ∃ b cs, v = .slice (some ⟨b, 0, none⟩) n cs.size ∧ n ≤ cs.size ∧ L' = [[(b, .cells cs 5 (0, 0))]]) := by
  intro w F hw
  obtain ⟨cs, hr, hc⟩ := Lib.run_makeNoZero (P := P) w ps t 5 ht n hn
  refine ⟨.value (.slice (some ⟨w.heap.size, 0, none⟩) n cs.size), (w.drew.drew.alloc (.cells cs 5)), _, [[(w.heap.size, .cells cs 5 (0, 0))]], ?_, .inl rfl, ?_, _, cs, rfl, hc.1, rfl⟩
  · rw [run_callFunc_extern hf h1 h2 (by simpa using h3) (e := Extern.BytealgMakeNoZero.makeNoZero ps #[t]) he, hr]
    rfl
  · have h5 := (hw.drew (w.drawn + 1 + 1)).alloc (.cells cs 5 (0, 0))
    have h6 : Owns C (w.drew.drew.alloc (.cells cs 5)) ((w.heap.size, .cells cs 5) :: F) := by
      have : F = [].flatten ++ F := rfl
      rw [this]; exact h5
    simpa using h6
end Go.Sep
