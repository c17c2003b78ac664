/- What the logs' functions compute, in plain Lean: batches of records; rows of batches. No condition. -/
import Derived.Test.YtooncojgfdcjeaaGreatDoorRf
import Derived.Test.YtooncojgfdcjeaaGreatDoorSp
namespace Go.Sep
open Go

/-! ### Records, from a place on -/
def recsFrom (log : List UInt8) (a : Nat) : List (List UInt8 × Nat) := recsF (log.length + 1) log a
theorem recsFrom_start (log : List UInt8) : [] ++ recsFrom log 0 = recs log := rfl
section
variable {log u : List UInt8} {a z : Nat} {pre : List (List UInt8 × Nat)}
theorem recsFrom_none (h : recordF log a = (u, z)) (hz : z = 0) : recsFrom log a = [] := by
  rw [recsFrom, recsF, h, if_pos hz]
theorem recsFrom_some (ha : a ≤ log.length) (h : recordF log a = (u, z)) (hz : z ≠ 0) : recsFrom log a = (u, z) :: recsFrom log z := by
  have := record_to h hz
  rw [recsFrom, recsF, h, if_neg hz, recsF_fuel log log.length (log.length + 1) z (by omega) (by omega) (by omega), recsFrom]
theorem recs_tell (ha : a ≤ log.length) (hI : pre ++ recsFrom log a = recs log) (h : recordF log a = (u, z)) (hz : z ≠ 0) : Tells (recs log) pre (u, z) :=
  ⟨recsFrom log z, by rw [← hI, recsFrom_some ha h hz]⟩
theorem recs_next (ha : a ≤ log.length) (hI : pre ++ recsFrom log a = recs log) (h : recordF log a = (u, z)) (hz : z ≠ 0) : (pre ++ [(u, z)]) ++ recsFrom log z = recs log := by
  rw [← hI, recsFrom_some ha h hz, List.append_assoc]; rfl
theorem recs_done (hI : pre ++ recsFrom log a = recs log) (h : recordF log a = (u, z)) (hz : z = 0) : pre = recs log := by
  rw [← hI, recsFrom_none h hz, List.append_nil]
end
theorem recsF_len (log : List UInt8) : ∀ (f a : Nat) (x : List UInt8 × Nat), x ∈ recsF f log a → x.1.length ≤ log.length
  | 0, _, x, h => by simp [recsF] at h
  | f + 1, a, x, h => by
    simp only [recsF] at h
    split at h
    · simp at h
    · rename_i hz
      have := record_to (log := log) (a := a) (u := (recordF log a).1) (z := (recordF log a).2) rfl hz
      rcases List.mem_cons.1 h with rfl | h
      · omega
      · exact recsF_len log f _ x h
theorem recs_len {log : List UInt8} {x : List UInt8 × Nat} (h : x ∈ recs log) : x.1.length ≤ log.length := recsF_len log _ _ x h

theorem Tells.mem {α : Type} {xs pre : List α} {x : α} (h : Tells xs pre x) : x ∈ xs := by obtain ⟨r, rfl⟩ := h; simp
/-- A record, as it is told. -/
def RecEnc (x : List UInt8 × Nat) (ar : Array Value) (X : Blks) : Prop := ar = #[str x.1, .int .i64 (x.2 : Int)] ∧ X = []

/-! ### Batches -/
abbrev Bat := Nat × List Chg
def readB (n : Nat) : List (List UInt8 × Nat) → List Bat
  | [] => []
  | r :: rs => if (parse r.1).1 ≠ 0 ∨ (parse r.1).2.1 < n then [] else (parse r.1).2 :: readB ((parse r.1).2.1 + (parse r.1).2.2.length) rs
/-- The batches that a log's bytes tell. -/
def batches (s : List UInt8) : List Bat := readB 0 (recs s)

theorem readB_stop {n x seq : Nat} {l : List Chg} {r : List UInt8 × Nat} {rs : List (List UInt8 × Nat)} (h : parse r.1 = (x, seq, l)) (hb : x ≠ 0 ∨ seq < n) : readB n (r :: rs) = [] := by
  simp only [readB, h]
  exact if_pos hb
theorem readB_go {n x seq : Nat} {l : List Chg} {r : List UInt8 × Nat} {rs : List (List UInt8 × Nat)} (h : parse r.1 = (x, seq, l)) (hb : ¬ (x ≠ 0 ∨ seq < n)) : readB n (r :: rs) = (seq, l) :: readB (seq + l.length) rs := by
  simp only [readB, h]
  exact if_neg hb

/-- Behind the records pre the batches out are told. -/
def ReadInv (s : List UInt8) (pre : List (List UInt8 × Nat)) (n : Nat) (out : List Bat) : Prop := n ≤ 144115188075855872 ∧ ∀ rest, recs s = pre ++ rest → out ++ readB n rest = batches s
section
variable {s : List UInt8} {pre : List (List UInt8 × Nat)} {n x seq : Nat} {out : List Bat} {r : List UInt8 × Nat} {l : List Chg}
theorem ReadInv.start (s : List UInt8) : ReadInv s [] 0 [] := ⟨by omega, fun rest h => by simp at h; rw [← h]; rfl⟩
theorem ReadInv.stop (h : ReadInv s pre n out) (hN : Tells (recs s) pre r) (hp : parse r.1 = (x, seq, l)) (hb : x ≠ 0 ∨ seq < n) : out = batches s := by
  obtain ⟨rest, hr⟩ := hN
  have := h.2 _ hr
  rw [readB_stop hp hb, List.append_nil] at this
  exact this
theorem ReadInv.tell (h : ReadInv s pre n out) (hN : Tells (recs s) pre r) (hp : parse r.1 = (x, seq, l)) (hb : ¬ (x ≠ 0 ∨ seq < n)) : Tells (batches s) out (seq, l) := by
  obtain ⟨rest, hr⟩ := hN
  have := h.2 _ hr
  rw [readB_go hp hb] at this
  exact ⟨_, this.symm⟩
theorem ReadInv.next (h : ReadInv s pre n out) (hN : Tells (recs s) pre r) (hp : parse r.1 = (x, seq, l)) (hb : ¬ (x ≠ 0 ∨ seq < n)) (hs : seq ≤ 72057594037927935) (hl : l.length ≤ 2000) : ReadInv s (pre ++ [r]) (seq + l.length) (out ++ [(seq, l)]) := by
  refine ⟨by omega, fun rest hr => ?_⟩
  have hr' : recs s = pre ++ r :: rest := by simpa using hr
  have := h.2 _ hr'
  rw [readB_go hp hb] at this
  simpa using this
theorem ReadInv.done (h : ReadInv s pre n out) (hZ : pre = recs s) : out = batches s := by
  have := h.2 [] (by simp [hZ])
  simpa [readB] using this
end

/-- A batch, as it is told: the row of its changes is given away. -/
def BatEnc (x : Bat) (ar : Array Value) (X : Blks) : Prop := ∃ a cap, ar = #[.agg #[.int .u64 (x.1 : Int), .slice a x.2.length cap]] ∧ Row 107 3 a x.2.length cap (x.2.flatMap chg) X

/-! ### Rows of batches -/
/-- A batch that lies in memory. -/
structure Bt where
  seq : Nat
  l : List Chg
  a : Option Addr
  cap : Nat
def btv (b : Bt) : List Value := [.int .u64 (b.seq : Int), .slice b.a b.l.length b.cap]
def Bt.bat (b : Bt) : Bat := (b.seq, b.l)
def BtsIn (C : Ctx) (H : Blks) (bs : List Bt) : Prop := ∀ b ∈ bs, SeesL C H b.a chg 3 b.l
theorem BtsIn.nil (C : Ctx) (H : Blks) : BtsIn C H [] := fun _ h => by simp at h
theorem BtsIn.push {C : Ctx} {H X : Blks} {bs : List Bt} {a : Option Addr} {cap seq : Nat} {l : List Chg} (h : BtsIn C H bs) (hr : Row 107 3 a l.length cap (l.flatMap chg) X) : BtsIn C (H ++ X) (bs ++ [⟨seq, l, a, cap⟩]) := by
  intro b hb
  rcases List.mem_append.1 hb with hb | hb
  · exact (h b hb).mono fun p hp => List.mem_append_left _ hp
  · simp at hb
    subst hb
    exact (Row.seesL (l := l) (enc := chg) hr rfl rfl (fun _ => rfl) (by decide)).mono fun p hp => List.mem_append_right _ hp
theorem BtsIn.mono {C : Ctx} {H H' : Blks} {bs : List Bt} (h : BtsIn C H bs) (hs : ∀ p ∈ H, p ∈ H') : BtsIn C H' bs := fun b hb => (h b hb).mono hs
theorem bats_push {bs : List Bt} {pre : List Bat} {x : Bat} {a : Option Addr} {cap : Nat} (h : bs.map Bt.bat = pre) : (bs ++ [(⟨x.1, x.2, a, cap⟩ : Bt)]).map Bt.bat = pre ++ [x] := by
  subst h; simp [Bt.bat]
/-- The document's reading: behind the first i records. -/
def RReadInv (s : List UInt8) (i n : Nat) (bs : List Bt) : Prop := n ≤ 144115188075855872 ∧ i ≤ (recs s).length ∧ bs.map Bt.bat ++ readB n ((recs s).drop i) = batches s
section
variable {s : List UInt8} {i n x seq : Nat} {bs : List Bt} {r : List UInt8 × Nat} {l : List Chg}
theorem RReadInv.start (s : List UInt8) : RReadInv s 0 0 [] := ⟨by omega, by omega, by simp [batches]⟩
theorem drop_cons {α : Type} {l : List α} {i : Nat} {x : α} (h : l[i]? = some x) : l.drop i = x :: l.drop (i + 1) := by
  obtain ⟨h1, h2⟩ := List.getElem?_eq_some_iff.1 h
  rw [List.drop_eq_getElem_cons h1, h2]
theorem RReadInv.stop (h : RReadInv s i n bs) (hx : (recs s)[i]? = some r) (hp : parse r.1 = (x, seq, l)) (hb : x ≠ 0 ∨ seq < n) : bs.map Bt.bat = batches s := by
  have := h.2.2
  rw [drop_cons hx, readB_stop hp hb, List.append_nil] at this
  exact this
theorem RReadInv.next {a : Option Addr} {cap : Nat} (h : RReadInv s i n bs) (hx : (recs s)[i]? = some r) (hp : parse r.1 = (x, seq, l)) (hb : ¬ (x ≠ 0 ∨ seq < n)) (hs : seq ≤ 72057594037927935) (hl : l.length ≤ 2000) : RReadInv s (i + 1) (seq + l.length) (bs ++ [(⟨seq, l, a, cap⟩ : Bt)]) := by
  have h3 := h.2.2
  rw [drop_cons hx, readB_go hp hb] at h3
  have := (List.getElem?_eq_some_iff.1 hx).1
  refine ⟨by omega, by omega, ?_⟩
  rw [← h3]
  simp [Bt.bat]
theorem RReadInv.done (h : RReadInv s i n bs) (hi : ¬ i < (recs s).length) : bs.map Bt.bat = batches s := by
  have := h.2.2
  rw [List.drop_of_length_le (by omega)] at this
  simpa [readB] using this
end
theorem readB_len (n : Nat) (rs : List (List UInt8 × Nat)) : (readB n rs).length ≤ rs.length := by
  induction rs generalizing n with
  | nil => simp [readB]
  | cons r rs ih => simp only [readB]; split <;> simp; exact ih _
theorem recsF_count (log : List UInt8) : ∀ (f a : Nat), a ≤ log.length → (recsF f log a).length + a ≤ log.length
  | 0, _, h => by simpa [recsF] using h
  | f + 1, a, h => by
    simp only [recsF]
    split
    · simpa using h
    · rename_i hz
      have := record_to (log := log) (a := a) (u := (recordF log a).1) (z := (recordF log a).2) rfl hz
      have := recsF_count log f (recordF log a).2 (by omega)
      simp only [List.length_cons]; omega
theorem recs_count (log : List UInt8) : (recs log).length ≤ log.length := by have := recsF_count log (log.length + 1) 0 (by omega); simpa [recs] using this
theorem batches_count (s : List UInt8) : (batches s).length ≤ s.length := Nat.le_trans (readB_len _ _) (recs_count s)
theorem Tells.len {α : Type} {xs pre : List α} {x : α} (h : Tells xs pre x) : pre.length < xs.length := by obtain ⟨r, rfl⟩ := h; simp
theorem Tells.take {α : Type} {xs pre : List α} {x : α} (h : Tells xs pre x) : pre ++ [x] = xs.take (pre.length + 1) := by
  obtain ⟨r, rfl⟩ := h
  rw [List.take_append, List.take_of_length_le (by omega), show pre.length + 1 - pre.length = 1 by omega]
  rfl
theorem take_push {α : Type} {l : List α} {i : Nat} {x : α} (h : l[i]? = some x) : l.take i ++ [x] = l.take (i + 1) := by
  rw [List.take_add_one, h]; rfl
theorem bats_at {bs : List Bt} {i : Nat} {b : Bt} (h : bs[i]? = some b) : (bs.map Bt.bat)[i]? = some b.bat := by simp [h]
theorem bat_eq {b c : Bt} (h1 : b.seq = c.seq) (h2 : b.l = c.l) : b.bat = c.bat := by simp [Bt.bat, h1, h2]
theorem bat_ne {b c : Bt} (h : b.seq ≠ c.seq ∨ ¬ b.l = c.l) : ¬ b.bat = c.bat := by
  intro e
  simp only [Bt.bat, Prod.mk.injEq] at e
  rcases h with h | h
  · exact h e.1
  · exact h e.2
end Go.Sep
