/- Arguments that hold slices: what a reading of them tells a walk. No condition. -/
import Derived.Test.YtooncojgfdcjeaaGreatDoorRo
import Derived.Test.YtooncojgfdcjeaaGreatDoorSp2
namespace Go.Proofs.YtooncojgfdcjeaaGreatDoor
open Go.ChangeShapes Go.WideShapes Go.ChangeAt Go.RowKit Go.Sep

theorem add_plain (b o k : Nat) : (⟨b, o, none⟩ : Addr).add k = ⟨b, o + k, none⟩ := by
  unfold Addr.add; split <;> simp_all
theorem add_zero (a : Addr) : a.add 0 = a := by
  unfold Addr.add; split <;> simp_all
theorem cell_spot {w : World} {a : Addr} {v : Value} (h : w.cell? a = some v) : a.spot = none := by
  unfold World.cell? at h
  split at h
  · split at h
    · cases h
    · rename_i hs; simpa using hs
  · cases h
/-- A slice that a reading met, as one that is read. -/
theorem slice_sees {α H : Type} {enc : TypeId × Value → H} {P : Program} {W : World} {base : Nat} {sp : Nat → Bool} {held : Bool} {fuel : Nat} {t e : TypeId} {v : Value} {x : DataW H × List MemPlace} (en : α → List Value) (Q : α → Prop) {sz : Nat} (hsz : P.cellsOf e = sz) (h0 : 0 < sz)
    (hone : ∀ z, (en z).length = sz) (ht : P.underlying t = some (.slice e)) (hel : ∀ n cs y, DataW.trod enc P W base sp held n e cs = some y → ∃ z : α, cs = en z ∧ Q z) (h : DataW.trod enc P W base sp held fuel t [v] = some x) :
    ∃ (a : Option Addr) (l : List α) (cap : Nat), v = .slice a l.length cap ∧ SeesL ⟨W.heap.size, W⟩ [] a en sz l ∧ ∀ z ∈ l, Q z := by
  rcases DataW.trod_slice ht h with ⟨hv, _⟩ | ⟨a, len, cap, elems, rest, n, _, hv, _, _, _, _, hlen, hall, _⟩
  · simp only [List.cons.injEq, and_true] at hv
    exact ⟨none, [], 0, hv, ⟨hone, h0, by simp, fun h => absurd h (by simp)⟩, fun z hz => absurd hz (by simp)⟩
  · simp only [List.cons.injEq, and_true] at hv
    rw [hsz] at hall
    have key : ∀ k, k ≤ len → ∃ l : List α, l.length = k ∧ (∀ z ∈ l, Q z) ∧ ∀ i z, l[i]? = some z → W.cells? base (a.add (i * sz)) sz = some (en z) := by
      intro k
      induction k with
      | zero => exact fun _ => ⟨[], rfl, fun z hz => absurd hz (by simp), fun i z hz => by simp at hz⟩
      | succ k ih =>
        intro hk
        obtain ⟨l, h1, h2, h3⟩ := ih (by omega)
        have hi := hall k (by omega)
        rw [List.getElem?_eq_getElem (by omega)] at hi
        obtain ⟨cs, hc, hy⟩ := Option.bind_eq_some_iff.1 hi
        obtain ⟨z, rfl, hz⟩ := hel _ _ _ hy
        refine ⟨l ++ [z], by simp [h1], fun y hy => ?_, fun i y hy => ?_⟩
        · rcases List.mem_append.1 hy with h | h
          · exact h2 y h
          · rw [List.mem_singleton.1 h]; exact hz
        · by_cases hik : i < l.length
          · rw [List.getElem?_append_left hik] at hy; exact h3 i y hy
          · rw [List.getElem?_append_right (by omega)] at hy
            have : i - l.length = 0 := by
              rcases Nat.eq_zero_or_pos (i - l.length) with h | h
              · exact h
              · rw [List.getElem?_eq_none (by simp; omega)] at hy; cases hy
            rw [this] at hy
            simp at hy
            subst hy
            rw [show i = k by omega]; exact hc
    obtain ⟨l, h1, h2, h3⟩ := key len (Nat.le_refl _)
    subst h1
    refine ⟨some a, l, cap, hv, ⟨hone, h0, flatMap_len hone l, fun hpos => ?_⟩, h2⟩
    -- where it lies
    have hat : ∀ i z, l[i]? = some z → ∀ r, r < sz → W.cell? ((a.add (i * sz)).add r) = (en z)[r]? := fun i z hz r hr => (World.cells?_some (h3 i z hz)).2.2 r hr
    obtain ⟨z0, hz0⟩ : ∃ z, l[0]? = some z := ⟨l[0], List.getElem?_eq_getElem hpos⟩
    have hc0 := hat 0 z0 hz0 0 h0
    obtain ⟨u, hu⟩ : ∃ u, (en z0)[0]? = some u := ⟨_, List.getElem?_eq_getElem (by rw [hone]; exact h0)⟩
    rw [hu, Nat.zero_mul, add_zero, add_zero] at hc0
    have hs : a.spot = none := cell_spot hc0
    obtain ⟨ab, ao, as_⟩ := a
    obtain rfl : as_ = none := hs
    refine ⟨ab, ao, rfl, fun w hw _ => ?_⟩
    have hblk : ∃ c e' fz, W.heap[ab]? = some (.cells c e' fz) := by
      unfold World.cell? at hc0
      split at hc0
      · rename_i c e' fz hb; exact ⟨c, e', fz, hb⟩
      · cases hc0
    obtain ⟨c, e', fz, hb⟩ := hblk
    have hlt : ab < W.heap.size := (Array.getElem?_eq_some_iff.1 hb).1
    refine ⟨c, e', fz, (hw.block _ hlt).trans hb, fun j hj => ?_⟩
    have hj' : j / sz < l.length := (Nat.div_lt_iff_lt_mul h0).2 hj
    have hr := Nat.mod_lt j h0
    obtain ⟨z, hz⟩ : ∃ z, l[j / sz]? = some z := ⟨_, List.getElem?_eq_getElem hj'⟩
    have h4 := hat _ z hz _ hr
    rw [add_plain, add_plain, cell_of_block hb _ rfl rfl] at h4
    have h5 : (l.flatMap en)[j]? = (en z)[j % sz]? := by
      rw [← flatMap_at hone l (j / sz) z hz, List.getElem?_take_of_lt hr, List.getElem?_drop]
      congr 1
      rw [Nat.mul_comm]; exact (Nat.div_add_mod j sz).symm
    rw [h5, ← h4]
    show c[ao + j]? = c[ao + j / sz * sz + j % sz]?
    congr 1
    have := Nat.div_add_mod j sz
    rw [Nat.mul_comm] at this
    omega

theorem one_of {l : List Value} {k : Nat} (h : k < l.length) : (l.drop k).take 1 = [l[k]] := by
  rw [List.drop_eq_getElem_cons h]; rfl
theorem list3 {α : Type} {l : List α} (h : l.length = 3) : l = [l[0], l[1], l[2]] := by
  match l, h with
  | [a, b, c], _ => rfl
theorem list2 {α : Type} {l : List α} (h : l.length = 2) : l = [l[0], l[1]] := by
  match l, h with
  | [a, b], _ => rfl
section
variable {H : Type} {enc : TypeId × Value → H} {W : World} {base : Nat} {sp : Nat → Bool} {held : Bool}
theorem c107 : Tryz.prog.cellsOf 107 = 3 := by kernel_rfl
theorem c32 : Tryz.prog.cellsOf 32 = 2 := by kernel_rfl
theorem c1 : Tryz.prog.cellsOf 3 = 1 ∧ Tryz.prog.cellsOf 9 = 1 ∧ Tryz.prog.cellsOf 29 = 1 ∧ Tryz.prog.cellsOf 30 = 1 ∧ Tryz.prog.cellsOf 5 = 1 ∧ Tryz.prog.cellsOf 37 = 3 := ⟨by kernel_rfl, by kernel_rfl, by kernel_rfl, by kernel_rfl, by kernel_rfl, by kernel_rfl⟩
theorem open_chg {n : Nat} {cs : List Value} {y : DataW H × List MemPlace} (h : DataW.trod enc Tryz.prog W base sp held n 107 cs = some y) : ∃ z : Chg, cs = chg z ∧ True := by
  obtain ⟨xs, m, _, _, hl, hx, hf⟩ := DataW.trod_struct Tryz.underlying107 h
  rw [c107] at hl
  have f0 : DataW.trod enc Tryz.prog W base sp held m 3 ((cs.drop 0).take (Tryz.prog.cellsOf 3)) = xs[0]? := hf 0 _ rfl
  have f1 : DataW.trod enc Tryz.prog W base sp held m 9 ((cs.drop 1).take (Tryz.prog.cellsOf 9)) = xs[1]? := hf 1 _ rfl
  have f2 : DataW.trod enc Tryz.prog W base sp held m 9 ((cs.drop 2).take (Tryz.prog.cellsOf 9)) = xs[2]? := hf 2 _ rfl
  have hx3 : xs.length = 3 := hx
  rw [c1.1, one_of (by omega), List.getElem?_eq_getElem (by omega)] at f0
  rw [c1.2.1, one_of (by omega), List.getElem?_eq_getElem (by omega)] at f1 f2
  obtain ⟨k, e0, _⟩ := DataW.trod_int Tryz.underlying3 f0
  obtain ⟨s1, e1, _⟩ := DataW.trod_string Tryz.underlying9 f1
  obtain ⟨s2, e2, _⟩ := DataW.trod_string Tryz.underlying9 f2
  simp only [List.cons.injEq, and_true] at e0 e1 e2
  exact ⟨⟨k, s1.data.toList, s2.data.toList⟩, (list3 hl).trans (by rw [e0, e1, e2, chg, str_data, str_data]), trivial⟩
theorem open_bat {n : Nat} {cs : List Value} {y : DataW H × List MemPlace} (h : DataW.trod enc Tryz.prog W base sp held n 32 cs = some y) : ∃ z : Bt, cs = btv z ∧ (SeesL ⟨W.heap.size, W⟩ [] z.a chg 3 z.l ∧ z.seq < 18446744073709551616) := by
  obtain ⟨xs, m, _, _, hl, hx, hf⟩ := DataW.trod_struct Tryz.underlying32 h
  rw [c32] at hl
  have f0 : DataW.trod enc Tryz.prog W base sp held m 29 ((cs.drop 0).take (Tryz.prog.cellsOf 29)) = xs[0]? := hf 0 _ rfl
  have f1 : DataW.trod enc Tryz.prog W base sp held m 30 ((cs.drop 1).take (Tryz.prog.cellsOf 30)) = xs[1]? := hf 1 _ rfl
  have hx2 : xs.length = 2 := hx
  rw [c1.2.2.1, one_of (by omega), List.getElem?_eq_getElem (by omega)] at f0
  rw [c1.2.2.2.1, one_of (by omega), List.getElem?_eq_getElem (by omega)] at f1
  obtain ⟨k, e0, _, hk⟩ := DataW.trod_int Tryz.underlying29 f0
  obtain ⟨a, l, cap, e1, hs, _⟩ := slice_sees (α := Chg) chg (fun _ => True) c107 (by decide) (fun _ => rfl) Tryz.underlying30 (fun _ _ _ h => open_chg h) f1
  have hb := bounds_u64 hk
  obtain ⟨q, rfl⟩ : ∃ q : Nat, k = q := ⟨k.toNat, by omega⟩
  simp only [List.cons.injEq, and_true] at e0
  exact ⟨⟨q, l, a, cap⟩, (list2 hl).trans (by rw [e0, e1]; rfl), hs, by simp only; omega⟩
end
end Go.Proofs.YtooncojgfdcjeaaGreatDoor
