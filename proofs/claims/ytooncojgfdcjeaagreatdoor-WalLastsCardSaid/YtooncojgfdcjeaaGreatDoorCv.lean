/- Strings as bytes that may be written, and what is appended to an empty slice. No condition. -/
import Derived.Test.YtooncojgfdcjeaaGreatDoorSp3
import Derived.Lib.ConvBytes
namespace Go.Sep
open Go

/-- The cells of a row of bytes, with what it has room for. -/
def byteCells (l : List UInt8) (spare : List Value) : Array Value := (u8s l ++ spare).toArray
theorem byteCells_get {l : List UInt8} {spare : List Value} {i : Nat} (h : i < l.length) : (byteCells l spare)[0 + i * 1]? = some (.int .u8 ((l.getD i 0).toNat : Int)) := by
  unfold byteCells
  have h2 : i < (u8s l).length := by rw [u8s_len]; exact h
  simp only [Nat.zero_add, Nat.mul_one, List.getElem?_toArray]
  rw [List.getElem?_append_left h2]
  simp [u8s, List.getD_eq_getElem?_getD, h]
theorem byteCells_size (l : List UInt8) (spare : List Value) : (byteCells l spare).size = l.length + spare.length := by simp [byteCells, u8s_len]
theorem byteCells_set {l : List UInt8} {spare : List Value} {i x : Nat} (h : i < l.length) (hx : x < 256) : setCells (byteCells l spare) (0 + i * 1) [.int .u8 (x : Int)] = byteCells (l.set i (UInt8.ofNat x)) spare := by
  have e : UInt8.size = 256 := rfl
  simp only [setCells, byteCells, Nat.zero_add, Nat.mul_one]
  apply Array.ext'
  simp only [List.setIfInBounds_toArray]
  rw [List.set_append_left _ _ (by rw [u8s_len]; exact h)]
  simp [u8s, List.map_set, UInt8.toNat_ofNat_of_lt' (show x < UInt8.size by omega)]

section
variable {P : Program} {C : Ctx}
def strBytes (P : Program) (s d : TypeId) : Bool :=
  match P.underlying s, P.underlying d, P.underlying 5 with
  | some _, some (.slice e), some (.int .u8) => Nat.beq e 5
  | _, _, _ => false
/-- []byte(s). -/
theorem gv_bytesOf {src dst : TypeId} (s : List UInt8) (hok : strBytes P src dst = true) :
    GivesR P C (do pure (.value (← convert src dst (str s)))) [] (fun v L' => ∃ (b cap : Nat) (spare : List Value) (fz : Nat × Nat), (s.length ≤ cap ∧ s.length ≤ fz.1) ∧ v = .slice (some ⟨b, 0, none⟩) s.length cap ∧ L' = [[(b, .cells (byteCells s spare) 5 fz)]]) := by
  obtain ⟨u, hs, hd, he⟩ : ∃ u, P.underlying src = some u ∧ P.underlying dst = some (.slice 5) ∧ P.underlying 5 = some (.int .u8) := by
    unfold strBytes at hok
    split at hok
    · rename_i u e h1 h2 h3
      cases Nat.eq_of_beq_eq_true hok
      exact ⟨u, h1, h2, h3⟩
    · cases hok
  intro w F hw
  have hrun := Lib.run_convert_string_bytes w src dst 5 ⟨s.toArray⟩ hs hd he
  have hsz : (⟨s.toArray⟩ : ByteArray).size = s.length := rfl
  have hcap : s.length ≤ grownCap w s.length 0 5 := by unfold grownCap; simp [Question.cut]
  have hcells : Lib.bytesCells w 5 ⟨s.toArray⟩ = byteCells s (List.replicate (grownCap w s.length 0 5 - s.length) (.int .u8 0)) := by
    unfold Lib.bytesCells byteCells
    rw [hsz]
    apply Array.ext'
    simp [u8s]
  have hnew := Lib.bytesWorld_at_new w 5 ⟨s.toArray⟩
  rw [hcells] at hnew
  have hlen : (byteCells s (List.replicate (grownCap w s.length 0 5 - s.length) (.int .u8 0))).size = grownCap w s.length 0 5 := by rw [byteCells_size, List.length_replicate]; omega
  refine ⟨.value (.slice (some ⟨w.heap.size, 0, none⟩) s.length (grownCap w s.length 0 5)), Lib.bytesWorld w 5 ⟨s.toArray⟩, _, [[(w.heap.size, .cells (byteCells s (List.replicate (grownCap w s.length 0 5 - s.length) (.int .u8 0))) 5 ((byteCells s (List.replicate (grownCap w s.length 0 5 - s.length) (.int .u8 0))).size, (byteCells s (List.replicate (grownCap w s.length 0 5 - s.length) (.int .u8 0))).size + 1))]], ?_, .inl rfl, ?_, w.heap.size, _, _, _, ⟨hcap, ?_⟩, rfl, rfl⟩
  · rw [Sem.run_bind, show (convert src dst (str s)).run P w = _ from hrun]; rfl
  · have hw0 : Owns C w F := by simpa using hw
    have hsize := Lib.bytesWorld_size w 5 ⟨s.toArray⟩
    have hbase := hw0.base
    refine ⟨hw0.low.trans ⟨rfl, rfl, rfl, by rw [hsize]; omega, fun k hk => Lib.bytesWorld_at_old w 5 _ k (by omega)⟩, by rw [hsize]; omega, ?_, ?_⟩
    · simp only [List.flatten_cons, List.flatten_nil, List.append_nil, List.singleton_append, List.map_cons, List.nodup_cons]
      refine ⟨fun hm => ?_, hw0.nodup⟩
      obtain ⟨p, hp, he⟩ := List.mem_map.1 hm
      have := (hw0.has p hp).2
      rw [he] at this
      have := (Array.getElem?_eq_some_iff.1 this).1
      omega
    · intro p hp
      simp only [List.flatten_cons, List.flatten_nil, List.append_nil, List.singleton_append] at hp
      rcases List.mem_cons.1 hp with rfl | hp
      · exact ⟨hbase, hnew⟩
      · have h1 := hw0.has p hp
        have hlt := (Array.getElem?_eq_some_iff.1 h1.2).1
        exact ⟨h1.1, (Lib.bytesWorld_at_old w 5 _ p.1 hlt).trans h1.2⟩
  · simp only [hlen]; exact hcap
/-- string(b[:k]). -/
theorem gv_cutbytes {b cap k : Nat} {fz : Nat × Nat} (l : List UInt8) (spare : List Value) (hk : k ≤ l.length) :
    GivesR P C (do pure (.value (← Conv.bytesToString (.slice (some ⟨b, 0, none⟩) k cap)))) [[(b, .cells (byteCells l spare) 5 fz)]] (fun v L' => v = str (l.take k) ∧ L' = [[(b, .cells (byteCells l spare) 5 fz)]]) := by
  intro w F hw
  have hw' : Owns C w ((b, .cells (byteCells l spare) 5 fz) :: F) := by simpa using hw
  have hb : w.heap[b]? = some (.cells (byteCells l spare) 5 fz) := hw'.get (by simp)
  refine ⟨.value (str (l.take k)), w, _, [[(b, .cells (byteCells l spare) 5 fz)]], ?_, .inl rfl, hw, rfl, rfl⟩
  have h4 := loadCellsFrom_run (P := P) hb 0 k 0 #[] (by rw [byteCells_size]; omega)
  have h5 : (byteCells l spare).extract (0 + 0) (0 + 0 + k) = (((l.take k).map fun b => (b.toNat : Int)).map (Value.int .u8 ·)).toArray := by
    apply Array.ext'
    unfold byteCells
    simp only [Array.toList_extract, List.extract_eq_take_drop, List.drop_zero, Nat.zero_add, Nat.sub_zero]
    rw [List.take_append_of_le_length (by simp [u8s]; omega)]
    simp [u8s, List.map_take, Function.comp_def]
  have hkl : k = ((l.take k).map fun b => (b.toNat : Int)).length := by simp; omega
  rw [Sem.run_bind, run_bytesToString (P := P) w ⟨b, 0, none⟩ k cap ((l.take k).map fun b => (b.toNat : Int)) (by
    simp only [loadCells, h4, Array.empty_append, h5])]
  rw [fold_push]
  simp only [Result.andThen_ok, Sem.run_pure]
  simp [str, List.map_map, Function.comp_def]
/-- append to an empty slice that is not nil. -/
theorem gv_append0 {e sz m cap2 b5 : Nat} {a : Option Addr} {ys : List Value} {L2 : Blks} {t t2 bytes : Nat} (ty : TypeId) (hok : appOk P t t2 e sz bytes = true) (hrow : Row e sz a m cap2 ys L2) (hm : 0 < m) (h1 : oneCells ys = true)
    (h63 : m ≤ 9223372036854775807) (hb47 : m * bytes ≤ 140737488355328) :
    GivesR P C (do pure (.value (← Builtin.append_ #[t, t2] ty #[.slice (some ⟨b5, 0, none⟩) 0 0, .slice a m cap2]))) [L2] (fun v L' => ∃ a' cap' L1, v = .slice a' m cap' ∧ L' = [L1, L2] ∧ Row e sz a' m cap' ys L1) := by
  intro w F hw
  have hw0 : Owns C w (L2 ++ F) := by simpa using hw
  obtain ⟨i, z, d2, ht, ht2, hd2, hi, hz, hsz, hby, hzs⟩ : ∃ i z d2, P.underlying t = some (.slice e) ∧ P.underlying t2 = some d2 ∧ (∀ k, d2 ≠ .int k) ∧ P.info? e = some i ∧ i.zero = some z ∧ i.size = sz ∧ i.bytes = bytes ∧ z.cells.size = sz := by
    unfold appOk at hok
    split at hok
    · rename_i e' d2 i he hd hi
      simp only [Bool.and_eq_true] at hok
      obtain ⟨⟨⟨⟨k1, k2⟩, k3⟩, k4⟩, k5⟩ := hok
      cases Nat.eq_of_beq_eq_true k1
      cases hz : i.zero with
      | none => simp [hz] at k5
      | some z =>
        rw [hz] at k5
        exact ⟨i, z, d2, he, hd, fun k ek => by subst ek; simp at k2, hi, hz, Nat.eq_of_beq_eq_true k3, Nat.eq_of_beq_eq_true k4, Nat.eq_of_beq_eq_true k5⟩
    · cases hok
  have hsz' : P.cellsOf e = sz := by simp [Program.cellsOf, hi, hsz]
  have hys := hrow.len
  have hrunE : ∀ (w : World), (typeInfo e).run P w = .ok i w := fun w => by simp [typeInfo, Sem.run_bind, program, Sem.run, hi]
  have hzero : ∀ (w : World), (zeroValue e).run P w = .ok z w := fun w => by simp [zeroValue, Sem.run_bind, hrunE, hz]
  have hbig : ¬ (((0 + m : Nat) : Int) > IntKind.i64.max ∧ (False ∨ i.bytes = 0)) := fun h => by
    have := h.1
    simp only [IntKind.max, IntKind.signed, IntKind.bits] at this
    omega
  have hcap : ¬ (Builtin.nextslicecap (0 + m) 0 * i.bytes > 2 ^ 48) := by
    have := growslice_fits (need := 0 + m) (old := 0) (bytes := i.bytes) (by omega) (by rw [hby, Nat.zero_add]; exact hb47)
    omega
  have hch : ∀ (q : Question) (w : World), q.forced = false → (choose q).run P w = .ok (q.cut (w.tape w.drawn q)) { w with drawn := w.drawn + 1 } := fun q w h => by simp [choose, Sem.run, h]
  have hask : ∀ (k : Nat) (w : World), (askRoom k).run P w = .ok () w := fun k w => by unfold askRoom; split <;> rfl
  have hold : (Builtin.firstCells sz 0 (.slice (some ⟨b5, 0, none⟩) 0 0)).run P { w with drawn := w.drawn + 1 } = .ok #[] { w with drawn := w.drawn + 1 } := by
    simp only [Builtin.firstCells, Nat.zero_mul]; rfl
  have hnew : (Builtin.firstCells sz m (.slice a m cap2)).run P { w with drawn := w.drawn + 1 } = .ok ys.toArray { w with drawn := w.drawn + 1 } := hrow.old (hw0.drew _)
  have hrun : ∃ nc, m ≤ nc ∧ (Builtin.append_ #[t, t2] ty #[.slice (some ⟨b5, 0, none⟩) 0 0, .slice a m cap2]).run P w = .ok (.slice (some ⟨w.heap.size, 0, none⟩) m nc) { w with drawn := w.drawn + 1, heap := w.heap.push (.cells (#[] ++ ys.toArray ++ Builtin.zeroCells z.cells (nc - m)) e) } := by
    refine ⟨(Question.appendCap (0 + m) 0 e).cut (w.tape w.drawn (Question.appendCap (0 + m) 0 e)), by simp [Question.cut], ?_⟩
    unfold Builtin.append_
    simp only [List.getElem?_toArray, List.getElem?_cons_succ, List.getElem?_cons_zero, Sem.run_bind, run_underlying ht, run_underlying ht2, run_sizeOf _ hi, Result.andThen_ok, hsz', Sem.run_pure, Builtin.lenOf]
    simp only [Bool.false_eq_true, if_false, Sem.run_bind, Sem.run_pure, Result.andThen_ok, Bool.not_false, if_true]
    rw [if_neg (by omega)]
    simp only [Sem.run_bind, hrunE, Result.andThen_ok, hbig, hcap, if_false]
    rw [hch _ _ rfl]
    simp only [Result.andThen_ok, hask, hold, hnew, hzero, Sem.run_pure, Nat.zero_add]
    rfl
  obtain ⟨nc, hnc, hrun⟩ := hrun
  refine ⟨_, _, _, [[(w.heap.size, .cells (#[] ++ ys.toArray ++ Builtin.zeroCells z.cells (nc - m)) e)], L2], by rw [Sem.run_bind, hrun]; rfl, .inl rfl, ?_, some ⟨w.heap.size, 0, none⟩, nc, _, rfl, rfl, .inr ⟨w.heap.size, (Builtin.zeroCells z.cells (nc - m)).toList, (0, 0), rfl, by omega, hys, ?_, by simp, ?_⟩⟩
  · have hal := (hw0.drew (w.drawn + 1)).alloc (.cells (#[] ++ ys.toArray ++ Builtin.zeroCells z.cells (nc - m)) e)
    simpa using hal
  · have h3 := zeroCells_length z.cells (nc - m)
    rw [hzs] at h3
    rw [List.length_append, hys, h3, ← Nat.add_mul]
    congr 1
    omega
  · have e1 : #[] ++ ys.toArray ++ Builtin.zeroCells z.cells (nc - m) = (ys ++ (Builtin.zeroCells z.cells (nc - m)).toList).toArray := by
      apply Array.ext'; simp
    rw [e1]
end
end Go.Sep
