/- The disk, in plain Lean, and how it lies in memory. No condition. -/
import Derived.Test.YtooncojgfdcjeaaGreatDoorMp
import Derived.Test.YtooncojgfdcjeaaGreatDoorSo
import Derived.Laws.RangeString
namespace Go.Sep
open Go

structure FileS where
  s : List UInt8
  sure : Nat
abbrev Files := List (List UInt8 × FileS)
def fileV (f : FileS) : Value := .agg #[str f.s, .int .i64 (f.sure : Int)]
abbrev getF (fs : Files) (k : List UInt8) : FileS := (getA fs k).getD ⟨[], 0⟩

/-- One step of the disk: its number of steps, its fuse, its fault, is it down. -/
def fuseD (f : Int) : Int := if f < 0 then -1 else f - 1
def stepC (steps : Nat) (fuse fault : Int) (down : Bool) (own : Nat) : Nat × Nat × Int × Int × Bool :=
  if own ≠ 0 then (own, steps, fuse, fault, down) else if fuse = 0 then (13, steps, fuse, fault, true) else if fault = 0 then (15, steps, fuse, -1, down) else (0, steps + 1, fuseD fuse, fuseD fault, down)
theorem fuseD_max {f : Int} (h : -1 ≤ f) : (if (if f < -1 then f else -1) > f - 1 then (if f < -1 then f else -1) else f - 1) = fuseD f := by
  unfold fuseD; split <;> split <;> split <;> omega
theorem fuseD_max' {f : Int} (h : -1 ≤ f) : (if (if -1 < f then (-1 : Int) else f) > f - 1 then (if -1 < f then (-1 : Int) else f) else f - 1) = fuseD f := by
  unfold fuseD; split <;> split <;> split <;> omega

structure Dsk where
  fs : Files
  room : Nat
  steps : Nat
  fuse : Int
  fault : Int
  down : Bool
def Dsk.step (D : Dsk) (own : Nat) : Nat × Dsk :=
  ((stepC D.steps D.fuse D.fault D.down own).1, { D with steps := (stepC D.steps D.fuse D.fault D.down own).2.1, fuse := (stepC D.steps D.fuse D.fault D.down own).2.2.1, fault := (stepC D.steps D.fuse D.fault D.down own).2.2.2.1, down := (stepC D.steps D.fuse D.fault D.down own).2.2.2.2 })
def usedF (fs : Files) : Nat := (fs.map fun p => p.2.s.length).sum
def Dsk.may (D : Dsk) : Nat := if D.down then 13 else 0
def Dsk.there (D : Dsk) (n : List UInt8) : Nat := if (getA D.fs n).isSome then 0 else 16
/-- A step that, where it is done, turns the files. -/
def Dsk.does (D : Dsk) (own : Nat) (f : Files → Files) : Nat × Dsk :=
  if D.down then (13, D) else if (D.step own).1 ≠ 0 then D.step own else (0, { (D.step own).2 with fs := f D.fs })
def Dsk.create (D : Dsk) (n : List UInt8) : Nat × Dsk :=
  D.does (if (getA D.fs n).isSome then 17 else if D.fs.length ≥ 200 then 6 else 0) fun fs => putA fs n ⟨[], 0⟩
def Dsk.append (D : Dsk) (n data : List UInt8) : Nat × Dsk :=
  D.does (if (getA D.fs n).isSome then (if usedF D.fs + data.length > D.room then 14 else 0) else 16) fun fs => putA fs n ⟨(getF fs n).s ++ data, (getF fs n).sure⟩
def Dsk.sync (D : Dsk) (n : List UInt8) : Nat × Dsk :=
  D.does (D.there n) fun fs => putA fs n ⟨(getF fs n).s, (getF fs n).s.length⟩
def Dsk.read (D : Dsk) (n : List UInt8) : List UInt8 × Nat := if D.down then ([], 13) else ((getF D.fs n).s, D.there n)

theorem does_down {D : Dsk} {own : Nat} {f : Files → Files} (h : D.down = true) : D.does own f = (13, D) := by rw [Dsk.does, if_pos h]
theorem does_no {fs fs' : Files} {room st st1 own e : Nat} {fu fa fu1 fa1 : Int} {dn dn1 : Bool} {f : Files → Files} (h : dn = false) (hs : stepC st fu fa dn own = (e, st1, fu1, fa1, dn1)) (he : e ≠ 0) (hf : fs' = fs) :
    Dsk.does ⟨fs, room, st, fu, fa, dn⟩ own f = (e, ⟨fs', room, st1, fu1, fa1, dn1⟩) := by
  subst hf
  simp [Dsk.does, h, Dsk.step] at *
  rw [hs]; simp [he]
theorem does_yes {fs fs' : Files} {room st st1 own e : Nat} {fu fa fu1 fa1 : Int} {dn dn1 : Bool} {f : Files → Files} (h : dn = false) (hs : stepC st fu fa dn own = (e, st1, fu1, fa1, dn1)) (he : e = 0) (hf : fs' = f fs) :
    Dsk.does ⟨fs, room, st, fu, fa, dn⟩ own f = (0, ⟨fs', room, st1, fu1, fa1, dn1⟩) := by
  subst hf he h
  simp only [Dsk.does, Dsk.step, hs]
  rfl

theorem does_no2 {fs fs' : Files} {room st st1 own own' e : Nat} {fu fa fu1 fa1 : Int} {dn dn1 : Bool} {f : Files → Files} (hs : stepC st fu fa dn own = (e, st1, fu1, fa1, dn1)) (he : e ≠ 0) (hf : fs' = fs) (h : dn = false) (ho : own' = own) :
    Dsk.does ⟨fs, room, st, fu, fa, dn⟩ own' f = (e, ⟨fs', room, st1, fu1, fa1, dn1⟩) := ho ▸ does_no h hs he hf
theorem does_yes2 {fs fs' : Files} {room st st1 own own' e : Nat} {fu fa fu1 fa1 : Int} {dn dn1 : Bool} {f : Files → Files} (hs : stepC st fu fa dn own = (e, st1, fu1, fa1, dn1)) (he : e = 0) (hf : fs' = f fs) (h : dn = false) (ho : own' = own) :
    Dsk.does ⟨fs, room, st, fu, fa, dn⟩ own' f = (0, ⟨fs', room, st1, fu1, fa1, dn1⟩) := ho ▸ does_yes h hs he hf
theorem does_down2 {fs : Files} {room st own e : Nat} {fu fa : Int} {dn : Bool} {f : Files → Files} (h : dn = true) (he : e = 13) : Dsk.does ⟨fs, room, st, fu, fa, dn⟩ own f = (e, ⟨fs, room, st, fu, fa, dn⟩) := by
  subst he; exact does_down h
theorem may_down {e : Nat} {dn : Bool} (h : e = if dn then 13 else 0) (he : e ≠ 0) : dn = true ∧ e = 13 := by
  cases dn <;> simp_all
theorem may_up {e : Nat} {dn : Bool} (h : e = if dn then 13 else 0) (he : e = 0) : dn = false := by
  cases dn <;> simp_all

/-! ### How much there is -/
theorem getA_mem {β : Type} {l : List (List UInt8 × β)} (hn : (l.map Prod.fst).Nodup) {p : List UInt8 × β} (h : p ∈ l) : getA l p.1 = some p.2 := by
  induction l with
  | nil => simp at h
  | cons q l ih =>
    simp only [List.map_cons, List.nodup_cons] at hn
    simp only [getA]
    rcases List.mem_cons.1 h with rfl | h
    · simp
    · rw [if_neg (fun e => hn.1 (by rw [e]; exact List.mem_map.2 ⟨p, h, rfl⟩))]
      exact ih hn.2 h
theorem used_keys {fs : Files} (hn : (fs.map Prod.fst).Nodup) {ks : Strs} (hk : ks.Perm (fs.map Prod.fst)) : (ks.map fun k => (getF fs k).s.length).sum = usedF fs := by
  have h1 : (ks.map fun k => (getF fs k).s.length).sum = ((fs.map Prod.fst).map fun k => (getF fs k).s.length).sum := (hk.map _).sum_nat
  rw [h1, usedF, List.map_map]
  congr 1
  apply List.map_congr_left
  intro p hp
  show ((getA fs p.1).getD ⟨[], 0⟩).s.length = _
  rw [getA_mem hn hp]
  rfl
def UsedInv (fs : Files) (ks : Strs) (i n : Nat) : Prop := n = ((ks.take i).map fun k => (getF fs k).s.length).sum ∧ i ≤ ks.length
theorem UsedInv.start (fs : Files) (ks : Strs) : UsedInv fs ks 0 0 := ⟨by simp, by omega⟩
theorem UsedInv.next {fs : Files} {ks : Strs} {i n : Nat} {k : List UInt8} (h : UsedInv fs ks i n) (hk : ks[i]? = some k) : UsedInv fs ks (i + 1) (n + (getF fs k).s.length) := by
  obtain ⟨h1, h2⟩ := h
  have := (List.getElem?_eq_some_iff.1 hk).1
  refine ⟨?_, by omega⟩
  rw [h1, ← take_push hk, List.map_append, List.sum_append]
  simp
theorem UsedInv.le {fs : Files} {ks : Strs} {i n : Nat} (h : UsedInv fs ks i n) (hn : (fs.map Prod.fst).Nodup) (hk : ks.Perm (fs.map Prod.fst)) : n ≤ usedF fs := by
  rw [← used_keys hn hk, h.1]
  have : (ks.map fun k => (getF fs k).s.length) = ((ks.take i).map fun k => (getF fs k).s.length) ++ ((ks.drop i).map fun k => (getF fs k).s.length) := by rw [← List.map_append, List.take_append_drop]
  rw [this, List.sum_append]; omega
theorem UsedInv.done {fs : Files} {ks : Strs} {i n : Nat} (h : UsedInv fs ks i n) (hn : (fs.map Prod.fst).Nodup) (hk : ks.Perm (fs.map Prod.fst)) (hi : ¬ i < ks.length) : n = usedF fs := by
  rw [← used_keys hn hk, h.1, List.take_of_length_le (by omega)]

/-! ### Names -/
def okB (b : UInt8) : Bool := (97 ≤ b.toNat && b.toNat ≤ 122) || (48 ≤ b.toNat && b.toNat ≤ 57) || b.toNat == 45 || b.toNat == 46
/-- What several ways of an open region come to, told once. -/
theorem rga_share {P : Program} {C : Ctx} {rd : Option Nat} {n : Nat} {D : List Deferred} {ops : Array Oper} {K : Act → List Blks → Prop} {E : Env} {Lr Lx : List Blks} {fuel : Nat} {listed : Array Bool} (fuel' : Nat) (listed' : Array Bool) (E' : Env) (Lx' : List Blks)
    (h' : RgA P C rd n D ops Lr fuel' listed' E' Lx' K) (h : RgA P C rd n D ops Lr fuel' listed' E' Lx' K → RgA P C rd n D ops Lr fuel listed E Lx K) : RgA P C rd n D ops Lr fuel listed E Lx K := h h'
theorem rga_four {P : Program} {C : Ctx} {rd : Option Nat} {n : Nat} {D : List Deferred} {ops : Array Oper} {K : Act → List Blks → Prop} {E : Env} {Lr Lx : List Blks} {fuel : Nat} {listed : Array Bool} {i j l q : Nat} (hr : Region.ready .any ops listed = [i, j, l, q])
    (h1 : RgX P C rd n D ops Lr fuel listed E Lx K i) (h2 : RgX P C rd n D ops Lr fuel listed E Lx K j) (h3 : RgX P C rd n D ops Lr fuel listed E Lx K l) (h4 : RgX P C rd n D ops Lr fuel listed E Lx K q) : RgA P C rd n D ops Lr (fuel + 1) listed E Lx K :=
  rga_ready [i, j, l, q] hr (by simp) fun k hk => by
    simp at hk
    rcases hk with rfl | rfl | rfl | rfl
    · exact h1
    · exact h2
    · exact h3
    · exact h4

/-! ### Ranging over a string -/
def StrIt (it : Nat) (s : List UInt8) (i : Nat) (L : Blks) : Prop := L = [(it, .stringIter ⟨s.toArray⟩ i)]
section
variable {P : Program} {C : Ctx}
theorem gv_srange {t : TypeId} (s : List UInt8) (ht : P.underlying t = some .string) :
    GivesR P C (do pure (.value (← Instr.range t (str s)))) [] (fun v L' => ∃ it L1, v = .pointer (some ⟨it, 0, none⟩) ∧ L' = [L1] ∧ StrIt it s 0 L1) := by
  intro w F hw
  refine ⟨.value (.pointer (some ⟨w.heap.size, 0, none⟩)), { w with heap := w.heap.push (.stringIter ⟨s.toArray⟩ 0) }, _, [[(w.heap.size, .stringIter ⟨s.toArray⟩ 0)]], ?_, .inl rfl, ?_, _, _, rfl, rfl, rfl⟩
  · simp only [Instr.range, str, Sem.run_bind, run_underlying ht, Result.andThen_ok, Sem.run_pure, newObj, Sem.run]
  · simpa using hw.alloc (.stringIter ⟨s.toArray⟩ 0)
/-- The next character, one of ASCII. -/
theorem gv_snext {it i : Nat} {s : List UInt8} {L : Blks} (ty : TypeId) (ha : ∀ b ∈ s, b.toNat < 128) (h : StrIt it s i L) :
    GivesR P C (do pure (.value (← Instr.next (.pointer (some ⟨it, 0, none⟩)) true ty))) [L] (fun v L' => (∃ L1 x, s[i]? = some x ∧ v = .tuple #[.bool true, .int .i64 (i : Int), .int .i32 (x.toNat : Int)] ∧ L' = [L1] ∧ StrIt it s (i + 1) L1) ∨ (¬ i < s.length ∧ v = .tuple #[.bool false] ∧ L' = [L])) := by
  obtain rfl := h
  intro w F hw
  have hw0 : Owns C w ((it, .stringIter ⟨s.toArray⟩ i) :: F) := by simpa using hw
  have hi : w.heap[it]? = some (.stringIter ⟨s.toArray⟩ i) := hw0.get (by simp)
  have hg : (getObj it).run P w = .ok (.stringIter ⟨s.toArray⟩ i) w := by simp [getObj, Sem.run, hi]
  have hsize : (⟨s.toArray⟩ : ByteArray).size = s.length := rfl
  by_cases hlt : i < s.length
  · have hd := decode_ascii ⟨s.toArray⟩ i hlt (by exact ha _ (by show s.toArray[i] ∈ s; simp))
    have hset : (setObj it (.stringIter ⟨s.toArray⟩ (i + 1))).run P w = .ok () (w.putObj it (.stringIter ⟨s.toArray⟩ (i + 1))) := by simp [setObj, Sem.run, hi, World.putObj]
    refine ⟨.value (.tuple #[.bool true, .int .i64 (i : Int), .int .i32 ((s[i]).toNat : Int)]), w.putObj it (.stringIter ⟨s.toArray⟩ (i + 1)), _, [[(it, .stringIter ⟨s.toArray⟩ (i + 1))]], ?_, .inl rfl, ?_, .inl ⟨_, s[i], by simp, rfl, rfl, rfl⟩⟩
    · simp only [Instr.next, Sem.run_bind, hg, Result.andThen_ok, hsize, hlt, if_true, hd, hset, Sem.run_pure]
      rfl
    · simpa using Owns.put hw0
  · refine ⟨.value (.tuple #[.bool false]), w, _, [[(it, .stringIter ⟨s.toArray⟩ i)]], ?_, .inl rfl, hw, .inr ⟨hlt, rfl, rfl⟩⟩
    simp only [Instr.next, Sem.run_bind, hg, Result.andThen_ok, hsize, hlt, if_false, Sem.run_pure]
end

/-- A file's name. -/
def nameOk (s : List UInt8) : Prop := 0 < s.length ∧ s.length ≤ 32 ∧ ∀ b ∈ s, okB b = true
theorem okB_ascii {b : UInt8} (h : okB b = true) : b.toNat < 128 := by
  unfold okB at h
  simp only [Bool.or_eq_true, Bool.and_eq_true, decide_eq_true_eq, beq_iff_eq] at h
  omega
end Go.Sep
