/- What one operation yields, reckoned by the kernel: the evaluator of the walks of this seat, and that it is sound. No condition. -/
import Derived.Test.YtooncojgfdcjeaaGreatDoorSep
import Derived.Laws.Cells
import Derived.Laws.Entries
import Derived.Laws.IdiomCopy
import Derived.Lib.FrozenHead
import Derived.ChangeKeysEq
namespace Go.Sep
open Go

/-! ### Steps that look at no memory -/
def pureNext (P : Program) : Sem Next → Option Next
  | .pure a => some a
  | .program k => pureNext P (k P)
  | .mark _ k => pureNext P k
  | _ => none

theorem pureNext_sound {P : Program} {w : World} : ∀ {s : Sem Next} {x : Next}, pureNext P s = some x → s.run P w = .ok x w := by
  intro s
  induction s with
  | pure a => intro x h; simp [pureNext] at h; subst h; rfl
  | program k ih => intro x h; simp only [pureNext] at h; simp only [Sem.run]; exact ih P h
  | mark m k ih => intro x h; simp only [pureNext] at h; simp only [Sem.run]; exact ih h
  | _ => intro x h; simp [pureNext] at h

/-- Go's bit operators on whole numbers. -/
def bits (op : BinOp) (k : IntKind) (x y : Int) : Int :=
  match op with
  | .and => k.wrap (BitVec.ofInt k.bits x &&& BitVec.ofInt k.bits y).toNat
  | .or => k.wrap (BitVec.ofInt k.bits x ||| BitVec.ofInt k.bits y).toNat
  | .xor => k.wrap (BitVec.ofInt k.bits x ^^^ BitVec.ofInt k.bits y).toNat
  | _ => k.wrap (BitVec.ofInt k.bits x &&& ~~~BitVec.ofInt k.bits y).toNat

/-! ### Hints -/
inductive Hint where
  | wrap
  | nat
  | at (k : Nat)
  | cell (k : Nat) (v : Value)
  | cellf (k : Nat)
  | low (v : Value)
  | fact (v : Value)

def str (l : List UInt8) : Value := .string ⟨l.toArray⟩
def sbytes (s : ByteArray) : List UInt8 := s.data.toList
theorem str_sbytes (s : ByteArray) : str (sbytes s) = .string s := rfl

def isAggB (P : Program) (t : TypeId) : Option Bool :=
  match P.underlying t with
  | some (.struct _) => some true
  | some (.array _ _) => some true
  | some _ => some false
  | none => none

theorem isAggB_run {P : Program} {t : TypeId} {b : Bool} (h : isAggB P t = some b) (w : World) : (isAgg t).run P w = .ok b w := by
  unfold isAggB at h
  unfold isAgg
  rw [Sem.run_bind]
  cases hu : P.underlying t with
  | none => simp [hu] at h
  | some d =>
    rw [run_underlying hu]
    simp only [Result.andThen]
    simp only [hu] at h
    cases d <;> simp_all

/-- What is read below the base. -/
def LowLoad (P : Program) (C : Ctx) (t : TypeId) (a : Addr) (v : Value) : Prop := ∀ w, RowKit.Below C.B C.W0 w → (loadVar t a).run P w = .ok v w

def cellsAt (c : Array Value) (off n : Nat) : Option (Array Value) := bif Nat.ble (off + n) c.size then some (c.extract off (off + n)) else none

structure Out where
  need : Option Prop
  val : Value
  blks : List Blks
def Out.no : Out := ⟨some False, undef, []⟩
def Out.ok (q : Out) : Prop := match q.need with | none => True | some p => p

def inKind (k : IntKind) (n : Int) : Prop := k.min ≤ n ∧ n ≤ k.max
theorem wrap_in {k : IntKind} {n : Int} (h : inKind k n) : k.wrap n = n := by
  obtain ⟨h1, h2⟩ := h
  cases k <;> simp [IntKind.min, IntKind.max, IntKind.signed, IntKind.bits] at h1 h2 <;> simp [IntKind.wrap, IntKind.signed, IntKind.bits] <;> omega

/-- Operators whose result is told under a premise. -/
def evBin (op : BinOp) (x y : Value) : Option (Prop × Value) :=
  match op, x, y with
  | .add, .int k a, .int k' b => if k = k' then some (inKind k (a + b), .int k (a + b)) else none
  | .sub, .int k a, .int k' b => if k = k' then some (inKind k (a - b), .int k (a - b)) else none
  | .mul, .int k a, .int k' b => if k = k' then some (inKind k (a * b), .int k (a * b)) else none
  | .quo, .int k a, .int k' b => if k = k' then some (0 ≤ a ∧ 0 < b ∧ a ≤ k.max, .int k (a / b)) else none
  | .rem, .int k a, .int k' b => if k = k' then some (0 ≤ a ∧ 0 < b, .int k (a % b)) else none
  | .add, .string s, .string t => some (s.size + t.size ≤ 9223372036854775807, str (sbytes s ++ sbytes t))
  | _, _, _ => none

theorem evBin_sound {P : Program} {op : BinOp} {x y : Value} {r : Prop × Value} (h : evBin op x y = some r) (hN : r.1) (t : TypeId) (w : World) : (binOp op t x y).run P w = .ok r.2 w := by
  unfold evBin at h
  split at h
  case h_1 k a k' b =>
    split at h
    · rename_i e; subst e; cases h; simp [binOp, Op.intArith, wrap_in hN]
    · cases h
  case h_2 k a k' b =>
    split at h
    · rename_i e; subst e; cases h; simp [binOp, Op.intArith, wrap_in hN]
    · cases h
  case h_3 k a k' b =>
    split at h
    · rename_i e; subst e; cases h; simp [binOp, Op.intArith, wrap_in hN]
    · cases h
  case h_4 k a k' b =>
    split at h
    · rename_i e; subst e; cases h
      obtain ⟨h1, h2, h3⟩ := hN
      have e : Int.tdiv a b = a / b := Int.tdiv_eq_ediv_of_nonneg h1
      have g : inKind k (a / b) := by
        have q1 : 0 ≤ a / b := Int.ediv_nonneg h1 (by omega)
        have q2 : a / b ≤ a := Int.ediv_le_self b h1
        refine ⟨?_, by omega⟩
        cases k <;> simp [IntKind.min, IntKind.signed, IntKind.bits] <;> omega
      simp [binOp, Op.intDiv, show b ≠ 0 by omega, e, wrap_in g]
    · cases h
  case h_5 k a k' b =>
    split at h
    · rename_i e; subst e; cases h
      obtain ⟨h1, h2⟩ := hN
      simp [binOp, Op.intDiv, show b ≠ 0 by omega, Int.tmod_eq_emod_of_nonneg h1]
    · cases h
  case h_6 s u =>
    cases h
    have hN' : s.size + u.size ≤ 9223372036854775807 := hN
    have h1 : ¬ ((s.size + u.size : Nat) : Int) > IntKind.i64.max := by simp [IntKind.max, IntKind.signed, IntKind.bits]; omega
    simp only [binOp, Op.stringOp, h1, if_false]
    have e : s ++ u = ⟨(sbytes s ++ sbytes u).toArray⟩ := by
      apply ByteArray.ext
      simp [sbytes, ByteArray.data_append]
    rw [e]
    rfl
  case h_7 => cases h

/-! ### Cells read and written -/
theorem loadCellsFrom_run {P : Program} {w : World} {b : Nat} {c : Array Value} {e : TypeId} {fz : Nat × Nat} (h : w.heap[b]? = some (.cells c e fz)) (off : Nat) :
    ∀ (n i : Nat) (acc : Array Value), off + i + n ≤ c.size → (loadCellsFrom ⟨b, off, none⟩ i n acc).run P w = .ok (acc ++ c.extract (off + i) (off + i + n)) w
  | 0, i, acc, _ => by simp [loadCellsFrom]; omega
  | n + 1, i, acc, hn => by
    have hadd : (⟨b, off, none⟩ : Addr).add i = ⟨b, off + i, none⟩ := by unfold Addr.add; split <;> simp_all
    have hlt : off + i < c.size := by omega
    have hc : w.cell? ⟨b, off + i, none⟩ = some c[off + i] := by rw [cell_of_block h _ rfl rfl]; simp [hlt]
    simp only [loadCellsFrom, Sem.run_bind, hadd, load, Sem.run, hc, Result.andThen]
    rw [loadCellsFrom_run h off n (i + 1) _ (by omega)]
    congr 1
    rw [← Array.append_singleton, Array.append_assoc]
    congr 1
    apply Array.ext'
    simp only [Array.toList_append, Array.toList_extract, List.extract_eq_take_drop]
    rw [show off + i + (n + 1) - (off + i) = n + 1 by omega, show off + (i + 1) + n - (off + (i + 1)) = n by omega]
    rw [List.drop_eq_getElem_cons (i := off + i) (by simpa using hlt)]
    simp only [Array.getElem_toList, List.take_succ_cons, List.singleton_append, Nat.add_assoc]

theorem loadVar_run {P : Program} {w : World} {b : Nat} {c : Array Value} {e : TypeId} {fz : Nat × Nat} (h : w.heap[b]? = some (.cells c e fz)) (t : TypeId) (off : Nat) :
    (isAggB P t = some false → ∀ v, c[off]? = some v → (loadVar t ⟨b, off, none⟩).run P w = .ok v w) ∧
    (isAggB P t = some true → (P.info? t).isSome = true → off + P.cellsOf t ≤ c.size → (loadVar t ⟨b, off, none⟩).run P w = .ok (.agg (c.extract off (off + P.cellsOf t))) w) := by
  constructor
  · intro ha v hv
    have hc : w.cell? ⟨b, off, none⟩ = some v := by rw [cell_of_block h _ rfl rfl]; exact hv
    simp [loadVar, Sem.run_bind, isAggB_run ha, Result.andThen, load, Sem.run, hc]
  · intro ha hi hs
    obtain ⟨i, hi⟩ := Option.isSome_iff_exists.1 hi
    have := loadCellsFrom_run (P := P) h off (P.cellsOf t) 0 #[] (by simpa using hs)
    simp only [loadVar, Sem.run_bind, isAggB_run ha, Result.andThen, if_true, run_sizeOf _ hi, loadCells, this]
    simp

def setCells (c : Array Value) (off : Nat) : List Value → Array Value
  | [] => c
  | v :: vs => setCells (c.setIfInBounds off v) (off + 1) vs

theorem setCells_size (vs : List Value) : ∀ (c : Array Value) (off : Nat), (setCells c off vs).size = c.size := by
  induction vs with
  | nil => intro c off; rfl
  | cons v vs ih => intro c off; simp [setCells, ih]

theorem storeCells_run {P : Program} {b : Nat} {e : TypeId} {fz : Nat × Nat} (off : Nat) :
    ∀ (vs : List Value) (i : Nat) (c : Array Value) (w : World), w.heap[b]? = some (.cells c e fz) → off + i + vs.length ≤ c.size → (fz.2 ≤ off + i ∨ off + i + vs.length ≤ fz.1) → (∀ v ∈ vs, v.oneCell' = true) →
      (storeCells ⟨b, off, none⟩ vs i).run P w = .ok () { w with heap := w.heap.setIfInBounds b (.cells (setCells c (off + i) vs) e fz) }
  | [], i, c, w, h, _, _, _ => by
    simp only [storeCells, Sem.run_pure, setCells]
    congr 1
    have hlt := (Array.getElem?_eq_some_iff.1 h).1
    have hv := (Array.getElem?_eq_some_iff.1 h).2
    have : w.heap.setIfInBounds b (.cells c e fz) = w.heap := by
      apply Array.ext_getElem?
      intro j
      by_cases hj : b = j
      · subst hj; simp [hlt, hv]
      · rw [Array.getElem?_setIfInBounds_ne hj]
    rw [this]
  | v :: vs, i, c, w, h, hn, hfz, h1 => by
    simp only [List.length_cons] at hn hfz
    have hadd : (⟨b, off, none⟩ : Addr).add i = ⟨b, off + i, none⟩ := by unfold Addr.add; split <;> simp_all
    have hlt : off + i < c.size := by omega
    have hc : w.cell? ⟨b, off + i, none⟩ = some c[off + i] := by rw [cell_of_block h _ rfl rfl]; simp [hlt]
    have hf : w.frozen? ⟨b, off + i, none⟩ = false := by
      obtain ⟨lo, hi⟩ := fz
      simp only [World.frozen?, h, Bool.and_eq_false_iff, decide_eq_false_iff_not]
      simp only at hfz; omega
    have hset := setCell_of_block h ⟨b, off + i, none⟩ rfl rfl v
    have hrun : (store ⟨b, off + i, none⟩ v).run P w = .ok () { w with heap := w.heap.setIfInBounds b (.cells (c.setIfInBounds (off + i) v) e fz) } := by
      rw [run_store P w _ v .plain (h1 v (by simp)), hc]
      simp [hf, hset]
    have hb := (Array.getElem?_eq_some_iff.1 h).1
    simp only [storeCells, Sem.run_bind, hadd, hrun, Result.andThen]
    rw [storeCells_run (e := e) (fz := fz) off vs (i + 1) (c.setIfInBounds (off + i) v) _ (by simp [hb]) (by simp; omega) (by omega) (fun u hu => h1 u (by simp [hu]))]
    simp only [setCells, Nat.add_assoc]
    congr 2
    apply Array.ext_getElem?
    intro j
    by_cases hj : b = j
    · subst hj; simp [hb]
    · rw [Array.getElem?_setIfInBounds_ne hj, Array.getElem?_setIfInBounds_ne hj, Array.getElem?_setIfInBounds_ne hj]

theorem storeVar_run {P : Program} {w : World} {b : Nat} {c : Array Value} {e : TypeId} {fz : Nat × Nat} (h : w.heap[b]? = some (.cells c e fz)) (t : TypeId) (off : Nat) (v : Value)
    (hi : (P.info? t).isSome = true) (hs : v.cells.size = P.cellsOf t) (hn : off + v.cells.size ≤ c.size) (hfz : fz.2 ≤ off ∨ off + v.cells.size ≤ fz.1) (h1 : ∀ u ∈ v.cells.toList, u.oneCell' = true) :
    (storeVar t ⟨b, off, none⟩ v).run P w = .ok () { w with heap := w.heap.setIfInBounds b (.cells (setCells c off v.cells.toList) e fz) } := by
  obtain ⟨i, hi⟩ := Option.isSome_iff_exists.1 hi
  have := storeCells_run (P := P) (b := b) (e := e) (fz := fz) off v.cells.toList 0 c w h (by simpa using hn) (by simpa using hfz) h1
  simp only [storeVar, Sem.run_bind, run_sizeOf _ hi, Result.andThen, hs, ne_eq, not_true, if_false]
  simpa using this

/-! ### One operation -/
def HasLoad (P : Program) (C : Ctx) (Ls : List Blks) (t : TypeId) (a : Addr) (v : Value) : Prop := ∀ w : World, RowKit.Below C.B C.W0 w → (∀ p ∈ Ls.flatten, w.heap[p.1]? = some p.2) → (loadVar t a).run P w = .ok v w

def generic (P : Program) (r : Operand → Value) (Ls : List Blks) (o : Oper) : Out :=
  match pureNext P (execOp r o) with
  | some (.value v) => ⟨none, v, Ls⟩
  | some .skip => ⟨none, undef, Ls⟩
  | _ => Out.no

def evLoad (P : Program) (C : Ctx) (h : Option Hint) (Ls : List Blks) (t : TypeId) (x : Value) : Out :=
  match h, x with
  | some (.at k), .pointer (some ⟨bk, off, none⟩) =>
    match Ls[k]?, isAggB P t with
    | some [(b, .cells c _ _)], some false => match c[off]? with
      | some v => ⟨some (b = bk), v, Ls⟩
      | none => Out.no
    | some [(b, .cells c _ _)], some true => bif (P.info? t).isSome && Nat.ble (off + P.cellsOf t) c.size then ⟨some (b = bk), .agg (c.extract off (off + P.cellsOf t)), Ls⟩ else Out.no
    | _, _ => Out.no
  | some (.cell k v), .pointer (some ⟨bk, off, none⟩) =>
    match Ls[k]?, isAggB P t with
    | some [(b, .cells c _ _)], some false => ⟨some (b = bk ∧ c[off]? = some v), v, Ls⟩
    | some [(b, .cells c _ _)], some true => bif (P.info? t).isSome then ⟨some (b = bk ∧ off + P.cellsOf t ≤ c.size ∧ .agg (c.extract off (off + P.cellsOf t)) = v), v, Ls⟩ else Out.no
    | _, _ => Out.no
  | some (.low v), .pointer (some a) => ⟨some (LowLoad P C t a v), v, Ls⟩
  | some (.fact v), .pointer (some a) => ⟨some (HasLoad P C Ls t a v), v, Ls⟩
  | _, _ => Out.no

def oneCells (l : List Value) : Bool := l.all (·.oneCell')

def evStore (P : Program) (h : Option Hint) (Ls : List Blks) (t : TypeId) (x v : Value) : Out :=
  match h, x with
  | some (.at k), .pointer (some ⟨bk, off, none⟩) =>
    match Ls[k]? with
    | some [(b, .cells c e fz)] =>
      bif (P.info? t).isSome && Nat.beq v.cells.size (P.cellsOf t) && Nat.ble (off + v.cells.size) c.size && Nat.ble fz.2 off && oneCells v.cells.toList then
        ⟨some (b = bk), undef, Ls.set k [(b, .cells (setCells c off v.cells.toList) e fz)]⟩
      else Out.no
    | _ => Out.no
  | some (.cell k _), .pointer (some ⟨bk, off, none⟩) =>
    match Ls[k]? with
    | some [(b, .cells c e fz)] =>
      bif (P.info? t).isSome && Nat.beq v.cells.size (P.cellsOf t) && oneCells v.cells.toList then
        ⟨some (b = bk ∧ off + v.cells.size ≤ c.size ∧ fz.2 ≤ off), undef, Ls.set k [(b, .cells (setCells c off v.cells.toList) e fz)]⟩
      else Out.no
    | _ => Out.no
  | some (.cellf k), .pointer (some ⟨bk, off, none⟩) =>
    match Ls[k]? with
    | some [(b, .cells c e fz)] =>
      bif (P.info? t).isSome && Nat.beq v.cells.size (P.cellsOf t) && oneCells v.cells.toList then
        ⟨some (b = bk ∧ off + v.cells.size ≤ c.size ∧ off + v.cells.size ≤ fz.1), undef, Ls.set k [(b, .cells (setCells c off v.cells.toList) e fz)]⟩
      else Out.no
    | _ => Out.no
  | _, _ => Out.no

def optInt (d : Int) : Option Value → Option Int
  | none => some d
  | some (.int _ n) => some n
  | some _ => none

theorem toList_sbytes (b : ByteArray) : b.toList = sbytes b := ByteArray.toList_eq b
/-- Strings held against each other. -/
def evStr (op : BinOp) (x y : Value) : Option Value :=
  match op, x, y with
  | .eql, .string s, .string t => some (.bool (sbytes s == sbytes t))
  | .neq, .string s, .string t => some (.bool (!(sbytes s == sbytes t)))
  | .lss, .string s, .string t => some (.bool (Op.bytesLess (sbytes s) (sbytes t)))
  | .gtr, .string s, .string t => some (.bool (!(Op.bytesLess (sbytes s) (sbytes t) || sbytes s == sbytes t)))
  | .leq, .string s, .string t => some (.bool (Op.bytesLess (sbytes s) (sbytes t) || sbytes s == sbytes t))
  | .geq, .string s, .string t => some (.bool (!Op.bytesLess (sbytes s) (sbytes t)))
  | _, _, _ => none

theorem evStr_strings {op : BinOp} {x y v : Value} (h : evStr op x y = some v) : ∃ s t, x = .string s ∧ y = .string t := by
  unfold evStr at h
  split at h <;> simp_all

/-! ### Whole numbers that are not negative -/
def natK (k : IntKind) (a : Int) : Prop := 0 ≤ a ∧ a ≤ k.max
def evNat (op : BinOp) (x y : Value) : Option (Prop × Value) :=
  match op, x, y with
  | .sub, .int k a, .int k' b => if k = k' then some (0 ≤ b ∧ b ≤ a ∧ a ≤ k.max, .int k ((a.toNat - b.toNat : Nat) : Int)) else none
  | .and, .int k a, .int k' b => if k = k' then some (natK k a ∧ natK k b, .int k ((a.toNat &&& b.toNat : Nat) : Int)) else none
  | .or, .int k a, .int k' b => if k = k' then some (natK k a ∧ natK k b, .int k ((a.toNat ||| b.toNat : Nat) : Int)) else none
  | .xor, .int k a, .int k' b => if k = k' then some (natK k a ∧ natK k b, .int k ((a.toNat ^^^ b.toNat : Nat) : Int)) else none
  | .shr, .int k a, .int _ b => some (0 ≤ a ∧ 0 ≤ b ∧ b ≤ k.bits, .int k ((a.toNat / 2 ^ b.toNat : Nat) : Int))
  | .shl, .int k a, .int _ b => some (0 ≤ a ∧ 0 ≤ b ∧ b ≤ k.bits ∧ (a.toNat * 2 ^ b.toNat : Nat) ≤ k.max, .int k ((a.toNat * 2 ^ b.toNat : Nat) : Int))
  | .add, .int k a, .int k' b => if k = k' then some (0 ≤ a ∧ 0 ≤ b ∧ k.signed = false, .int k (((a.toNat + b.toNat) % 2 ^ k.bits : Nat) : Int)) else none
  | .mul, .int k a, .int k' b => if k = k' then some (0 ≤ a ∧ 0 ≤ b ∧ k.signed = false, .int k (((a.toNat * b.toNat) % 2 ^ k.bits : Nat) : Int)) else none
  | _, _, _ => none

theorem natK_in {k : IntKind} {n : Nat} (h : (n : Int) ≤ k.max) : k.wrap (n : Int) = n :=
  wrap_in ⟨by cases k <;> simp [IntKind.min, IntKind.signed, IntKind.bits] <;> omega, h⟩
theorem natK_pow (k : IntKind) : ∃ m, k.max = ((2 ^ m : Nat) : Int) - 1 ∧ m ≤ k.bits := by
  cases k
  all_goals first
    | exact ⟨8, rfl, by decide⟩ | exact ⟨16, rfl, by decide⟩ | exact ⟨32, rfl, by decide⟩ | exact ⟨64, rfl, by decide⟩ | exact ⟨7, rfl, by decide⟩ | exact ⟨15, rfl, by decide⟩ | exact ⟨31, rfl, by decide⟩ | exact ⟨63, rfl, by decide⟩
theorem natK_lt {k : IntKind} {a : Int} (h : natK k a) {m : Nat} (hm : k.max = ((2 ^ m : Nat) : Int) - 1) : a.toNat < 2 ^ m := by
  obtain ⟨h0, h1⟩ := h
  rw [hm] at h1
  omega
theorem natK_bv {k : IntKind} {a : Int} (h : natK k a) : (BitVec.ofInt k.bits a).toNat = a.toNat := by
  obtain ⟨m, hm, hb⟩ := natK_pow k
  have h1 := natK_lt h hm
  have h2 : 2 ^ m ≤ 2 ^ k.bits := Nat.pow_le_pow_right (by omega) hb
  rw [BitVec.toNat_ofInt]
  rw [Int.emod_eq_of_lt h.1 (by have := h.1; omega)]
theorem wrap_unsigned {k : IntKind} (h : k.signed = false) (n : Nat) : k.wrap (n : Int) = ((n % 2 ^ k.bits : Nat) : Int) := by
  simp [IntKind.wrap, h]

theorem evNat_sound {P : Program} {op : BinOp} {x y : Value} {r : Prop × Value} (h : evNat op x y = some r) (hN : r.1) (t : TypeId) (w : World) : (binOp op t x y).run P w = .ok r.2 w := by
  have back : ∀ (k : IntKind) (a b : Int) (f : Nat → Nat → Nat), natK k a → natK k b → (∀ m i j : Nat, i < 2 ^ m → j < 2 ^ m → f i j < 2 ^ m) → k.wrap ((f a.toNat b.toNat : Nat) : Int) = ((f a.toNat b.toNat : Nat) : Int) := by
    intro k a b f ha hb hf
    obtain ⟨m, hm, _⟩ := natK_pow k
    have := hf m _ _ (natK_lt ha hm) (natK_lt hb hm)
    exact natK_in (by rw [hm]; omega)
  unfold evNat at h
  split at h
  case h_1 k a k' b =>
    split at h
    · rename_i e; subst e; cases h
      obtain ⟨h0, h1, h2⟩ := hN
      have hk : inKind k (a - b) := by
        refine ⟨?_, by omega⟩
        cases k <;> simp [IntKind.min, IntKind.signed, IntKind.bits] <;> omega
      have e : ((a.toNat - b.toNat : Nat) : Int) = a - b := by omega
      simp only [binOp, Op.intArith, wrap_in hk, e]
      simp
    · cases h
  case h_2 k a k' b =>
    split at h
    · rename_i e; subst e; cases h
      simp only [binOp, Op.intBits, BitVec.toNat_and, natK_bv hN.1, natK_bv hN.2]
      rw [back k a b (· &&& ·) hN.1 hN.2 fun m i j hi hj => Nat.and_lt_two_pow _ hj]
      simp
    · cases h
  case h_3 k a k' b =>
    split at h
    · rename_i e; subst e; cases h
      simp only [binOp, Op.intBits, BitVec.toNat_or, natK_bv hN.1, natK_bv hN.2]
      rw [back k a b (· ||| ·) hN.1 hN.2 fun m i j hi hj => Nat.or_lt_two_pow hi hj]
      simp
    · cases h
  case h_4 k a k' b =>
    split at h
    · rename_i e; subst e; cases h
      simp only [binOp, Op.intBits, BitVec.toNat_xor, natK_bv hN.1, natK_bv hN.2]
      rw [back k a b (· ^^^ ·) hN.1 hN.2 fun m i j hi hj => Nat.xor_lt_two_pow hi hj]
      simp
    · cases h
  case h_5 k a k' b =>
    cases h
    obtain ⟨h0, h1, h2⟩ := hN
    have e1 : min b.toNat k.bits = b.toNat := by omega
    have e2 : a.fdiv (2 ^ b.toNat) = ((a.toNat / 2 ^ b.toNat : Nat) : Int) := by
      obtain ⟨n, rfl⟩ := Int.eq_ofNat_of_zero_le h0
      rw [Int.fdiv_eq_ediv_of_nonneg _ (by exact Int.pow_nonneg (by omega))]
      simp
    simp only [binOp, Op.shift, show ¬ b < 0 by omega, if_false, e1, e2]
    simp
  case h_6 k a k' b =>
    cases h
    obtain ⟨h0, h1, h2, h3⟩ := hN
    have e1 : min b.toNat k.bits = b.toNat := by omega
    have e2 : a * 2 ^ b.toNat = ((a.toNat * 2 ^ b.toNat : Nat) : Int) := by
      obtain ⟨n, rfl⟩ := Int.eq_ofNat_of_zero_le h0
      simp
    simp only [binOp, Op.shift, show ¬ b < 0 by omega, if_false, e1, e2, natK_in h3]
    simp
  case h_7 k a k' b =>
    split at h
    · rename_i e; subst e; cases h
      obtain ⟨h0, h1, h2⟩ := hN
      have e : a + b = ((a.toNat + b.toNat : Nat) : Int) := by omega
      simp only [binOp, Op.intArith, e, wrap_unsigned h2]
      simp
    · cases h
  case h_8 k a k' b =>
    split at h
    · rename_i e; subst e; cases h
      obtain ⟨h0, h1, h2⟩ := hN
      have e : a * b = ((a.toNat * b.toNat : Nat) : Int) := by
        obtain ⟨n, rfl⟩ := Int.eq_ofNat_of_zero_le h0
        obtain ⟨m, rfl⟩ := Int.eq_ofNat_of_zero_le h1
        simp
      simp only [binOp, Op.intArith, e, wrap_unsigned h2]
      simp
    · cases h
  case h_9 => cases h

theorem xor_ones (m n : Nat) (h : n < 2 ^ m) : (2 ^ m - 1) ^^^ n = 2 ^ m - 1 - n := by
  apply Nat.eq_of_testBit_eq
  intro i
  rw [Nat.testBit_xor, Nat.testBit_two_pow_sub_one, show 2 ^ m - 1 - n = 2 ^ m - (n + 1) by omega, Nat.testBit_two_pow_sub_succ h]
  by_cases hi : i < m
  · simp [hi]
  · have : n.testBit i = false := Nat.testBit_lt_two_pow (Nat.lt_of_lt_of_le h (Nat.pow_le_pow_right (by omega) (by omega)))
    simp [hi, this]

def ev1 (P : Program) (C : Ctx) (h : Option Hint) (r : Operand → Value) (Ls : List Blks) (o : Oper) : Out :=
  match o.op with
  | .binOp op _ x y _ =>
    match h with
    | none => match evBin op (r x) (r y), evStr op (r x) (r y) with
      | some q, _ => ⟨some q.1, q.2, Ls⟩
      | none, some v => ⟨none, v, Ls⟩
      | none, none => generic P r Ls o
    | some .nat => match evNat op (r x) (r y) with
      | some q => ⟨some q.1, q.2, Ls⟩
      | none => Out.no
    | some _ => generic P r Ls o
  | .convert s d x =>
    match h, P.underlying s, P.underlying d, r x with
    | none, some (.int _), some (.int k), .int _ n => ⟨some (inKind k n), .int k n, Ls⟩
    | some .nat, some (.int _), some (.int k), .int _ n => ⟨some (0 ≤ n ∧ k.signed = false), .int k ((n.toNat % 2 ^ k.bits : Nat) : Int), Ls⟩
    | _, _, _, _ => generic P r Ls o
  | .unOp .xor t x =>
    match h, r x with
    | some .nat, .int k n => ⟨some (natK k n ∧ k.signed = false), .int k ((k.max.toNat - n.toNat : Nat) : Int), Ls⟩
    | _, _ => generic P r Ls o
  | .pick c a b =>
    match r c, r a, r b with
    | .bool c, .bool a, .bool b => ⟨none, .bool (cond c a b), Ls⟩
    | _, _, _ => generic P r Ls o
  | .index t x i =>
    match P.underlying t, r x, r i with
    | some .string, .string s, .int _ i => ⟨some (0 ≤ i ∧ i < s.size), .int .u8 ((sbytes s).getD i.toNat 0).toNat, Ls⟩
    | _, _, _ => generic P r Ls o
  | .slice t x lo hi none =>
    match P.underlying t, r x with
    | some .string, .string s => match optInt 0 (lo.map r), optInt s.size (hi.map r) with
      | some l, some h => ⟨some (0 ≤ l ∧ l ≤ h ∧ h ≤ s.size), str (((sbytes s).take h.toNat).drop l.toNat), Ls⟩
      | _, _ => Out.no
    | some (.slice e), .slice a len cap => match lo, optInt len (hi.map r) with
      | none, some h => bif (P.info? e).isSome then ⟨some (0 ≤ h ∧ h ≤ cap), .slice a h.toNat cap, Ls⟩ else Out.no
      | some l, some h => match a, r l with
        | some ⟨b, off, none⟩, .int _ l => bif (P.info? e).isSome then ⟨some (0 ≤ l ∧ l ≤ h ∧ h ≤ cap ∧ l < cap), .slice (some ⟨b, off + l.toNat * P.cellsOf e, none⟩) (h.toNat - l.toNat) (cap - l.toNat), Ls⟩ else Out.no
        | _, _ => Out.no
      | _, _ => Out.no
    | _, _ => generic P r Ls o
  | .indexAddr t x i =>
    match P.underlying t, r x, r i with
    | some (.slice e), .slice (some ⟨b, off, none⟩) len _, .int _ i => bif (P.info? e).isSome then ⟨some (0 ≤ i ∧ i < len), .pointer (some ⟨b, off + i.toNat * P.cellsOf e, none⟩), Ls⟩ else Out.no
    | some (.array n e), .pointer (some ⟨b, off, none⟩), .int _ i => bif (P.info? e).isSome then ⟨some (0 ≤ i ∧ i < n), .pointer (some ⟨b, off + i.toNat * P.cellsOf e, none⟩), Ls⟩ else Out.no
    | _, _, _ => generic P r Ls o
  | .load t a => evLoad P C h Ls t (r a)
  | .store t a x => evStore P h Ls t (r a) (r x)
  | _ => generic P r Ls o

/-- It yields a value and leaves the world as it is. -/
def GivesQ (P : Program) (C : Ctx) (s : Sem Next) (Ls : List Blks) (v : Value) : Prop := ∀ w F, Owns C w (Ls.flatten ++ F) → s.run P w = .ok (.value v) w ∨ (s.run P w = .ok .skip w ∧ v = undef)
theorem GivesQ.pure {P : Program} {C : Ctx} {s : Sem Next} {Ls : List Blks} {v : Value} (h : ∀ w, s.run P w = .ok (.value v) w) : GivesQ P C s Ls v := fun w _ _ => .inl (h w)
theorem GivesQ.gives {P : Program} {C : Ctx} {s : Sem Next} {Ls : List Blks} {v : Value} (h : GivesQ P C s Ls v) : Gives P C s Ls v Ls := fun w F hw => by
  rcases h w F hw with h | ⟨h, hv⟩
  · exact ⟨_, w, h, .inl rfl, hw⟩
  · exact ⟨_, w, h, .inr ⟨rfl, hv⟩, hw⟩
def quietOp (o : Oper) : Bool := match o.op with | .store .. => false | .defer _ => false | .select .. => false | _ => true

theorem generic_sound {P : Program} {C : Ctx} {r : Operand → Value} {Ls : List Blks} {o : Oper} (h : (generic P r Ls o).ok) : (generic P r Ls o).blks = Ls ∧ GivesQ P C (execOp r o) Ls (generic P r Ls o).val := by
  unfold generic at *
  split at h
  · rename_i v hv; exact ⟨rfl, .pure fun w => pureNext_sound hv⟩
  · rename_i hv; exact ⟨rfl, fun w _ _ => .inr ⟨pureNext_sound hv, rfl⟩⟩
  · exact False.elim h

theorem flatten_mem {Ls : List Blks} {k : Nat} {b : Nat} {o : Obj} (h : Ls[k]? = some [(b, o)]) : (b, o) ∈ Ls.flatten :=
  List.mem_flatten.2 ⟨_, List.mem_of_getElem? h, by simp⟩

theorem flatten_split {Ls : List Blks} {k : Nat} {b : Nat} {o : Obj} (h : Ls[k]? = some [(b, o)]) : ∃ L1 L2, Ls.flatten = L1 ++ (b, o) :: L2 ∧ ∀ o', (Ls.set k [(b, o')]).flatten = L1 ++ (b, o') :: L2 := by
  induction Ls generalizing k with
  | nil => simp at h
  | cons x xs ih =>
    cases k with
    | zero => simp at h; subst h; exact ⟨[], xs.flatten, by simp, by simp⟩
    | succ k =>
      simp only [List.getElem?_cons_succ] at h
      obtain ⟨L1, L2, h1, h2⟩ := ih h
      exact ⟨x ++ L1, L2, by simp [h1], fun o' => by simp [h2]⟩

theorem Owns.chunk {C : Ctx} {w : World} {Ls : List Blks} {F : Blks} (hw : Owns C w (Ls.flatten ++ F)) {k b : Nat} {o : Obj} (h : Ls[k]? = some [(b, o)]) : w.heap[b]? = some o :=
  hw.get (List.mem_append_left _ (flatten_mem h))

theorem Owns.setChunk {C : Ctx} {w : World} {Ls : List Blks} {F : Blks} (hw : Owns C w (Ls.flatten ++ F)) {k b : Nat} {o o' : Obj} (h : Ls[k]? = some [(b, o)]) :
    Owns C { w with heap := w.heap.setIfInBounds b o' } ((Ls.set k [(b, o')]).flatten ++ F) := by
  obtain ⟨L1, L2, h1, h2⟩ := flatten_split h
  rw [h2, List.append_assoc, List.cons_append]
  rw [h1, List.append_assoc, List.cons_append] at hw
  exact hw.set

theorem loadAt_run {P : Program} {t : TypeId} {a : Addr} {v : Value} {w : World} (h : (loadVar t a).run P w = .ok v w) : (Instr.loadAt t (.pointer (some a))).run P w = .ok v w := by
  simp [Instr.loadAt, Instr.sureAddr, h]

theorem evLoad_sound {P : Program} {C : Ctx} {h : Option Hint} {Ls : List Blks} {t : TypeId} {x : Value} (hN : (evLoad P C h Ls t x).ok) :
    (evLoad P C h Ls t x).blks = Ls ∧ ∀ w F, Owns C w (Ls.flatten ++ F) → (Instr.loadAt t x).run P w = .ok (evLoad P C h Ls t x).val w := by
  unfold evLoad at *
  split at hN
  · rename_i k bk off
    split at hN
    · rename_i b c e fz hk ha
      split at hN
      · rename_i v hv
        refine ⟨rfl, fun w F hw => loadAt_run ?_⟩
        obtain rfl : b = bk := hN
        exact (loadVar_run (hw.chunk hk) t off).1 ha v hv
      · exact False.elim hN
    · rename_i b c e fz hk ha
      cases hc : ((P.info? t).isSome && Nat.ble (off + P.cellsOf t) c.size) with
      | false => rw [hc] at hN; exact False.elim hN
      | true =>
        rw [hc] at hN
        simp only [Bool.and_eq_true, Nat.ble_eq] at hc
        refine ⟨by simp, fun w F hw => ?_⟩
        obtain rfl : b = bk := hN
        simp only [cond_true]
        exact loadAt_run ((loadVar_run (hw.chunk hk) t off).2 ha hc.1 hc.2)
    · exact False.elim hN
  · rename_i k v bk off
    split at hN
    · rename_i b c e fz hk ha
      obtain ⟨rfl, hv⟩ := hN
      exact ⟨rfl, fun w F hw => loadAt_run ((loadVar_run (hw.chunk hk) t off).1 ha v hv)⟩
    · rename_i b c e fz hk ha
      cases hc : (P.info? t).isSome with
      | false => rw [hc] at hN; exact False.elim hN
      | true =>
        rw [hc] at hN
        obtain ⟨rfl, h1, h2⟩ := hN
        refine ⟨rfl, fun w F hw => ?_⟩
        simp only [cond_true]
        rw [← h2]
        exact loadAt_run ((loadVar_run (hw.chunk hk) t off).2 ha hc h1)
    · exact False.elim hN
  · exact ⟨rfl, fun w F hw => loadAt_run (hN w hw.low)⟩
  · exact ⟨rfl, fun w F hw => loadAt_run (hN w hw.low fun p hp => (hw.has p (List.mem_append_left _ hp)).2)⟩
  · exact False.elim hN

theorem storeAt_run {P : Program} {t : TypeId} {a : Addr} {v : Value} {w w' : World} (h : (storeVar t a v).run P w = .ok () w') : (Instr.storeAt t (.pointer (some a)) v).run P w = .ok () w' := by
  simp [Instr.storeAt, Instr.sureAddr, h]

theorem evStore_sound {P : Program} {C : Ctx} {h : Option Hint} {Ls : List Blks} {t : TypeId} {x v : Value} (hN : (evStore P h Ls t x v).ok) :
    (evStore P h Ls t x v).val = undef ∧ ∀ w F, Owns C w (Ls.flatten ++ F) → ∃ w', (Instr.storeAt t x v).run P w = .ok () w' ∧ Owns C w' ((evStore P h Ls t x v).blks.flatten ++ F) := by
  unfold evStore at *
  split at hN
  · rename_i k bk off
    split at hN
    · rename_i b c e fz hk
      cases hc : ((P.info? t).isSome && Nat.beq v.cells.size (P.cellsOf t) && Nat.ble (off + v.cells.size) c.size && Nat.ble fz.2 off && oneCells v.cells.toList) with
      | false => rw [hc] at hN; exact False.elim hN
      | true =>
        rw [hc] at hN
        simp only [Bool.and_eq_true, Nat.ble_eq, oneCells, List.all_eq_true] at hc
        obtain ⟨⟨⟨⟨c1, c2⟩, c3⟩, c4⟩, c5⟩ := hc
        obtain rfl : b = bk := hN
        refine ⟨rfl, fun w F hw => ⟨_, storeAt_run (storeVar_run (hw.chunk hk) t off v c1 (Nat.eq_of_beq_eq_true c2) c3 (.inl c4) c5), ?_⟩⟩
        exact hw.setChunk hk
    · exact False.elim hN
  · rename_i k u bk off
    split at hN
    · rename_i b c e fz hk
      cases hc : ((P.info? t).isSome && Nat.beq v.cells.size (P.cellsOf t) && oneCells v.cells.toList) with
      | false => rw [hc] at hN; exact False.elim hN
      | true =>
        rw [hc] at hN
        simp only [Bool.and_eq_true, oneCells, List.all_eq_true] at hc
        obtain ⟨⟨c1, c2⟩, c5⟩ := hc
        obtain ⟨rfl, c3, c4⟩ := hN
        refine ⟨rfl, fun w F hw => ⟨_, storeAt_run (storeVar_run (hw.chunk hk) t off v c1 (Nat.eq_of_beq_eq_true c2) c3 (.inl c4) c5), ?_⟩⟩
        exact hw.setChunk hk
    · exact False.elim hN
  · rename_i k bk off
    split at hN
    · rename_i b c e fz hk
      cases hc : ((P.info? t).isSome && Nat.beq v.cells.size (P.cellsOf t) && oneCells v.cells.toList) with
      | false => rw [hc] at hN; exact False.elim hN
      | true =>
        rw [hc] at hN
        simp only [Bool.and_eq_true, oneCells, List.all_eq_true] at hc
        obtain ⟨⟨c1, c2⟩, c5⟩ := hc
        obtain ⟨rfl, c3, c4⟩ := hN
        refine ⟨rfl, fun w F hw => ⟨_, storeAt_run (storeVar_run (hw.chunk hk) t off v c1 (Nat.eq_of_beq_eq_true c2) c3 (.inr c4) c5), ?_⟩⟩
        exact hw.setChunk hk
    · exact False.elim hN
  · exact False.elim hN

theorem sliceBounds_run {P : Program} {w : World} (isSlice : Bool) (len cap : Nat) (lo hi : Option Value) (l h : Int) (hl : optInt 0 lo = some l) (hh : optInt len hi = some h) (h0 : 0 ≤ l) (h1 : l ≤ h) (h2 : h ≤ cap) :
    (Instr.sliceBounds isSlice len cap lo hi none).run P w = .ok (l.toNat, h.toNat, cap) w := by
  have bound : ∀ (x : Value) (k : IntKind) (i : Int) (y : Nat) (c : BoundsCode), x = .int k i → 0 ≤ i → i ≤ y → (Instr.sliceBound x y c).run P w = .ok i.toNat w := by
    intro x k i y c hx a b
    subst hx
    simp [Instr.sliceBound, asIntOf, a, b]
  cases lo with
  | none =>
    simp [optInt] at hl
    subst hl
    cases hi with
    | none => simp [optInt] at hh; subst hh; simp [Instr.sliceBounds]
    | some v =>
      cases v <;> simp [optInt] at hh
      subst hh
      simp only [Instr.sliceBounds, Sem.run_bind, Sem.run_pure, Result.andThen_ok]
      rw [bound _ _ _ _ _ rfl (by omega) h2]
      simp
  | some u =>
    cases u <;> simp [optInt] at hl
    subst hl
    cases hi with
    | none =>
      simp [optInt] at hh; subst hh
      simp only [Instr.sliceBounds, Sem.run_bind, Sem.run_pure, Result.andThen_ok]
      rw [bound _ _ _ _ _ rfl h0 (by omega)]
      simp
    | some v =>
      cases v <;> simp [optInt] at hh
      subst hh
      simp only [Instr.sliceBounds, Sem.run_bind, Sem.run_pure, Result.andThen_ok]
      rw [bound _ _ _ _ _ rfl (by omega) h2]
      simp only [Result.andThen_ok]
      rw [bound _ _ _ _ _ rfl h0 (by omega)]
      simp

theorem extract_str (s : ByteArray) (l h : Nat) : Value.string (s.extract l h) = str (((sbytes s).take h).drop l) := by
  unfold str
  congr 1
  apply ByteArray.ext
  apply Array.ext'
  simp [sbytes, ByteArray.data_extract, List.extract_eq_take_drop, List.drop_take]

theorem ev1_q {P : Program} {C : Ctx} {h : Option Hint} {r : Operand → Value} {Ls : List Blks} {o : Oper} (hq : quietOp o = true) (hN : (ev1 P C h r Ls o).ok) :
    (ev1 P C h r Ls o).blks = Ls ∧ GivesQ P C (execOp r o) Ls (ev1 P C h r Ls o).val := by
  unfold ev1 at *
  split at hN
  · rename_i op t x y u ho
    split at hN
    · split at hN
      · rename_i q hq
        refine ⟨rfl, .pure fun w => ?_⟩
        have hg : (eqGuard op t x y (r x) (r y)).run P w = .ok () w := by
          have : op ≠ .eql ∧ op ≠ .neq := by
            constructor <;> (intro e; subst e; simp [evBin] at hq)
          cases op <;> simp_all [eqGuard]
        simp only [execOp, ho, Sem.run_bind, hg, Result.andThen_ok, evBin_sound hq hN]
        rfl
      · rename_i v _ hv
        refine ⟨rfl, .pure fun w => ?_⟩
        obtain ⟨s, t', es, et⟩ := evStr_strings hv
        have hg : (eqGuard op t x y (r x) (r y)).run P w = .ok () w := by
          rw [es, et]
          simp only [eqGuard]
          split <;> rfl
        simp only [execOp, ho, Sem.run_bind, hg, Result.andThen_ok]
        rw [es, et] at hv ⊢
        have e : ∀ b : ByteArray, b.toList = sbytes b := fun b => toList_sbytes b
        cases op
        all_goals first
          | (simp [evStr] at hv; done)
          | (simp only [evStr, Option.some.injEq] at hv; subst hv; simp only [binOp, Op.stringOp, e]; rfl)
      · exact generic_sound hN
    · split at hN
      · rename_i q hq
        refine ⟨rfl, .pure fun w => ?_⟩
        have hg : (eqGuard op t x y (r x) (r y)).run P w = .ok () w := by
          have : op ≠ .eql ∧ op ≠ .neq := by
            constructor <;> (intro e; subst e; simp [evNat] at hq)
          cases op <;> simp_all [eqGuard]
        simp only [execOp, ho, Sem.run_bind, hg, Result.andThen_ok, evNat_sound hq hN]
        rfl
      · exact False.elim hN
    · exact generic_sound hN
  · rename_i s d x ho
    split at hN
    · rename_i k1 k n k2 e1 e2 e3
      refine ⟨rfl, .pure fun w => ?_⟩
      simp only [execOp, ho, convert, Sem.run_bind, run_underlying e1, run_underlying e2, e3, Result.andThen_ok, Conv.intToInt, Sem.run_pure, wrap_in hN]
    · rename_i k1 k n k2 e1 e2 e3
      refine ⟨rfl, .pure fun w => ?_⟩
      obtain ⟨h0, h1⟩ := hN
      obtain ⟨m, rfl⟩ := Int.eq_ofNat_of_zero_le h0
      simp only [execOp, ho, convert, Sem.run_bind, run_underlying e1, run_underlying e2, e3, Result.andThen_ok, Conv.intToInt, Sem.run_pure, wrap_unsigned h1]
      rfl
    · exact generic_sound hN
  · rename_i t x ho
    split at hN
    · rename_i k n e1
      refine ⟨rfl, .pure fun w => ?_⟩
      obtain ⟨h0, h1⟩ := hN
      have hm : natK k k.max := ⟨by have := h0.1; have := h0.2; omega, by omega⟩
      have e : (k.max.toNat ^^^ n.toNat : Nat) = k.max.toNat - n.toNat := by
        obtain ⟨m, hm', _⟩ := natK_pow k
        have hn := natK_lt h0 hm'
        have e2 : k.max.toNat = 2 ^ m - 1 := by
          rw [hm']; omega
        rw [e2]
        exact xor_ones m _ hn
      have hle : ((k.max.toNat - n.toNat : Nat) : Int) ≤ k.max := by have := h0.1; have := hm.1; omega
      simp only [execOp, ho, e1, Op.unary, h1, Bool.false_eq_true, if_false, Op.intBits, BitVec.toNat_xor, natK_bv hm, natK_bv h0, e, natK_in hle]
      rfl
    · exact generic_sound hN
  · rename_i c a b ho
    split at hN
    · rename_i c a b e1 e2 e3
      refine ⟨rfl, .pure fun w => ?_⟩
      simp only [execOp, ho, e1, e2, e3, asBool, Sem.run_bind, Sem.run_pure, Result.andThen_ok]
      cases c <;> rfl
    · exact generic_sound hN
  · rename_i t x i ho
    split at hN
    · rename_i s k i e1 e2 e3
      obtain ⟨h0, h1⟩ := hN
      refine ⟨rfl, .pure fun w => ?_⟩
      have hlt : i.toNat < s.size := by omega
      simp only [execOp, ho, e2, e3, Instr.index, asIntOf, Sem.run_bind, Sem.run_pure, Result.andThen_ok, run_underlying e1, h0, if_true]
      have : s[i.toNat]? = some s[i.toNat] := by simp [hlt]
      rw [this]
      simp only [Sem.run_pure, Result.andThen_ok]
      have e : (sbytes s).getD i.toNat 0 = s[i.toNat] := by
        have : i.toNat < s.data.size := hlt
        show (sbytes s).getD i.toNat 0 = s.data[i.toNat]
        simp only [sbytes, List.getD_eq_getElem?_getD, Array.getElem?_toList, Array.getElem?_eq_getElem this, Option.getD_some]
      rw [e]
    · exact generic_sound hN
  · rename_i t x lo hi ho
    split at hN
    · rename_i s e1 e2
      split at hN
      · rename_i l h el eh
        obtain ⟨h0, h1, h2⟩ := hN
        refine ⟨rfl, .pure fun w => ?_⟩
        have hb := sliceBounds_run (P := P) (w := w) false s.size s.size (lo.map r) (hi.map r) l h el eh h0 h1 h2
        simp only [execOp, ho, e2, Instr.sliceAt, Instr.slice, Sem.run_bind, run_underlying e1, Result.andThen_ok, Option.map_none, Option.isSome_none, Bool.false_eq_true, if_false, hb, Sem.run_pure]
        rw [extract_str s]
      · exact False.elim hN
    · rename_i e a len cap e1 e2
      split at hN
      · rename_i h eh
        cases hc : (P.info? e).isSome with
        | false => rw [hc] at hN; exact False.elim hN
        | true =>
          rw [hc] at hN
          obtain ⟨h0, h1⟩ := hN
          obtain ⟨inf, hinf⟩ := Option.isSome_iff_exists.1 hc
          refine ⟨rfl, .pure fun w => ?_⟩
          have hb := sliceBounds_run (P := P) (w := w) true len cap none (hi.map r) 0 h rfl eh (by omega) h0 h1
          simp only [execOp, ho, e2, Instr.sliceAt, Instr.slice, Sem.run_bind, run_underlying e1, Result.andThen_ok, Option.map_none, hb, Sem.run_pure, run_sizeOf _ hinf]
          have ea : (if cap = Int.toNat 0 then a else Option.map (fun x : Addr => x.add (Int.toNat 0 * P.cellsOf e)) a) = a := by
            split
            · rfl
            · cases a <;> simp [Addr.add]
          rw [ea]
          simp
      · rename_i lo' h eh
        split at hN
        · rename_i b off k l el
          cases hc : (P.info? e).isSome with
          | false => rw [hc] at hN; exact False.elim hN
          | true =>
            rw [hc] at hN
            obtain ⟨h0, h1, h2, h3⟩ := hN
            obtain ⟨inf, hinf⟩ := Option.isSome_iff_exists.1 hc
            refine ⟨rfl, .pure fun w => ?_⟩
            have hb := sliceBounds_run (P := P) (w := w) true len cap (some (r lo')) (hi.map r) l h (by rw [el]; rfl) eh h0 h1 h2
            simp only [execOp, ho, e2, Instr.sliceAt, Instr.slice, Sem.run_bind, run_underlying e1, Result.andThen_ok, Option.map_some, Option.map_none, hb, Sem.run_pure, run_sizeOf _ hinf]
            have ea : (if cap = l.toNat then some (⟨b, off, none⟩ : Addr) else some ((⟨b, off, none⟩ : Addr).add (l.toNat * P.cellsOf e))) = some ⟨b, off + l.toNat * P.cellsOf e, none⟩ := by
              rw [if_neg (by omega)]
              simp only [Addr.add]
              split
              · rename_i e0; rw [e0]; simp
              · rfl
            rw [ea]
            rfl
        · exact False.elim hN
      · exact False.elim hN
    · exact generic_sound hN
  · rename_i t x i ho
    have hadd : ∀ (b off n : Nat), (⟨b, off, none⟩ : Addr).add n = ⟨b, off + n, none⟩ := fun b off n => by
      simp only [Addr.add]
      split
      · rename_i e0; rw [e0]; simp
      · rfl
    split at hN
    · rename_i e b off len cap k i e1 e2 e3
      cases hc : (P.info? e).isSome with
      | false => rw [hc] at hN; exact False.elim hN
      | true =>
        rw [hc] at hN
        obtain ⟨h0, h1⟩ := hN
        obtain ⟨inf, hinf⟩ := Option.isSome_iff_exists.1 hc
        refine ⟨rfl, .pure fun w => ?_⟩
        simp only [execOp, ho, e2, e3, Instr.indexAt, asIntOf, Sem.run_bind, Sem.run_pure, Result.andThen_ok, run_underlying e1, h0, h1, and_self, if_true, run_sizeOf _ hinf, hadd, cond_true]
    · rename_i n e b off k i e1 e2 e3
      cases hc : (P.info? e).isSome with
      | false => rw [hc] at hN; exact False.elim hN
      | true =>
        rw [hc] at hN
        obtain ⟨h0, h1⟩ := hN
        obtain ⟨inf, hinf⟩ := Option.isSome_iff_exists.1 hc
        refine ⟨rfl, .pure fun w => ?_⟩
        simp only [execOp, ho, e2, e3, Instr.indexAt, Instr.sureAddr, asIntOf, Sem.run_bind, Sem.run_pure, Result.andThen_ok, run_underlying e1, h0, h1, and_self, if_true, run_sizeOf _ hinf, hadd, cond_true]
    · exact generic_sound hN
  · rename_i t a ho
    obtain ⟨h1, h2⟩ := evLoad_sound hN
    refine ⟨h1, fun w F hw => .inl ?_⟩
    simp only [execOp, ho, Sem.run_bind, h2 w F hw, Result.andThen_ok]
    rfl
  · rename_i t a x ho
    simp [quietOp, ho] at hq
  · exact generic_sound hN

theorem ev1_sound {P : Program} {C : Ctx} {h : Option Hint} {r : Operand → Value} {Ls : List Blks} {o : Oper} (hk : (match o.op with | .select .. => false | .defer _ => false | _ => true) = true) (hN : (ev1 P C h r Ls o).ok) :
    Gives P C (execOp r o) Ls (ev1 P C h r Ls o).val (ev1 P C h r Ls o).blks := by
  by_cases hq : quietOp o = true
  · obtain ⟨h1, h2⟩ := ev1_q hq hN
    rw [h1]
    exact h2.gives
  · unfold quietOp at hq
    cases ho : o.op <;> simp [ho] at hq hk
    rename_i t a x
    simp only [ev1, ho] at hN ⊢
    obtain ⟨h1, h2⟩ := evStore_sound (C := C) hN
    intro w F hw
    obtain ⟨w', h3, h4⟩ := h2 w F hw
    exact ⟨_, w', by simp only [execOp, ho, Sem.run_bind, h3, Result.andThen_ok]; rfl, .inr ⟨rfl, h1⟩, h4⟩

end Go.Sep
