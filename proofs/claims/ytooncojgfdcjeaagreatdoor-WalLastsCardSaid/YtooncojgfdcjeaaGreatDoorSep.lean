/- Blocks that a call owns, and how the walk of a Go function is shown over them: the base of all walks of this seat. No condition. -/
import Derived.CallsIn
import Derived.RangeFuncIn
import Derived.RangeFuncCalls
import Derived.Below
import Derived.KernelRfl
import Derived.OrdersIn
import Derived.Scope
namespace Go.Sep
open Go

/-! ### What is owned -/
abbrev Blks := List (Nat × Obj)

structure Ctx where
  B : Nat
  W0 : World

structure Owns (C : Ctx) (w : World) (L : Blks) : Prop where
  low : RowKit.Below C.B C.W0 w
  base : C.B ≤ w.heap.size
  nodup : (L.map Prod.fst).Nodup
  has : ∀ p ∈ L, C.B ≤ p.1 ∧ w.heap[p.1]? = some p.2

theorem Owns.get {C : Ctx} {w : World} {L : Blks} (h : Owns C w L) {b : Nat} {o : Obj} (hb : (b, o) ∈ L) : w.heap[b]? = some o := (h.has _ hb).2

theorem Owns.perm {C : Ctx} {w : World} {L L' : Blks} (h : Owns C w L) (hp : L.Perm L') : Owns C w L' :=
  ⟨h.low, h.base, (hp.map _).nodup_iff.1 h.nodup, fun p hp' => h.has p (hp.mem_iff.2 hp')⟩

theorem Owns.sub {C : Ctx} {w : World} {L L' : Blks} (h : Owns C w L) (hs : L'.Sublist L) : Owns C w L' :=
  ⟨h.low, h.base, h.nodup.sublist (hs.map _), fun p hp' => h.has p (hs.subset hp')⟩

theorem Owns.drop {C : Ctx} {w : World} {L L' : Blks} (h : Owns C w (L ++ L')) : Owns C w L' := h.sub (List.sublist_append_right _ _)

theorem Owns.drew {C : Ctx} {w : World} {L : Blks} (h : Owns C w L) (n : Nat) : Owns C { w with drawn := n } L :=
  ⟨⟨h.low.os, h.low.tape, h.low.output, h.low.size, h.low.block⟩, h.base, h.nodup, h.has⟩

theorem Owns.alloc {C : Ctx} {w : World} {L : Blks} (h : Owns C w L) (o : Obj) : Owns C { w with heap := w.heap.push o } ((w.heap.size, o) :: L) := by
  refine ⟨RowKit.Below.alloc h.low h.base o, by simp; have := h.base; omega, ?_, ?_⟩
  · simp only [List.map_cons, List.nodup_cons]
    refine ⟨fun hm => ?_, h.nodup⟩
    obtain ⟨p, hp, he⟩ := List.mem_map.1 hm
    have := (h.has p hp).2
    rw [he] at this
    have := (Array.getElem?_eq_some_iff.1 this).1
    omega
  · intro p hp
    rcases List.mem_cons.1 hp with rfl | hp
    · exact ⟨h.base, by simp⟩
    · refine ⟨(h.has p hp).1, ?_⟩
      have hh := (h.has p hp).2
      have := (Array.getElem?_eq_some_iff.1 hh).1
      show (w.heap.push o)[p.1]? = _
      rw [Array.getElem?_push, if_neg (by omega)]
      exact hh

theorem Owns.set {C : Ctx} {w : World} {L1 L2 : Blks} {b : Nat} {o o' : Obj} (h : Owns C w (L1 ++ (b, o) :: L2)) :
    Owns C { w with heap := w.heap.setIfInBounds b o' } (L1 ++ (b, o') :: L2) := by
  have hb := h.has (b, o) (by simp)
  have hn := h.nodup
  simp only [List.map_append, List.map_cons, List.nodup_append, List.nodup_cons] at hn
  obtain ⟨n1, ⟨n2, n3⟩, n4⟩ := hn
  have hlt := (Array.getElem?_eq_some_iff.1 hb.2).1
  refine ⟨h.low.trans ⟨rfl, rfl, rfl, by simp, fun k hk => ?_⟩, by simp; exact h.base, ?_, ?_⟩
  · show (w.heap.setIfInBounds b o')[k]? = _
    rw [Array.getElem?_setIfInBounds_ne (by have := hb.1; simp at this; omega)]
  · simp only [List.map_append, List.map_cons, List.nodup_append, List.nodup_cons]
    exact ⟨n1, ⟨n2, n3⟩, n4⟩
  · intro p hp
    have hne : p ∈ L1 ∨ p ∈ L2 → p.1 ≠ b := by
      rintro (h1 | h2) e
      · exact n4 p.1 (List.mem_map.2 ⟨p, h1, rfl⟩) b (by simp) e
      · exact n2 (e ▸ List.mem_map.2 ⟨p, h2, rfl⟩)
    have old : p ∈ L1 ∨ p ∈ L2 → C.B ≤ p.1 ∧ (w.heap.setIfInBounds b o')[p.1]? = some p.2 := fun hm => by
      have := h.has p (by rcases hm with h | h <;> simp [h])
      rw [Array.getElem?_setIfInBounds_ne (fun e => hne hm e.symm)]
      exact this
    rcases List.mem_append.1 hp with h1 | h1
    · exact old (.inl h1)
    · rcases List.mem_cons.1 h1 with rfl | h1
      · exact ⟨hb.1, by simp [hlt]⟩
      · exact old (.inr h1)

/-! ### Rows of cells -/
theorem cell_of_block {w : World} {b : Nat} {c : Array Value} {e : TypeId} {fz : Nat × Nat} (h : w.heap[b]? = some (.cells c e fz)) (a : Addr) (ha : a.block = b) (hs : a.spot = none) :
    w.cell? a = c[a.off]? := by
  subst ha
  simp [World.cell?, h, hs]

theorem setCell_of_block {w : World} {b : Nat} {c : Array Value} {e : TypeId} {fz : Nat × Nat} (h : w.heap[b]? = some (.cells c e fz)) (a : Addr) (ha : a.block = b) (hs : a.spot = none) (v : Value) :
    w.setCell a v = { w with heap := w.heap.setIfInBounds b (.cells (c.setIfInBounds a.off v) e fz) } := by
  subst ha
  have hlt := (Array.getElem?_eq_some_iff.1 h).1
  have hv := (Array.getElem?_eq_some_iff.1 h).2
  simp only [World.setCell]
  congr 1
  apply Array.ext_getElem?
  intro i
  rw [Array.getElem?_modify]
  by_cases hi : a.block = i
  · subst hi; simp [hs, hlt, hv]
  · rw [if_neg hi, Array.getElem?_setIfInBounds_ne hi]

/-! ### Judgements -/
def Fd (rd : Option Nat) : Fence := { fn := fun _ => True, depth := none, alive := false, round := rd }
theorem Fd_none : Fd none = Fence.wide := rfl
theorem Fd_room (rd : Option Nat) (n : Nat) : (Fd rd).room n := fun _ h => by simp [Fd] at h
theorem Fd_depth (rd : Option Nat) (n : Nat) : (Fd rd).depth.isSome = true → 1 ≤ n := fun h => by simp [Fd] at h

section
variable (P : Program) (C : Ctx)

/-- A call: whatever else is owned stays as it is. -/
def FnT (f : FuncId) (args : Array Value) (Ls : List Blks) (R : Value → List Blks → Prop) : Prop :=
  ∀ w F, Owns C w (Ls.flatten ++ F) → Calls P f args w fun e w' => ∃ v Ls', e = .returned v ∧ Owns C w' (List.flatten Ls' ++ F) ∧ R v Ls'

/-- A piece of code. -/
def Cd (rd : Option Nat) (c : Code) (a : Act) (Ls : List Blks) (Q : Exit → Act → List Blks → Prop) : Prop :=
  ∀ w F, Owns C w (Ls.flatten ++ F) → c.wpIn (Fd rd) 0 P (fun e a' w' => ∃ Ls', Owns C w' (List.flatten Ls' ++ F) ∧ Q e a' Ls') a w

/-- Operations of a region, in this order. -/
def Rg (rd : Option Nat) (ops : Array Oper) (todo : List Nat) (a : Act) (Ls : List Blks) (K : Act → List Blks → Prop) : Prop :=
  ∀ w F, Owns C w (Ls.flatten ++ F) → wpOpsIn (Fd rd) 0 P ops (fun e a' w' => e = .normal ∧ ∃ Ls', Owns C w' (List.flatten Ls' ++ F) ∧ K a' Ls') todo a w
end

/-! ### Temporaries -/
abbrev Env := List (Nat × Value)
def look : Env → Nat → Option Value
  | [], _ => none
  | (k, v) :: E, i => bif Nat.beq k i then some v else look E i

structure Agr (n : Nat) (D : List Deferred) (E : Env) (a : Act) : Prop where
  size : a.tmps.size = n
  defers : a.defers = D
  look : ∀ i v, look E i = some v → a.tmps[i]? = some v

theorem Agr.getD {n : Nat} {D : List Deferred} {E : Env} {a : Act} (h : Agr n D E a) {i : Nat} {v : Value} (hl : Sep.look E i = some v) : a.tmps.getD i undef = v := by
  have := h.look i v hl
  simp [Array.getD_eq_getD_getElem?, this]

theorem look_cons (k : Nat) (v : Value) (E : Env) (i : Nat) : look ((k, v) :: E) i = if k = i then some v else look E i := by
  simp only [look]
  by_cases h : k = i
  · subst h; simp
  · have : Nat.beq k i = false := by rw [← Bool.not_eq_true]; exact fun e => h (Nat.eq_of_beq_eq_true e)
    simp [this, h]

theorem Agr.put {n : Nat} {D : List Deferred} {E : Env} {a : Act} (h : Agr n D E a) {d : Nat} (hd : d < n) (v : Value) : Agr n D ((d, v) :: E) (a.put (some d) v) := by
  refine ⟨by simp [Act.put, h.size], h.defers, fun i u hl => ?_⟩
  rw [look_cons] at hl
  by_cases hi : d = i
  · subst hi
    simp at hl
    subst hl
    simp [Act.put, h.size, hd]
  · rw [if_neg hi] at hl
    simp only [Act.put]
    rw [Array.getElem?_setIfInBounds_ne hi]
    exact h.look i u hl

theorem Agr.put_none {n : Nat} {D : List Deferred} {E : Env} {a : Act} (h : Agr n D E a) (v : Value) : Agr n D E (a.put none v) := h

/-- Fewer temporaries are told. -/
theorem Agr.weak {n : Nat} {D : List Deferred} {E E' : Env} {a : Act} (h : Agr n D E a) (hE : ∀ i v, Sep.look E' i = some v → Sep.look E i = some v) : Agr n D E' a :=
  ⟨h.size, h.defers, fun i v hl => h.look i v (hE i v hl)⟩

def restrict (E : Env) : List Nat → Env
  | [] => []
  | k :: ks => match look E k with
    | some v => (k, v) :: restrict E ks
    | none => restrict E ks

theorem look_restrict (E : Env) (ks : List Nat) (i : Nat) (v : Value) (h : look (restrict E ks) i = some v) : look E i = some v := by
  induction ks with
  | nil => simp [restrict, look] at h
  | cons k ks ih =>
    simp only [restrict] at h
    split at h
    · rename_i u hu
      rw [look_cons] at h
      by_cases e : k = i
      · subst e; simp at h; subst h; exact hu
      · rw [if_neg e] at h; exact ih h
    · exact ih h

theorem Agr.restrict {n : Nat} {D : List Deferred} {E : Env} {a : Act} (h : Agr n D E a) (ks : List Nat) : Agr n D (Sep.restrict E ks) a :=
  h.weak (look_restrict E ks)

/-- An operand's value as the environment tells it. -/
def evo (E : Env) : Operand → Option Value
  | .tmp t => look E t
  | .const v => some v
  | .global g => some (.pointer (some ⟨g, 0, none⟩))
  | .func f => some (.func (.func f) #[] #[])
def ρ (E : Env) (x : Operand) : Value := (evo E x).getD undef

theorem Agr.eval {n : Nat} {D : List Deferred} {E : Env} {a : Act} (h : Agr n D E a) {x : Operand} (hx : (evo E x).isSome = true) : a.eval x = ρ E x := by
  cases x with
  | tmp t =>
    simp only [evo] at hx
    obtain ⟨v, hv⟩ := Option.isSome_iff_exists.1 hx
    simp [ρ, evo, hv, Act.eval, Array.getD_eq_getD_getElem?, h.look _ _ hv]
  | _ => rfl

def known (E : Env) (o : Oper) : Bool := (o.op.operands.toList.all fun x => (evo E x).isSome) && (match o.op with | .select .. => false | .defer _ => false | _ => true)

theorem known_exec {n : Nat} {D : List Deferred} {E : Env} {a : Act} (h : Agr n D E a) {o : Oper} (hk : known E o = true) : execOp a.eval o = execOp (ρ E) o := by
  simp only [known, Bool.and_eq_true, List.all_eq_true] at hk
  refine execOp_congr o (fun cs b e => by simp [e] at hk) fun x hx => h.eval (hk.1 x (by simpa using hx))

theorem known_semAt {n : Nat} {D : List Deferred} {E : Env} {a : Act} (h : Agr n D E a) {o : Oper} (hk : known E o = true) (rd : Option Nat) : o.semAt rd a.eval = execOp (ρ E) o := by
  rw [Oper.semAt_eq rd _ _ (fun c e => by simp [known, e] at hk), known_exec h hk]

/-- Is an operation carried out? -/
def asked (ops : Array Oper) (E : Env) (o : Oper) : Option Bool :=
  match o.guard with
  | none => some true
  | some (j, want) => match ((ops[j]?).bind (·.dst)).bind (look E) with
    | some (.bool b) => some (b == want)
    | some (.tuple _) => some false
    | _ => none

theorem asked_wanted {n : Nat} {D : List Deferred} {E : Env} {a : Act} (h : Agr n D E a) {ops : Array Oper} {o : Oper} {b : Bool} (hb : asked ops E o = some b) :
    Region.wanted o (yielded ops a.tmps) = b := by
  unfold asked at hb
  unfold Region.wanted
  cases hg : o.guard with
  | none => simp [hg] at hb; simp [hb]
  | some g =>
    obtain ⟨j, want⟩ := g
    simp only [hg] at hb
    split at hb
    · rename_i c hc
      simp at hb
      obtain ⟨d, hd, hl⟩ := Option.bind_eq_some_iff.1 hc
      have := h.look d _ hl
      simp only [yielded, hd, Option.bind_some, this]
      rw [← hb]
      cases c <;> cases want <;> rfl
    · rename_i c hc
      simp at hb
      obtain ⟨d, hd, hl⟩ := Option.bind_eq_some_iff.1 hc
      have := h.look d _ hl
      simp only [yielded, hd, Option.bind_some, this]
      rw [hb]
      rfl
    · simp at hb

/-! ### Steps of a region, over an environment -/
section
variable (P : Program) (C : Ctx)
def RgE (rd : Option Nat) (n : Nat) (D : List Deferred) (ops : Array Oper) (todo : List Nat) (E : Env) (Ls : List Blks) (K : Act → List Blks → Prop) : Prop :=
  ∀ a, Agr n D E a → Rg P C rd ops todo a Ls K
def CdE (rd : Option Nat) (n : Nat) (D : List Deferred) (c : Code) (E : Env) (Ls : List Blks) (Q : Exit → Act → List Blks → Prop) : Prop :=
  ∀ a, Agr n D E a → Cd P C rd c a Ls Q
end

section
variable {P : Program} {C : Ctx} {rd : Option Nat} {n : Nat} {D : List Deferred} {ops : Array Oper} {K : Act → List Blks → Prop} {E : Env} {Ls : List Blks}

theorem rg_nil (h : ∀ a, Agr n D E a → K a Ls) : RgE P C rd n D ops [] E Ls K :=
  fun a ha _ _ hw => ⟨rfl, Ls, hw, h a ha⟩

/-- What a step that yields a value owes. -/
def Gives (P : Program) (C : Ctx) (s : Sem Next) (Ls : List Blks) (v : Value) (Ls' : List Blks) : Prop :=
  ∀ w F, Owns C w (Ls.flatten ++ F) → ∃ nx w', s.run P w = .ok nx w' ∧ (nx = .value v ∨ (nx = .skip ∧ v = undef)) ∧ Owns C w' (List.flatten Ls' ++ F)

def push (dst : Option Tmp) (v : Value) (E : Env) : Env := match dst with | some d => (d, v) :: E | none => E
theorem Agr.push {a : Act} {dst : Option Tmp} {v : Value} (h : Agr n D E a) (hd : (dst.all fun d => Nat.blt d n) = true) : Agr n D (Sep.push dst v E) (a.put dst v) := by
  cases dst with
  | none => exact h
  | some d => exact h.put (by simpa [Nat.blt_eq] using hd) v

/-- One operation that yields a value, whatever the world. -/
theorem rg_gives {i : Nat} {rest : List Nat} {o : Oper} {v : Value} {Ls' : List Blks} (ho : ops[i]? = some o) (hg : asked ops E o = some true) (hk : known E o = true)
    (hd : (o.dst.all fun d => Nat.blt d n) = true) (hs : Gives P C (execOp (ρ E) o) Ls v Ls')
    (h : RgE P C rd n D ops rest (push o.dst v E) Ls' K) : RgE P C rd n D ops (i :: rest) E Ls K := by
  intro a ha w F hw
  obtain ⟨nx, w', hr, hnx, hw'⟩ := hs w F hw
  simp only [wpOpsIn, ho, asked_wanted ha hg, if_true, Oper.wpIn]
  refine ⟨fun _ _ => trivial, ?_⟩
  rw [show (Fd rd).round = rd from rfl, known_semAt ha hk, hr]
  rcases hnx with rfl | ⟨rfl, rfl⟩
  · exact h _ (ha.push hd) w' F hw'
  · exact h _ (ha.push hd) w' F hw'

/-- One operation that is passed over. -/
theorem rg_skip {i : Nat} {rest : List Nat} {o : Oper} (ho : ops[i]? = some o) (hg : asked ops E o = some false) (hd : (o.dst.all fun d => Nat.blt d n) = true)
    (h : RgE P C rd n D ops rest (push o.dst undef E) Ls K) : RgE P C rd n D ops (i :: rest) E Ls K := by
  intro a ha w F hw
  simp only [wpOpsIn, ho, asked_wanted ha hg]
  exact ⟨fun _ _ => trivial, h _ (ha.push hd) w F hw⟩

/-- Another spelling of the temporaries: fewer of them, or equal values. -/
theorem rg_env {todo : List Nat} (E' : Env) (hE : ∀ a, Agr n D E a → Agr n D E' a) (h : RgE P C rd n D ops todo E' Ls K) : RgE P C rd n D ops todo E Ls K :=
  fun a ha => h a (hE a ha)

theorem rg_blks {todo : List Nat} (Ls' : List Blks) (hL : (Ls.flatten).Perm Ls'.flatten) (h : RgE P C rd n D ops todo E Ls' K) : RgE P C rd n D ops todo E Ls K :=
  fun a ha w F hw => h a ha w F (hw.perm (hL.append_right F))
end

end Go.Sep
