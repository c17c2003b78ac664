/- The rules of the walk over owned blocks: segments of regions, tests, loops, scopes, calls, entry and return. No condition. -/
import Derived.Test.YtooncojgfdcjeaaGreatDoorEv
import Derived.RangeFuncLeaves
import Derived.RangeFuncRecord
namespace Go.Sep
open Go

/-! ### A segment: operations one behind the other, reckoned -/
def hintOf : List (Nat × Hint) → Nat → Option Hint
  | [], _ => none
  | (k, h) :: H, i => bif Nat.beq k i then some h else hintOf H i

structure Seg where
  E : Env
  Ls : List Blks
  needs : List Prop

def consN (n : Option Prop) (l : List Prop) : List Prop := match n with | none => l | some p => p :: l
def AllN : List Prop → Prop
  | [] => True
  | [a] => a
  | a :: b :: l => a ∧ AllN (b :: l)
theorem AllN_cons {a : Prop} {l : List Prop} (h : AllN (a :: l)) : a ∧ AllN l := by
  cases l with
  | nil => exact ⟨h, trivial⟩
  | cons b l => exact h

def dstOk (n : Nat) (o : Oper) : Bool := match o.dst with | none => true | some d => Nat.blt d n

def seg (P : Program) (C : Ctx) (n : Nat) (ops : Array Oper) (H : List (Nat × Hint)) : List Nat → Env → List Blks → Seg
  | [], E, Ls => ⟨E, Ls, []⟩
  | i :: rest, E, Ls =>
    match ops[i]? with
    | none => ⟨E, Ls, [False]⟩
    | some o =>
      match asked ops E o with
      | some true =>
        bif known E o && dstOk n o then
          ⟨(seg P C n ops H rest (push o.dst (ev1 P C (hintOf H i) (ρ E) Ls o).val E) (ev1 P C (hintOf H i) (ρ E) Ls o).blks).E,
           (seg P C n ops H rest (push o.dst (ev1 P C (hintOf H i) (ρ E) Ls o).val E) (ev1 P C (hintOf H i) (ρ E) Ls o).blks).Ls,
           consN (ev1 P C (hintOf H i) (ρ E) Ls o).need (seg P C n ops H rest (push o.dst (ev1 P C (hintOf H i) (ρ E) Ls o).val E) (ev1 P C (hintOf H i) (ρ E) Ls o).blks).needs⟩
        else ⟨E, Ls, [False]⟩
      | some false => bif dstOk n o then seg P C n ops H rest (push o.dst undef E) Ls else ⟨E, Ls, [False]⟩
      | none => ⟨E, Ls, [False]⟩

section
variable {P : Program} {C : Ctx} {rd : Option Nat} {n : Nat} {D : List Deferred} {ops : Array Oper} {K : Act → List Blks → Prop} {E : Env} {Ls : List Blks}

theorem dstOk_all {o : Oper} (h : dstOk n o = true) : (o.dst.all fun d => Nat.blt d n) = true := by
  unfold dstOk at h
  cases hd : o.dst with
  | none => rfl
  | some d => simpa [hd] using h

theorem rg_seg' (H : List (Nat × Hint)) {rest : List Nat} : ∀ (idxs : List Nat) (E : Env) (Ls : List Blks), AllN (seg P C n ops H idxs E Ls).needs →
    RgE P C rd n D ops rest (seg P C n ops H idxs E Ls).E (seg P C n ops H idxs E Ls).Ls K → RgE P C rd n D ops (idxs ++ rest) E Ls K
  | [], _, _, _, h => h
  | i :: idxs, E, Ls, hN, h => by
    simp only [seg] at hN h
    cases ho : ops[i]? with
    | none => simp only [ho] at hN; exact hN.elim
    | some o =>
      simp only [ho] at hN h
      cases hg : asked ops E o with
      | none => simp only [hg] at hN; exact hN.elim
      | some b =>
        simp only [hg] at hN h
        cases b with
        | true =>
          simp only [] at hN h
          cases hk : (known E o && dstOk n o) with
          | false => rw [hk] at hN; exact hN.elim
          | true =>
            rw [hk] at hN h
            simp only [cond_true] at hN h
            rw [Bool.and_eq_true] at hk
            have hq : (ev1 P C (hintOf H i) (ρ E) Ls o).ok ∧ AllN (seg P C n ops H idxs (push o.dst (ev1 P C (hintOf H i) (ρ E) Ls o).val E) (ev1 P C (hintOf H i) (ρ E) Ls o).blks).needs := by
              unfold Out.ok
              generalize (ev1 P C (hintOf H i) (ρ E) Ls o).need = nd at hN ⊢
              cases nd with
              | none => exact ⟨trivial, hN⟩
              | some p => exact AllN_cons hN
            exact rg_gives ho hg hk.1 (dstOk_all hk.2) (ev1_sound (by have := hk.1; simp only [known, Bool.and_eq_true] at this; exact this.2) hq.1) (rg_seg' H idxs _ _ hq.2 h)
        | false =>
          simp only [] at hN h
          cases hd : dstOk n o with
          | false => rw [hd] at hN; exact hN.elim
          | true =>
            rw [hd] at hN h
            exact rg_skip ho hg (dstOk_all hd) (rg_seg' H idxs _ _ hN h)

/-- A segment, its result restated: what is still wanted of the temporaries, the blocks, the premises. -/
theorem rg_seg (H : List (Nat × Hint)) (idxs rest : List Nat) (N : Prop) (ks : List Nat) (E' : Env) (Ls' : List Blks) {todo : List Nat} (htodo : todo = idxs ++ rest)
    (h1 : AllN (seg P C n ops H idxs E Ls).needs = N) (h2 : restrict (seg P C n ops H idxs E Ls).E ks = E') (h3 : (seg P C n ops H idxs E Ls).Ls = Ls') (hN : N)
    (h : RgE P C rd n D ops rest E' Ls' K) : RgE P C rd n D ops todo E Ls K := by
  subst htodo
  refine rg_seg' H idxs E Ls (h1 ▸ hN) ?_
  rw [h3]
  refine rg_env E' (fun a ha => ?_) h
  rw [← h2]
  exact ha.restrict ks

/-- A value is restated. -/
theorem rg_put {todo : List Nat} (d : Nat) (v v' : Value) (hl : look E d = some v) (hv : v = v') (h : RgE P C rd n D ops todo ((d, v') :: E) Ls K) : RgE P C rd n D ops todo E Ls K :=
  rg_env ((d, v') :: E) (fun a ha => ha.weak fun i u hu => by
    rw [look_cons] at hu
    by_cases e : d = i
    · subst e; simp at hu; rw [hl, hv, hu]
    · rwa [if_neg e] at hu) h

/-- A test that guards what follows: both ways. -/
theorem rg_split {todo : List Nat} (d : Nat) (b : Bool) (hl : look E d = some (.bool b))
    (ht : b = true → RgE P C rd n D ops todo ((d, .bool true) :: E) Ls K) (hf : b = false → RgE P C rd n D ops todo ((d, .bool false) :: E) Ls K) : RgE P C rd n D ops todo E Ls K := by
  cases b with
  | true => exact rg_put d _ _ hl rfl (ht rfl)
  | false => exact rg_put d _ _ hl rfl (hf rfl)

/-! ### New blocks -/
def newNext (P : Program) : Sem Next → Option (Obj × (Nat → Option Next))
  | .new o k => some (o, fun r => pureNext P (k r))
  | .program k => newNext P (k P)
  | .mark _ k => newNext P k
  | _ => none

theorem newNext_sound {w : World} : ∀ {s : Sem Next} {o : Obj} {f : Nat → Option Next} {x : Next}, newNext P s = some (o, f) → f w.heap.size = some x →
    s.run P w = .ok x { w with heap := w.heap.push o } := by
  intro s
  induction s with
  | new ob k _ =>
    intro o f x h hx
    simp only [newNext, Option.some.injEq, Prod.mk.injEq] at h
    obtain ⟨rfl, rfl⟩ := h
    simp only [Sem.run]
    exact pureNext_sound hx
  | program k ih => intro o f x h hx; simp only [newNext] at h; simp only [Sem.run]; exact ih P h hx
  | mark m k ih => intro o f x h hx; simp only [newNext] at h; simp only [Sem.run]; exact ih h hx
  | _ => intro o f x h; simp [newNext] at h

/-- Operation number i. -/
def opAt (ops : Array Oper) (i : Nat) : Oper := (ops[i]?).getD default
theorem opAt_some {i : Nat} (h : Nat.blt i ops.size = true) : ops[i]? = some (opAt ops i) := by
  rw [Nat.blt_eq] at h
  simp [opAt, h]
/-- It is asked for, told, and lands in the frame. -/
def fit (n : Nat) (ops : Array Oper) (E : Env) (i : Nat) : Bool := Nat.blt i ops.size && known E (opAt ops i) && dstOk n (opAt ops i) && (match asked ops E (opAt ops i) with | some true => true | _ => false)
theorem fit_spec {i : Nat} (h : fit n ops E i = true) : ops[i]? = some (opAt ops i) ∧ asked ops E (opAt ops i) = some true ∧ known E (opAt ops i) = true ∧ dstOk n (opAt ops i) = true := by
  simp only [fit, Bool.and_eq_true] at h
  obtain ⟨⟨⟨h1, h2⟩, h3⟩, h4⟩ := h
  refine ⟨opAt_some h1, ?_, h2, h3⟩
  cases ha : asked ops E (opAt ops i) with
  | none => simp [ha] at h4
  | some b => cases b <;> simp_all

/-- One operation that lays a new block. -/
theorem rg_new (i : Nat) (rest : List Nat) (ob : Obj) (v : Nat → Value) (hf : fit n ops E i = true)
    (hs : newNext P (execOp (ρ E) (opAt ops i)) = some (ob, fun b => some (.value (v b))))
    (h : ∀ b, RgE P C rd n D ops rest (push (opAt ops i).dst (v b) E) (Ls ++ [[(b, ob)]]) K) : RgE P C rd n D ops (i :: rest) E Ls K := by
  intro a ha w F hw
  obtain ⟨ho, hg, hk, hd⟩ := fit_spec hf
  simp only [wpOpsIn, ho, asked_wanted ha hg, if_true, Oper.wpIn]
  refine ⟨fun _ _ => trivial, ?_⟩
  rw [show (Fd rd).round = rd from rfl, known_semAt ha hk, newNext_sound hs rfl]
  refine h w.heap.size _ (ha.push (dstOk_all hd)) _ F ((hw.alloc ob).perm ?_)
  simp only [List.flatten_append, List.flatten_cons, List.flatten_nil, List.append_nil, List.append_assoc]
  exact (List.perm_middle (l₁ := Ls.flatten) (l₂ := F) (a := (w.heap.size, ob))).symm

/-! ### Calls -/
theorem FnT.mono {f : FuncId} {args : Array Value} {R R' : Value → List Blks → Prop} (h : FnT P C f args Ls R) (hr : ∀ v L, R v L → R' v L) : FnT P C f args Ls R' :=
  fun w F hw => (h w F hw).mono fun _ _ ⟨v, L, he, ho, r⟩ => ⟨v, L, he, ho, hr v L r⟩

/-- The blocks that the callee is handed, and the others. -/
theorem FnT.frame {f : FuncId} {args : Array Value} {L1 L2 : List Blks} {R : Value → List Blks → Prop} (h : FnT P C f args L1 R) (hp : Ls.flatten.Perm (L1.flatten ++ L2.flatten)) :
    FnT P C f args Ls (fun v L => ∃ L', L = L' ++ L2 ∧ R v L') := by
  intro w F hw
  refine (h w (L2.flatten ++ F) (hw.perm (by rw [← List.append_assoc]; exact hp.append_right F))).mono fun _ _ ⟨v, L, he, ho, r⟩ => ⟨v, L ++ L2, he, ?_, L, rfl, r⟩
  simpa [List.append_assoc] using ho

/-- Chunks taken out, one after the other, each counted in what is left. -/
def pull : List Nat → List Blks → List Blks × List Blks
  | [], L => ([], L)
  | k :: ks, L => match L[k]? with
    | some x => (x :: (pull ks (L.eraseIdx k)).1, (pull ks (L.eraseIdx k)).2)
    | none => ([], L)

theorem perm_erase {α : Type} {L : List α} {k : Nat} {x : α} (h : L[k]? = some x) : L.Perm (x :: L.eraseIdx k) := by
  induction L generalizing k with
  | nil => simp at h
  | cons y ys ih =>
    cases k with
    | zero => simp at h; subst h; simp
    | succ k =>
      simp only [List.getElem?_cons_succ] at h
      simp only [List.eraseIdx_cons_succ]
      exact ((ih h).cons y).trans (List.Perm.swap _ _ _)

theorem pull_perm : ∀ (ks : List Nat) (L : List Blks), L.Perm ((pull ks L).1 ++ (pull ks L).2)
  | [], L => by simp [pull]
  | k :: ks, L => by
    simp only [pull]
    cases h : L[k]? with
    | none => simp
    | some x => exact (perm_erase h).trans ((pull_perm ks (L.eraseIdx k)).cons x)

theorem pull_flat {ks : List Nat} {L L1 L2 : List Blks} (h : pull ks L = (L1, L2)) : L.flatten.Perm (L1.flatten ++ L2.flatten) := by
  have := (pull_perm ks L).flatten
  rw [h] at this
  simpa using this

theorem callsFd (rd : Option Nat) {m : Nat} {f : FuncId} {args : Array Value} {w : World} {R : Ending → World → Prop} (h : CallsIn Fence.wide m P f args w R) : CallsIn (Fd rd) m P f args w R := by
  cases rd with
  | none => exact h
  | some l => exact CallsIn.inRound l h

/-- A call of a function of the program. -/
theorem rg_call (i : Nat) (rest : List Nat) (f : FuncId) (args : Array Value) (ks : List Nat) (L1 L2 : List Blks) {R : Value → List Blks → Prop} (hf : fit n ops E i = true)
    (hs : pureNext P (execOp (ρ E) (opAt ops i)) = some (.enter f args)) (hp : pull ks Ls = (L1, L2)) (hc : FnT P C f args L1 R)
    (h : ∀ v L', R v L' → RgE P C rd n D ops rest (push (opAt ops i).dst v E) (L' ++ L2) K) : RgE P C rd n D ops (i :: rest) E Ls K := by
  intro a ha w F hw
  obtain ⟨ho, hg, hk, hd⟩ := fit_spec hf
  simp only [wpOpsIn, ho, asked_wanted ha hg, if_true, Oper.wpIn]
  refine ⟨fun _ _ => trivial, ?_⟩
  rw [show (Fd rd).round = rd from rfl, known_semAt ha hk, pureNext_sound hs]
  refine ⟨Fd_depth rd 0, ?_⟩
  have h1 := callsIn_wide (n := 0 - 1) |>.2 ((FnT.frame hc (pull_flat hp)) w F hw)
  refine (callsFd rd h1).mono fun e w' ⟨v, L, he, ho', L', hL, hR⟩ => ?_
  subst he
  exact h v L' hR _ (ha.push (dstOk_all hd)) w' F (hL ▸ ho')

theorem rg_done (ks : List Nat) (E' : Env) {y : Code} {Q : Exit → Act → List Blks → Prop} (hE : restrict E ks = E') (h : CdE P C rd n D y E' Ls Q) : RgE P C rd n D ops [] E Ls (fun a L => Cd P C rd y a L Q) :=
  rg_nil fun a ha => h a (hE ▸ ha.restrict ks)
end

/-! ### The least number of a kind -/
theorem exists_least {p : Nat → Prop} (h : ∃ m, p m) : ∃ m, p m ∧ ∀ k, p k → m ≤ k := by
  obtain ⟨m, hm⟩ := h
  induction m using Nat.strongRecOn with
  | _ m ih =>
    by_cases hx : ∃ k, k < m ∧ p k
    · obtain ⟨k, hk, hp⟩ := hx; exact ih k hk hp
    · exact ⟨m, hm, fun k hk => Nat.le_of_not_lt fun hlt => hx ⟨k, hlt, hk⟩⟩
open Classical in
noncomputable def least (p : Nat → Prop) : Nat := if h : ∃ m, p m then Classical.choose (exists_least h) else 0
theorem least_spec {p : Nat → Prop} (h : ∃ m, p m) : p (least p) ∧ ∀ k, p k → least p ≤ k := by
  unfold least
  rw [dif_pos h]
  exact Classical.choose_spec (exists_least h)

/-! ### Code -/
def thenQ (K : Act → List Blks → Prop) (Q : Exit → Act → List Blks → Prop) : Exit → Act → List Blks → Prop
  | .normal, a, L => K a L
  | e, a, L => Q e a L
def blockQ (id : Nat) (Q : Exit → Act → List Blks → Prop) : Exit → Act → List Blks → Prop
  | .exit j, a, L => if j = id then Q .normal a L else Q (.exit j) a L
  | e, a, L => Q e a L

section
variable {P : Program} {C : Ctx} {rd : Option Nat} {n : Nat} {D : List Deferred} {E : Env} {Ls : List Blks} {Q : Exit → Act → List Blks → Prop}

theorem cd_mono {c : Code} {Q' : Exit → Act → List Blks → Prop} (h : CdE P C rd n D c E Ls Q) (hq : ∀ e a L, Q e a L → Q' e a L) : CdE P C rd n D c E Ls Q' :=
  fun a ha w F hw => wpIn_mono (h a ha w F hw) fun _ _ _ ⟨L, ho, hQ⟩ => ⟨L, ho, hq _ _ _ hQ⟩

theorem cd_seq {x y : Code} (h : CdE P C rd n D x E Ls (thenQ (fun a L => Cd P C rd y a L Q) Q)) : CdE P C rd n D (.seq x y) E Ls Q := by
  intro a ha w F hw
  refine wpIn_seq (wpIn_mono (h a ha w F hw) fun e a' w' ⟨L, ho, hQ⟩ => ?_)
  cases e with
  | normal => exact hQ w' F ho
  | _ => exact ⟨L, ho, hQ⟩

theorem cd_region {id : Nat} {ops : Array Oper} (h : RgE P C rd n D ops (List.range ops.size) E Ls (fun a L => Q .normal a L)) : CdE P C rd n D (.region id ops false) E Ls Q := by
  intro a ha w F hw
  refine wpIn_mono (wpIn_region (h a ha w F hw)) fun e a' w' ⟨he, L, ho, hK⟩ => ⟨L, ho, he ▸ hK⟩

/-- A region at the head of a sequence. -/
theorem cd_rg {id : Nat} {ops : Array Oper} {y : Code} (h : RgE P C rd n D ops (List.range ops.size) E Ls (fun a L => Cd P C rd y a L Q)) : CdE P C rd n D (.seq (.region id ops false) y) E Ls Q :=
  cd_seq (cd_region h)

theorem cd_skip (h : ∀ a, Agr n D E a → Q .normal a Ls) : CdE P C rd n D .skip E Ls Q :=
  fun a ha _ _ hw => wpIn_skip ⟨Ls, hw, h a ha⟩
theorem cd_label {l : Nat} (h : ∀ a, Agr n D E a → Q .normal a Ls) : CdE P C rd n D (.label l) E Ls Q :=
  fun a ha _ _ hw => wpIn_label ⟨Ls, hw, h a ha⟩
theorem cd_exit {id : Nat} (h : ∀ a, Agr n D E a → Q (.exit id) a Ls) : CdE P C rd n D (.exit id) E Ls Q :=
  fun a ha _ _ hw => wpIn_exit ⟨Ls, hw, h a ha⟩
theorem cd_goto {l : Nat} (h : ∀ a, Agr n D E a → Q (.goto l) a Ls) : CdE P C rd n D (.goto l) E Ls Q :=
  fun a ha _ _ hw => wpIn_goto ⟨Ls, hw, h a ha⟩
theorem cd_ret (h : ∀ a, Agr n D E a → Q .ret a Ls) : CdE P C rd n D .ret E Ls Q :=
  fun a ha _ _ hw => wpIn_ret ⟨Ls, hw, h a ha⟩

theorem cd_if {c : Operand} {x y : Code} (b : Bool) (hb : evo E c = some (.bool b)) (ht : b = true → CdE P C rd n D x E Ls Q) (hf : b = false → CdE P C rd n D y E Ls Q) : CdE P C rd n D (.cond c x y) E Ls Q := by
  intro a ha w F hw
  have he : a.eval c = .bool b := by rw [ha.eval (by rw [hb]; rfl)]; simp [ρ, hb]
  exact wpIn_cond_split he (fun h => ht h a ha w F hw) (fun h => hf h a ha w F hw)

theorem cd_block {id : Nat} {c : Code} (h : CdE P C rd n D c E Ls (blockQ id Q)) : CdE P C rd n D (.block id c) E Ls Q := by
  intro a ha w F hw
  refine wpIn_block (wpIn_mono (h a ha w F hw) fun e a' w' ⟨L, ho, hQ⟩ => ?_)
  cases e with
  | exit j =>
    by_cases hj : j = id
    · subst hj; simp only [Exit.inBlock, if_true]; simp only [blockQ, if_true] at hQ; exact ⟨L, ho, hQ⟩
    · simp only [Exit.inBlock, hj, if_false]; simp only [blockQ, hj, if_false] at hQ; exact ⟨L, ho, hQ⟩
  | _ => exact ⟨L, ho, hQ⟩

/-- A loop, by a ghost: what holds at each round's head, and a number that each round lowers. -/
theorem cd_loop {X : Type} {c : Code} (E0 : X → Env) (L0 : X → List Blks) (I : X → Prop) (μ : X → Nat) (x0 : X) (ks : List Nat) (hE : restrict E ks = E0 x0) (hL : Ls = L0 x0) (hI : I x0)
    (round : ∀ x, I x → CdE P C rd n D c (E0 x) (L0 x) (thenQ (fun a L => ∃ y, I y ∧ μ y < μ x ∧ Agr n D (E0 y) a ∧ L = L0 y) Q)) : CdE P C rd n D (.loop c) E Ls Q := by
  intro a ha w F hw
  refine wpIn_loop (F := Fd rd) (n := 0) (P := P) (Q := fun e a' w' => ∃ L', Owns C w' (List.flatten L' ++ F) ∧ Q e a' L') (c := c)
    (fun a' w' => ∃ x, I x ∧ Agr n D (E0 x) a' ∧ Owns C w' ((L0 x).flatten ++ F))
    (fun a' w' => least fun m => ∃ x, I x ∧ μ x = m ∧ Agr n D (E0 x) a' ∧ Owns C w' ((L0 x).flatten ++ F))
    ⟨x0, hI, hE ▸ ha.restrict ks, hL ▸ hw⟩ ?_
  rintro a' w' ⟨x, hx, hax, hwx⟩
  obtain ⟨⟨z, hz, hzm, haz, hwz⟩, _⟩ := least_spec (p := fun m => ∃ x, I x ∧ μ x = m ∧ Agr n D (E0 x) a' ∧ Owns C w' ((L0 x).flatten ++ F)) ⟨μ x, x, hx, rfl, hax, hwx⟩
  refine wpIn_mono (round z hz a' haz w' F hwz) fun e a2 w2 ⟨L2, ho2, hQ2⟩ => ?_
  cases e with
  | normal =>
    obtain ⟨y, hy, hlt, hay, rfl⟩ := hQ2
    refine ⟨⟨y, hy, hay, ho2⟩, ?_⟩
    have h3 := (least_spec (p := fun m => ∃ x, I x ∧ μ x = m ∧ Agr n D (E0 x) a2 ∧ Owns C w2 ((L0 x).flatten ++ F)) ⟨μ y, y, hy, rfl, hay, ho2⟩).2 (μ y) ⟨y, hy, rfl, hay, ho2⟩
    omega
  | _ => exact ⟨L2, ho2, hQ2⟩
end

/-! ### A scope with a label to which the run jumps back -/
section
variable {P : Program} {F : Fence} {b : Frame} {a : Act} {k : List Item} {cs : List Frame} {w : World}
theorem stepR_scope {c : Code} : step P (lone (b.atR a (.code (.scope c) :: k)) cs w) = .next (lone (b.atR a (.code c :: .inScope c :: k)) cs w) :=
  step_lone_go (by simp [stepG, stepG.exec, Frame.atR])
theorem stepR_inScope {c : Code} : step P (lone (b.atR a (.inScope c :: k)) cs w) = .next (lone (b.atR a k) cs w) :=
  step_lone_go (by simp [stepG, stepG.exec, Frame.atR])

def Exit.jumpW (l : Nat) (J : Act → World → Prop) (Q : Exit → Act → World → Prop) : Exit → Act → World → Prop
  | .goto l', a, w => l' = l ∧ J a w
  | e, a, w => Q e a w

theorem wpIn_scope_jumps {m : Nat} {Q : Exit → Act → World → Prop} {c rest : Code} (l : Nat) (J : Act → World → Prop) (μ : Act → World → Nat) (hf : findLabel c l = some rest)
    (first : c.wpIn F m P (Exit.jumpW l J Q) a w)
    (pass : ∀ a w, J a w → rest.wpIn F m P (Exit.jumpW l (fun a' w' => J a' w' ∧ μ a' w' < μ a w) Q) a w) : (Code.scope c).wpIn F m P Q a w := by
  intro b k cs hro hb hr
  have hg : gotoIn l (.inScope c :: k) = some (.code rest :: .inScope c :: k) := by simp [gotoIn, hf]
  have hx : ∀ id k', exitTo id k = some k' → exitTo id (.inScope c :: k) = some k' := fun id k' h => by simp [exitTo, h]
  have hn : ∀ id, exitTo id k = none → exitTo id (.inScope c :: k) = none := fun id h => by simp [exitTo, h]
  have fin : ∀ (i : Item) (a₀ : Act) (w₀ : World) (e : Exit) (a₁ : Act) (w₁ : World), (∀ l', e ≠ .goto l') → Q e a₁ w₁ →
      ArrivesIn (Machine.fenced P F) P (lone (b.atR a₀ (i :: .inScope c :: k)) cs w₀) b (.inScope c :: k) cs e a₁ w₁ →
      ArrivesIn (Machine.fenced P F) P (lone (b.atR a₀ (i :: .inScope c :: k)) cs w₀) b k cs e a₁ w₁ := by
    intro i a₀ w₀ e a₁ w₁ hne _ harr
    cases e with
    | normal => exact StepsIn.trans harr (.one (fenced_calm hb hr rfl) stepR_inScope)
    | exit id =>
      refine ⟨fun k' hk => harr.1 k' (hx id k' hk), fun hr' hk => harr.2 hr' (hn id hk)⟩
    | goto l' => exact absurd rfl (hne l')
    | ret => exact harr
    | panic ch => exact harr
    | outgrown => exact harr
  have key : ∀ j a w, μ a w = j → J a w → ∃ e a' w', Q e a' w' ∧ ArrivesIn (Machine.fenced P F) P (lone (b.atR a (.code rest :: .inScope c :: k)) cs w) b k cs e a' w' := by
    intro j
    induction j using Nat.strongRecOn with
    | _ j ih =>
      intro a w hj hJ
      obtain ⟨e, a₁, w₁, hq, harr⟩ := pass a w hJ b (.inScope c :: k) cs hro hb hr
      cases e with
      | goto l' =>
        obtain ⟨rfl, hJ', hlt⟩ := hq
        obtain ⟨e₂, a₂, w₂, hq₂, harr₂⟩ := ih _ (by omega) a₁ w₁ rfl hJ'
        exact ⟨e₂, a₂, w₂, hq₂, .of_steps (harr.1 _ hg) harr₂⟩
      | normal => exact ⟨.normal, a₁, w₁, hq, fin _ a w .normal a₁ w₁ (by simp) hq harr⟩
      | exit id => exact ⟨.exit id, a₁, w₁, hq, fin _ a w (.exit id) a₁ w₁ (by simp) hq harr⟩
      | ret => exact ⟨.ret, a₁, w₁, hq, fin _ a w .ret a₁ w₁ (by simp) hq harr⟩
      | panic ch => exact ⟨.panic ch, a₁, w₁, hq, fin _ a w (.panic ch) a₁ w₁ (by simp) hq harr⟩
      | outgrown => exact ⟨.outgrown, a₁, w₁, hq, fin _ a w .outgrown a₁ w₁ (by simp) hq harr⟩
  have h1 : StepsIn (Machine.fenced P F) P (lone (b.atR a (.code (.scope c) :: k)) cs w) (lone (b.atR a (.code c :: .inScope c :: k)) cs w) := .one (fenced_calm hb hr rfl) stepR_scope
  obtain ⟨e, a₁, w₁, hq, harr⟩ := first b (.inScope c :: k) cs hro hb hr
  cases e with
  | goto l' =>
    obtain ⟨rfl, hJ'⟩ := hq
    obtain ⟨e₂, a₂, w₂, hq₂, harr₂⟩ := key _ a₁ w₁ rfl hJ'
    exact ⟨e₂, a₂, w₂, hq₂, .of_steps (StepsIn.trans h1 (harr.1 _ hg)) harr₂⟩
  | normal => exact ⟨.normal, a₁, w₁, hq, .of_steps h1 (fin _ a w .normal a₁ w₁ (by simp) hq harr)⟩
  | exit id => exact ⟨.exit id, a₁, w₁, hq, .of_steps h1 (fin _ a w (.exit id) a₁ w₁ (by simp) hq harr)⟩
  | ret => exact ⟨.ret, a₁, w₁, hq, .of_steps h1 (fin _ a w .ret a₁ w₁ (by simp) hq harr)⟩
  | panic ch => exact ⟨.panic ch, a₁, w₁, hq, .of_steps h1 (fin _ a w (.panic ch) a₁ w₁ (by simp) hq harr)⟩
  | outgrown => exact ⟨.outgrown, a₁, w₁, hq, .of_steps h1 (fin _ a w .outgrown a₁ w₁ (by simp) hq harr)⟩
end

def jumpQ (l : Nat) (J : Act → List Blks → Prop) (Q : Exit → Act → List Blks → Prop) : Exit → Act → List Blks → Prop
  | .goto l', a, L => l' = l ∧ J a L
  | e, a, L => Q e a L

section
variable {P : Program} {C : Ctx} {rd : Option Nat} {n : Nat} {D : List Deferred} {E : Env} {Ls : List Blks} {Q : Exit → Act → List Blks → Prop}

theorem cd_scope {X : Type} {c rest : Code} (l : Nat) (E0 : X → Env) (L0 : X → List Blks) (I : X → Prop) (μ : X → Nat) (hf : findLabel c l = some rest)
    (first : CdE P C rd n D c E Ls (jumpQ l (fun a L => ∃ y, I y ∧ Agr n D (E0 y) a ∧ L = L0 y) Q))
    (pass : ∀ x, I x → CdE P C rd n D rest (E0 x) (L0 x) (jumpQ l (fun a L => ∃ y, I y ∧ μ y < μ x ∧ Agr n D (E0 y) a ∧ L = L0 y) Q)) : CdE P C rd n D (.scope c) E Ls Q := by
  intro a ha w F hw
  refine wpIn_scope_jumps l (fun a' w' => ∃ x, I x ∧ Agr n D (E0 x) a' ∧ Owns C w' ((L0 x).flatten ++ F))
    (fun a' w' => least fun m => ∃ x, I x ∧ μ x = m ∧ Agr n D (E0 x) a' ∧ Owns C w' ((L0 x).flatten ++ F)) hf ?_ ?_
  · refine wpIn_mono (first a ha w F hw) fun e a2 w2 ⟨L2, ho2, hQ2⟩ => ?_
    cases e with
    | goto l' => obtain ⟨rfl, y, hy, hay, rfl⟩ := hQ2; exact ⟨rfl, y, hy, hay, ho2⟩
    | _ => exact ⟨L2, ho2, hQ2⟩
  · rintro a' w' ⟨x, hx, hax, hwx⟩
    obtain ⟨⟨z, hz, hzm, haz, hwz⟩, _⟩ := least_spec (p := fun m => ∃ x, I x ∧ μ x = m ∧ Agr n D (E0 x) a' ∧ Owns C w' ((L0 x).flatten ++ F)) ⟨μ x, x, hx, rfl, hax, hwx⟩
    refine wpIn_mono (pass z hz a' haz w' F hwz) fun e a2 w2 ⟨L2, ho2, hQ2⟩ => ?_
    cases e with
    | goto l' =>
      obtain ⟨rfl, y, hy, hlt, hay, rfl⟩ := hQ2
      refine ⟨rfl, ⟨y, hy, hay, ho2⟩, ?_⟩
      have h3 := (least_spec (p := fun m => ∃ x, I x ∧ μ x = m ∧ Agr n D (E0 x) a2 ∧ Owns C w2 ((L0 x).flatten ++ F)) ⟨μ y, y, hy, rfl, hay, ho2⟩).2 (μ y) ⟨y, hy, rfl, hay, ho2⟩
      omega
    | _ => exact ⟨L2, ho2, hQ2⟩
end

/-! ### Entry and return -/
def argEnv : Nat → List Value → Env
  | _, [] => []
  | i, v :: vs => (i, v) :: argEnv (i + 1) vs

theorem look_argEnv : ∀ (vs : List Value) (j i : Nat) (v : Value), look (argEnv j vs) i = some v → j ≤ i ∧ vs[i - j]? = some v
  | [], j, i, v, h => by simp [argEnv, look] at h
  | u :: us, j, i, v, h => by
    simp only [argEnv, look_cons] at h
    by_cases e : j = i
    · subst e; simp at h; subst h; simp
    · rw [if_neg e] at h
      obtain ⟨h1, h2⟩ := look_argEnv us (j + 1) i v h
      refine ⟨by omega, ?_⟩
      rw [show i - j = (i - (j + 1)) + 1 by omega]
      simpa using h2

/-- What is left at a function's end: the marks of its loops over functions are taken up; its results. -/
def Lv (P : Program) (C : Ctx) (fn : Func) (tmps : Array Value) (R : Value → List Blks → Prop) : List Deferred → List Blks → Prop
  | [], L => ∃ v L2 L3, L.flatten.Perm (List.flatten L3 ++ List.flatten L2) ∧ (∀ w F, Owns C w (L.flatten ++ F) → (results fn tmps).run P w = .ok v w) ∧ R v L2
  | d :: ds, L => ∃ r k, d.target = .collected r ∧ L[k]? = some [(r, .deferred (some []))] ∧ Lv P C fn tmps R ds (L.set k [(r, .deferred none)])

def RetQ (P : Program) (C : Ctx) (fn : Func) (R : Value → List Blks → Prop) : Exit → Act → List Blks → Prop
  | .normal, a, L => Lv P C fn a.tmps R a.defers L
  | .ret, a, L => Lv P C fn a.tmps R a.defers L
  | _, _, _ => False

theorem Lv_leaves {P : Program} {C : Ctx} {fn : Func} {tmps : Array Value} {R : Value → List Blks → Prop} {F : Blks} : ∀ (ds : List Deferred) (L : List Blks) (w : World), Lv P C fn tmps R ds L → Owns C w (L.flatten ++ F) →
    LeavesInM Fence.wide 0 P fn tmps (fun e w' => ∃ v L', e = .returned v ∧ Owns C w' (List.flatten L' ++ F) ∧ R v L') ds .returning w
  | [], L, w, h, hw => by
    obtain ⟨v, L2, L3, hp, h1, h2⟩ := h
    exact ⟨v, h1 w F hw, v, L2, rfl, (show Owns C w (L3.flatten ++ (L2.flatten ++ F)) by rw [← List.append_assoc]; exact hw.perm (hp.append_right F)).drop, h2⟩
  | d :: ds, L, w, h, hw => by
    obtain ⟨r, k, h1, h2, h3⟩ := h
    refine ⟨by simp, .inl ⟨r, _, h1, run_takeDeferred (hw.chunk h2), Lv_leaves ds _ _ h3 (hw.setChunk h2)⟩⟩

theorem fn_enter {P : Program} {C : Ctx} {f : FuncId} {args : Array Value} {Ls : List Blks} {R : Value → List Blks → Prop} {fn : Func} {c : Code} (n : Nat) (hf : P.funcs[f]? = some fn) (hb : fn.body = some c)
    (hn : fn.ntmps = n) (hs : Nat.ble args.size n = true) (h : CdE P C none n [] c (argEnv 0 args.toList) Ls (RetQ P C fn R)) : FnT P C f args Ls R := by
  intro w F hw
  rw [Nat.ble_eq] at hs
  refine callsIn_wide (n := 0) |>.1 (callsIn_of_wp_marks hf hb trivial ?_)
  have hagr : Agr n [] (argEnv 0 args.toList) { tmps := args ++ Array.replicate (fn.ntmps - args.size) undef, defers := [] } := by
    refine ⟨by simp [hn]; omega, rfl, fun i v hl => ?_⟩
    obtain ⟨_, h2⟩ := look_argEnv _ _ _ _ hl
    have hlt := (List.getElem?_eq_some_iff.1 h2).1
    simp at hlt h2
    rw [Array.getElem?_append_left hlt]
    exact h2
  refine wpIn_mono (h _ hagr w F hw) fun e a' w' ⟨L, ho, hQ⟩ => ?_
  cases e with
  | normal => exact Lv_leaves _ _ _ hQ ho
  | ret => exact Lv_leaves _ _ _ hQ ho
  | _ => exact hQ.elim

def resV (E : Env) : List ResultVar → Option (List Value)
  | [] => some []
  | .tmp t :: rs => match look E t, resV E rs with
    | some v, some vs => some (v :: vs)
    | _, _ => none
  | .cell _ _ :: _ => none

def resOne (tmps : Array Value) : ResultVar → Sem Value
  | .tmp t => pure (tmps.getD t undef)
  | .cell ad t => do loadVar t (← asAddr (tmps.getD ad undef))

theorem results_eq (fn : Func) (tmps : Array Value) : results fn tmps = (do let vs ← fn.results.mapM (resOne tmps); pure (if h : vs.size = 1 then vs[0] else .tuple vs)) := by
  unfold results
  congr 1

theorem resV_run {P : Program} {n : Nat} {D : List Deferred} {E : Env} {a : Act} (ha : Agr n D E a) : ∀ (rs : List ResultVar) (vs : List Value), resV E rs = some vs → ∀ w : World,
    (rs.mapM (resOne a.tmps)).run P w = .ok vs w
  | [], vs, h, w => by simp [resV] at h; subst h; rfl
  | .tmp t :: rs, vs, h, w => by
    simp only [resV] at h
    cases h1 : look E t with
    | none => simp [h1] at h
    | some v =>
      cases h2 : resV E rs with
      | none => simp [h1, h2] at h
      | some us =>
        simp [h1, h2] at h
        subst h
        have := resV_run (P := P) ha rs us h2 w
        simp only [List.mapM_cons, resOne, Sem.run_bind, Sem.run_pure, Result.andThen_ok, this, ha.getD h1]
  | .cell _ _ :: _, _, h, _ => by simp [resV] at h

def oneV (vs : List Value) : Value := match vs with | [v] => v | vs => .tuple vs.toArray

theorem ret_vals {P : Program} {C : Ctx} {fn : Func} {R : Value → List Blks → Prop} {n : Nat} {E : Env} {Ls : List Blks} (vs : List Value) (v : Value) (hv : resV E fn.results.toList = some vs) (ho : oneV vs = v) (hR : R v Ls) :
    ∀ a, Agr n [] E a → Lv P C fn a.tmps R a.defers Ls := by
  intro a ha
  rw [ha.defers]
  refine ⟨v, Ls, [], by simp, fun w F _ => ?_, hR⟩
  have := resV_run (P := P) ha _ _ hv w
  simp only [results_eq, Array.mapM_eq_mapM_toList, Sem.run_bind]
  rw [show ∀ (x : Sem (List Value)), (List.toArray <$> x) = (x >>= fun l => pure l.toArray) from fun x => by rw [map_eq_pure_bind]]
  rw [Sem.run_bind, this]
  simp only [Result.andThen_ok, Sem.run_pure]
  rw [← ho]
  match vs with
  | [] => rfl
  | [u] => rfl
  | u :: u2 :: us => simp [oneV]
/-- A result that stands in a variable of its own. -/
theorem ret_cell {P : Program} {C : Ctx} {fn : Func} {R : Value → List Blks → Prop} {n : Nat} {E : Env} {Ls : List Blks} (ad t k b : Nat) (c : Array Value) (e : TypeId) (fz : Nat × Nat) (ks : List Nat) (L2 L3 : List Blks) (hr : fn.results.toList = [.cell ad t])
    (hl : look E ad = some (.pointer (some ⟨b, 0, none⟩))) (hk : Ls[k]? = some [(b, .cells c e fz)]) (ha : isAggB P t = some true) (hi : (P.info? t).isSome = true) (hs : P.cellsOf t = c.size) (hp : pull ks Ls = (L2, L3)) (hR : R (.agg c) L2) :
    ∀ a, Agr n [] E a → Lv P C fn a.tmps R a.defers Ls := by
  intro a ha'
  rw [ha'.defers]
  refine ⟨.agg c, L2, L3, (pull_flat hp).trans List.perm_append_comm, fun w F hw => ?_, hR⟩
  have hload := (loadVar_run (P := P) (hw.chunk hk) t 0).2 ha hi (by omega)
  simp only [results_eq, Array.mapM_eq_mapM_toList, hr, Sem.run_bind]
  rw [show ∀ (x : Sem (List Value)), (List.toArray <$> x) = (x >>= fun l => pure l.toArray) from fun x => by rw [map_eq_pure_bind]]
  simp only [Sem.run_bind, List.mapM_cons, List.mapM_nil, resOne, ha'.getD hl, asAddr, Sem.run_pure, Result.andThen_ok, hload, hs]
  simp
section
variable {P : Program} {C : Ctx} {rd : Option Nat} {n : Nat} {D : List Deferred} {E : Env} {Ls : List Blks} {Q : Exit → Act → List Blks → Prop}
/-- A region that is one segment. -/
theorem cd_s {id : Nat} {ops : Array Oper} {y : Code} (H : List (Nat × Hint)) (N : Prop) (ks : List Nat) (E' : Env) (Ls' : List Blks)
    (h1 : AllN (seg P C n ops H (List.range ops.size) E Ls).needs = N) (h2 : restrict (seg P C n ops H (List.range ops.size) E Ls).E ks = E') (h3 : (seg P C n ops H (List.range ops.size) E Ls).Ls = Ls') (hN : N)
    (h : CdE P C rd n D y E' Ls' Q) : CdE P C rd n D (.seq (.region id ops false) y) E Ls Q :=
  cd_rg (rg_seg H (List.range ops.size) [] N ks E' Ls' (by simp) h1 h2 h3 hN (rg_nil fun a ha => h a ha))
/-- The same, nothing behind it. -/
theorem cd_s0 {id : Nat} {ops : Array Oper} (H : List (Nat × Hint)) (N : Prop) (ks : List Nat) (E' : Env) (Ls' : List Blks)
    (h1 : AllN (seg P C n ops H (List.range ops.size) E Ls).needs = N) (h2 : restrict (seg P C n ops H (List.range ops.size) E Ls).E ks = E') (h3 : (seg P C n ops H (List.range ops.size) E Ls).Ls = Ls') (hN : N)
    (h : ∀ a, Agr n D E' a → Q .normal a Ls') : CdE P C rd n D (.region id ops false) E Ls Q :=
  cd_region (rg_seg H (List.range ops.size) [] N ks E' Ls' (by simp) h1 h2 h3 hN (rg_nil h))
end

/-! ### Ways out -/
section
variable {P : Program} {C : Ctx} {rd : Option Nat} {n : Nat} {D : List Deferred} {E : Env} {Ls : List Blks} {Q : Exit → Act → List Blks → Prop} {K : Act → List Blks → Prop}
theorem then_n {y : Code} (h : CdE P C rd n D y E Ls Q) : ∀ a, Agr n D E a → thenQ (fun a L => Cd P C rd y a L Q) Q .normal a Ls := h
theorem then_exit {j : Nat} (h : ∀ a, Agr n D E a → Q (.exit j) a Ls) : ∀ a, Agr n D E a → thenQ K Q (.exit j) a Ls := h
theorem then_goto {j : Nat} (h : ∀ a, Agr n D E a → Q (.goto j) a Ls) : ∀ a, Agr n D E a → thenQ K Q (.goto j) a Ls := h
theorem then_ret (h : ∀ a, Agr n D E a → Q .ret a Ls) : ∀ a, Agr n D E a → thenQ K Q .ret a Ls := h
theorem block_n {id : Nat} (h : ∀ a, Agr n D E a → Q .normal a Ls) : ∀ a, Agr n D E a → blockQ id Q .normal a Ls := h
theorem block_hit {id : Nat} (h : ∀ a, Agr n D E a → Q .normal a Ls) : ∀ a, Agr n D E a → blockQ id Q (.exit id) a Ls := fun a ha => by simp only [blockQ, if_true]; exact h a ha
theorem block_exit {id j : Nat} (hj : Nat.beq j id = false) (h : ∀ a, Agr n D E a → Q (.exit j) a Ls) : ∀ a, Agr n D E a → blockQ id Q (.exit j) a Ls := fun a ha => by
  have : j ≠ id := fun e => by rw [e, Nat.beq_refl] at hj; cases hj
  simp only [blockQ, if_neg this]; exact h a ha
theorem block_goto {id j : Nat} (h : ∀ a, Agr n D E a → Q (.goto j) a Ls) : ∀ a, Agr n D E a → blockQ id Q (.goto j) a Ls := h
theorem block_ret {id : Nat} (h : ∀ a, Agr n D E a → Q .ret a Ls) : ∀ a, Agr n D E a → blockQ id Q .ret a Ls := h
theorem jump_n {l : Nat} (h : ∀ a, Agr n D E a → Q .normal a Ls) : ∀ a, Agr n D E a → jumpQ l K Q .normal a Ls := h
theorem jump_exit {l j : Nat} (h : ∀ a, Agr n D E a → Q (.exit j) a Ls) : ∀ a, Agr n D E a → jumpQ l K Q (.exit j) a Ls := h
theorem jump_ret {l : Nat} (h : ∀ a, Agr n D E a → Q .ret a Ls) : ∀ a, Agr n D E a → jumpQ l K Q .ret a Ls := h
theorem jump_hit {l : Nat} (h : ∀ a, Agr n D E a → K a Ls) : ∀ a, Agr n D E a → jumpQ l K Q (.goto l) a Ls := fun a ha => ⟨rfl, h a ha⟩
theorem bot_ret {fn : Func} {R : Value → List Blks → Prop} (h : ∀ a, Agr n D E a → Lv P C fn a.tmps R a.defers Ls) : ∀ a, Agr n D E a → RetQ P C fn R .ret a Ls := h
theorem bot_n {fn : Func} {R : Value → List Blks → Prop} (h : ∀ a, Agr n D E a → Lv P C fn a.tmps R a.defers Ls) : ∀ a, Agr n D E a → RetQ P C fn R .normal a Ls := h

/-- The head of a loop is met again. -/
theorem loop_n {X : Type} {E0 : X → Env} {L0 : X → List Blks} {I : X → Prop} {μ : X → Nat} {m : Nat} (y : X) (ks : List Nat) (hE : restrict E ks = E0 y) (hL : Ls = L0 y) (hI : I y) (hμ : μ y < m) :
    ∀ a, Agr n D E a → thenQ (fun a L => ∃ y, I y ∧ μ y < m ∧ Agr n D (E0 y) a ∧ L = L0 y) Q .normal a Ls := fun _ ha => ⟨y, hI, hμ, hE ▸ ha.restrict ks, hL⟩
theorem scope_hit {X : Type} {E0 : X → Env} {L0 : X → List Blks} {I : X → Prop} {μ : X → Nat} {m : Nat} (y : X) (ks : List Nat) (hE : restrict E ks = E0 y) (hL : Ls = L0 y) (hI : I y) (hμ : μ y < m) :
    ∀ a, Agr n D E a → (fun a L => ∃ y, I y ∧ μ y < m ∧ Agr n D (E0 y) a ∧ L = L0 y) a Ls := fun _ ha => ⟨y, hI, hμ, hE ▸ ha.restrict ks, hL⟩
theorem scope_first {X : Type} {E0 : X → Env} {L0 : X → List Blks} {I : X → Prop} (y : X) (ks : List Nat) (hE : restrict E ks = E0 y) (hL : Ls = L0 y) (hI : I y) :
    ∀ a, Agr n D E a → (fun a L => ∃ y, I y ∧ Agr n D (E0 y) a ∧ L = L0 y) a Ls := fun _ ha => ⟨y, hI, hE ▸ ha.restrict ks, hL⟩

theorem cd_true {c : Operand} {x y : Code} (hb : evo E c = some (.bool true)) (h : CdE P C rd n D x E Ls Q) : CdE P C rd n D (.cond c x y) E Ls Q := cd_if true hb (fun _ => h) (fun h => by cases h)
theorem cd_false {c : Operand} {x y : Code} (hb : evo E c = some (.bool false)) (h : CdE P C rd n D y E Ls Q) : CdE P C rd n D (.cond c x y) E Ls Q := cd_if false hb (fun h => by cases h) (fun _ => h)
/-- Other spellings, fewer temporaries. -/
theorem cd_env {c : Code} (ks : List Nat) (E' : Env) (Ls' : List Blks) (hE : restrict E ks = E') (hL : Ls = Ls') (h : CdE P C rd n D c E' Ls' Q) : CdE P C rd n D c E Ls Q := by
  subst hL hE
  exact fun a ha => h a (ha.restrict ks)
theorem cd_put {c : Code} (d : Nat) (v v' : Value) (hl : look E d = some v) (hv : v = v') (h : CdE P C rd n D c ((d, v') :: E) Ls Q) : CdE P C rd n D c E Ls Q :=
  fun a ha => h a (ha.weak fun i u hu => by
    rw [look_cons] at hu
    by_cases e : d = i
    · subst e; simp at hu; rw [hl, hv, hu]
    · rwa [if_neg e] at hu)
theorem cd_blks {c : Code} (Ls' : List Blks) (hL : Ls.flatten.Perm Ls'.flatten) (h : CdE P C rd n D c E Ls' Q) : CdE P C rd n D c E Ls Q :=
  fun a ha w F hw => h a ha w F (hw.perm (hL.append_right F))
/-- Two ways meet again. -/
theorem rg_join {ops : Array Oper} {todo rest : List Nat} {E' : Env} {Ls' : List Blks} (h1 : RgE P C rd n D ops rest E' Ls' K) (h2 : RgE P C rd n D ops rest E' Ls' K → RgE P C rd n D ops todo E Ls K) : RgE P C rd n D ops todo E Ls K := h2 h1
theorem rg_join2 {ops : Array Oper} {todo : List Nat} (rest : List Nat) (E' : Env) (Ls' : List Blks) (h2 : RgE P C rd n D ops rest E' Ls' K → RgE P C rd n D ops todo E Ls K) (h1 : RgE P C rd n D ops rest E' Ls' K) : RgE P C rd n D ops todo E Ls K := h2 h1
theorem rg_meet {ops : Array Oper} {todo : List Nat} (ks : List Nat) {E' : Env} {Ls' : List Blks} (hE : restrict E ks = E') (hL : Ls = Ls') (h : RgE P C rd n D ops todo E' Ls' K) : RgE P C rd n D ops todo E Ls K := by
  subst hL
  exact rg_env E' (fun _ ha => hE ▸ ha.restrict ks) h
end
theorem inK_i64 {n : Int} (h : -9223372036854775808 ≤ n ∧ n ≤ 9223372036854775807) : inKind .i64 n := h
theorem inK_u64 {n : Int} (h : 0 ≤ n ∧ n ≤ 18446744073709551615) : inKind .u64 n := h
theorem inK_u32 {n : Int} (h : 0 ≤ n ∧ n ≤ 4294967295) : inKind .u32 n := h
theorem inK_i32 {n : Int} (h : -2147483648 ≤ n ∧ n ≤ 2147483647) : inKind .i32 n := h
theorem inK_u8 {n : Int} (h : 0 ≤ n ∧ n ≤ 255) : inKind .u8 n := h
theorem inK_u16 {n : Int} (h : 0 ≤ n ∧ n ≤ 65535) : inKind .u16 n := h

end Go.Sep
