/- Calls of function values, iterators, and ranges over functions, over owned blocks. No condition. -/
import Derived.Test.YtooncojgfdcjeaaGreatDoorMo
namespace Go.Sep
open Go

/-! ### A call of a function value -/
def callV (y : Value) (as : Array Value) : Sem Next := do
  let d ← Deferred.ofValue y as
  invoke d.target d.args

/-- What a call of a value may ask for, and what it leaves. -/
def Leads (P : Program) (C : Ctx) (F : Blks) (R : Value → List Blks → Prop) (w : World) : Next → Prop
  | .enter f args => CallsIn Fence.wide 0 P f args w fun e w' => ∃ v Ls', e = .returned v ∧ Owns C w' (List.flatten Ls' ++ F) ∧ R v Ls'
  | .round l f tmps assign body => RoundIn Fence.wide 0 P l f tmps assign body w fun e w' => ∃ v Ls', e = .returned v ∧ Owns C w' (List.flatten Ls' ++ F) ∧ R v Ls'
  | _ => False

theorem Leads.mono {P : Program} {C : Ctx} {F F' : Blks} {R R' : Value → List Blks → Prop} {w : World} {nx : Next} (h : Leads P C F R w nx)
    (hr : ∀ v L w', Owns C w' (List.flatten L ++ F) → R v L → ∃ L', Owns C w' (List.flatten L' ++ F') ∧ R' v L') : Leads P C F' R' w nx := by
  cases nx with
  | enter f args => exact CallsIn.mono h fun e w' ⟨v, L, he, ho, hR⟩ => let ⟨L', h1, h2⟩ := hr v L w' ho hR; ⟨v, L', he, h1, h2⟩
  | round l f tmps assign body => exact RoundIn.mono h fun e w' ⟨v, L, he, ho, hR⟩ => let ⟨L', h1, h2⟩ := hr v L w' ho hR; ⟨v, L', he, h1, h2⟩
  | _ => exact h

def ValT (P : Program) (C : Ctx) (y : Value) (as : Array Value) (Ls : List Blks) (R : Value → List Blks → Prop) : Prop :=
  ∀ w F, Owns C w (Ls.flatten ++ F) → ∃ nx w', (callV y as).run P w = .ok nx w' ∧ Leads P C F R w' nx

section
variable {P : Program} {C : Ctx} {Ls : List Blks}

theorem ValT.mono {y : Value} {as : Array Value} {R R' : Value → List Blks → Prop} (h : ValT P C y as Ls R) (hr : ∀ v L, R v L → R' v L) : ValT P C y as Ls R' := by
  intro w F hw
  obtain ⟨nx, w', h1, h2⟩ := h w F hw
  exact ⟨nx, w', h1, h2.mono fun v L w' ho hR => ⟨L, ho, hr v L hR⟩⟩

theorem ValT.frame {y : Value} {as : Array Value} {L1 L2 : List Blks} {R : Value → List Blks → Prop} (h : ValT P C y as L1 R) (hp : Ls.flatten.Perm (L1.flatten ++ L2.flatten)) :
    ValT P C y as Ls (fun v L => ∃ L', L = L' ++ L2 ∧ R v L') := by
  intro w F hw
  obtain ⟨nx, w', h1, h2⟩ := h w (L2.flatten ++ F) (hw.perm (by rw [← List.append_assoc]; exact hp.append_right F))
  exact ⟨nx, w', h1, h2.mono fun v L w' ho hR => ⟨L ++ L2, by simpa [List.append_assoc] using ho, L, rfl, hR⟩⟩

def goes (P : Program) (f : FuncId) : Bool := match P.funcs[f]? with | some fn => fn.body.isSome && !(fn.name == "runtime.NumGoroutine") | none => false
theorem callFunc_go {f : FuncId} {args : Array Value} {w : World} (hf : goes P f = true) : (callFunc f args).run P w = .ok (.enter f args) w := by
  unfold goes at hf
  split at hf
  · rename_i fn h1
    simp only [Bool.and_eq_true, Bool.not_eq_true'] at hf
    have h2 : ¬ fn.body = none := by cases hb : fn.body <;> simp_all
    have h3 : ¬ fn.name = "runtime.NumGoroutine" := by have := hf.2; simpa using this
    simp [callFunc, Sem.run_bind, program, Sem.run, h1, h3, h2]
  · cases hf

/-- A closure's contract is its function's. -/
theorem ValT.of_fn {f : FuncId} {first capt as args : Array Value} {R : Value → List Blks → Prop} (hf : goes P f = true) (ha : first ++ as ++ capt = args)
    (h : FnT P C f args Ls R) : ValT P C (.func (.func f) first capt) as Ls R := by
  intro w F hw
  refine ⟨.enter f args, w, ?_, callsIn_wide.2 (h w F hw)⟩
  subst ha
  simp only [callV, Deferred.ofValue, Sem.run_bind, Sem.run_pure, Result.andThen_ok, invoke]
  exact callFunc_go hf
end

section
variable {P : Program} {C : Ctx} {rd : Option Nat} {n : Nat} {D : List Deferred} {ops : Array Oper} {K : Act → List Blks → Prop} {E : Env} {Ls Lr Lx : List Blks} {fuel : Nat} {listed : Array Bool}

theorem Leads.upon {F : Blks} {R : Value → List Blks → Prop} {w : World} {nx : Next} {o : Oper} {a : Act} {next : Act → World → Prop} {Q : Exit → Act → World → Prop} (h : Leads P C F R w nx)
    (hn : ∀ v L w', Owns C w' (List.flatten L ++ F) → R v L → next (a.put o.dst v) w') : o.uponIn (Fd rd) 0 P a next Q (.ok nx w) := by
  cases nx with
  | enter f args =>
    refine ⟨Fd_depth rd 0, (callsFd rd h).mono fun e w' ⟨v, L, he, ho, hR⟩ => ?_⟩
    subst he
    exact hn v L w' ho hR
  | round l f tmps assign body =>
    have h' : RoundIn (Fd rd) (0 - 1) P l f tmps assign body w _ := h
    refine ⟨Fd_depth rd 0, h'.mono fun e w' ⟨v, L, he, ho, hR⟩ => ?_⟩
    subst he
    exact hn v L w' ho hR
  | _ => exact h.elim

/-- A call of a function value. -/
theorem rg_val (i : Nat) (rest : List Nat) (y : Value) (as : Array Value) (ks : List Nat) (L1 L2 : List Blks) {R : Value → List Blks → Prop} (hf : fit n ops E i = true)
    (hs : execOp (ρ E) (opAt ops i) = callV y as) (hp : pull ks Ls = (L1, L2)) (hc : ValT P C y as L1 R)
    (h : ∀ v L', R v L' → RgE P C rd n D ops rest (push (opAt ops i).dst v E) (L' ++ L2) K) : RgE P C rd n D ops (i :: rest) E Ls K := by
  intro a ha w F hw
  obtain ⟨ho, hg, hk, hd⟩ := fit_spec hf
  simp only [wpOpsIn, ho, asked_wanted ha hg, if_true, Oper.wpIn]
  refine ⟨fun _ _ => trivial, ?_⟩
  obtain ⟨nx, w', h1, h2⟩ := hc.frame (pull_flat hp) w F hw
  rw [show (Fd rd).round = rd from rfl, known_semAt ha hk, hs, h1]
  exact h2.upon fun v L w'' hw'' ⟨L', hL, hR⟩ => h v L' hR _ (ha.push (dstOk_all hd)) w'' F (hL ▸ hw'')

theorem rgx_val {i : Nat} (y : Value) (as : Array Value) (cs : List Nat) (L1 L2 : List Blks) {R : Value → List Blks → Prop} (ks : List Nat) (listed' : Array Bool) (hf : fit n ops E i = true)
    (hs : execOp (ρ E) (opAt ops i) = callV y as) (hp : pull cs Lx = (L1, L2)) (hl : listed.setIfInBounds i true = listed') (hc : ValT P C y as L1 R)
    (h : ∀ v L', R v L' → RgA P C rd n D ops Lr fuel listed' (restrict (push (opAt ops i).dst v E) ks) (L' ++ L2) K) : RgX P C rd n D ops Lr fuel listed E Lx K i := by
  intro a ha w F hw
  obtain ⟨ho, hg, hk, hd⟩ := fit_spec hf
  subst hl
  unfold wpOpIn
  simp only [ho, asked_wanted ha hg, if_true, Oper.wpIn]
  refine ⟨fun _ _ => trivial, ?_⟩
  obtain ⟨nx, w', h1, h2⟩ := hc.frame (pull_flat hp) w (Lr.flatten ++ F) (hw.perm (swap_flat Lr Lx F))
  rw [show (Fd rd).round = rd from rfl, known_semAt ha hk, hs, h1]
  refine h2.upon fun v L w'' hw'' ⟨L', hL, hR⟩ => ?_
  subst hL
  have hw3 := hw''.perm (swap_flat Lr (L' ++ L2) F).symm
  exact ⟨hw3.held, h v L' hR _ ((ha.push (dstOk_all hd)).restrict ks) w'' F hw3⟩
end

/-! ### Iterators -/
/-- A function that calls its yield on elements, one behind the other, until it answers false. 'enc x as X': the element x is told by the arguments as and the blocks X, which are given away; 'N pre x': x may be told behind pre; 'Z pre': these may be all. -/
def IterT (P : Program) (C : Ctx) {α : Type} (f : FuncId) (first capt : Array Value) (Li : List Blks) (enc : α → Array Value → Blks → Prop) (N : List α → α → Prop) (Z : List α → Prop) : Prop :=
  ∀ (g : Fn) (c1 c2 : Array Value) (I : List α → Blks → Prop) (S : Blks → Prop),
    (∀ pre x as X Y, N pre x → enc x as X → I pre Y → ValT P C (.func g c1 c2) as [Y, X] (fun v L => ∃ Y', L = [Y'] ∧ ((v = .bool true ∧ I (pre ++ [x]) Y') ∨ (v = .bool false ∧ S Y')))) →
    ∀ Y, I [] Y → FnT P C f (first ++ #[.func g c1 c2] ++ capt) (Y :: Li) (fun v L => v = .tuple #[] ∧ ∃ Y', L = Y' :: Li ∧ ((∃ pre, Z pre ∧ I pre Y') ∨ S Y'))
/-- The elements of a list, from its head on. -/
def Tells {α : Type} (xs pre : List α) (x : α) : Prop := ∃ rest, xs = pre ++ x :: rest

theorem IterT.fuse {α : Type} {P : Program} {C : Ctx} {f : FuncId} {first capt : Array Value} {A B : Blks} {enc : α → Array Value → Blks → Prop} {N : List α → α → Prop} {Z : List α → Prop} (h : IterT P C f first capt [A, B] enc N Z) : IterT P C f first capt [A ++ B] enc N Z := by
  intro g c1 c2 I S hy Y hY w F hw
  refine (h g c1 c2 I S hy Y hY w F (by simpa using hw)).mono ?_
  rintro e w' ⟨v, L, he, ho, hv, Y', rfl, hI⟩
  exact ⟨v, [Y', A ++ B], he, by simpa using ho, hv, Y', rfl, hI⟩

theorem flatMap_len {α : Type} {enc : α → List Value} {sz : Nat} (h : ∀ x, (enc x).length = sz) : ∀ l : List α, (l.flatMap enc).length = l.length * sz
  | [] => by simp
  | x :: l => by rw [List.flatMap_cons, List.length_append, h x, flatMap_len h l, List.length_cons, Nat.add_mul]; omega
theorem SeesL.take {α : Type} {C : Ctx} {H : Blks} {a : Option Addr} {enc : α → List Value} {sz : Nat} {l : List α} (h : SeesL C H a enc sz l) (k : Nat) : SeesL C H a enc sz (l.take k) := by
  have e : (l.take k).flatMap enc = (l.flatMap enc).take ((l.take k).length * sz) := by
    have h1 : l.flatMap enc = (l.take k).flatMap enc ++ (l.drop k).flatMap enc := by rw [← List.flatMap_append, List.take_append_drop]
    have h2 : ((l.take k).flatMap enc).length = (l.take k).length * sz := flatMap_len h.one _
    rw [h1, ← h2]; simp
  refine ⟨h.one, h.pos, ?_, fun h0 => ?_⟩
  · rw [e, List.length_take, h.all.1]
    have : (l.take k).length * sz ≤ l.length * sz := Nat.mul_le_mul_right _ (List.length_take_le' ..)
    omega
  · have hl : (l.take k).length ≤ l.length := List.length_take_le' ..
    obtain ⟨b, off, ha, hb⟩ := h.all.2 (by omega)
    refine ⟨b, off, ha, fun w hw hp => ?_⟩
    obtain ⟨c, e', fz, hc, hj⟩ := hb w hw hp
    refine ⟨c, e', fz, hc, fun j hj' => ?_⟩
    have : (l.take k).length * sz ≤ l.length * sz := Nat.mul_le_mul_right _ hl
    rw [hj j (by omega), e, List.getElem?_take_of_lt hj']

/-! ### The statement -/
def psEnv : List Nat → List Value → Env → Env
  | p :: ps, v :: vs, E => psEnv ps vs ((p, v) :: E)
  | _, _, E => E

theorem psEnv_agr {n : Nat} : ∀ (ps : List Nat) (vs : List Value) (E : Env) (t : Array Value), (ps.all fun p => Nat.blt p n) = true → Agr n [] E { tmps := t, defers := [] } →
    Agr n [] (psEnv ps vs E) { tmps := (ps.zip vs).foldl (fun t (q : Nat × Value) => t.setIfInBounds q.1 q.2) t, defers := [] }
  | [], vs, E, t, _, h => by cases vs <;> exact h
  | p :: ps, [], E, t, _, h => h
  | p :: ps, v :: vs, E, t, hp, h => by
    simp only [List.all_cons, Bool.and_eq_true] at hp
    simp only [psEnv, List.zip_cons_cons, List.foldl_cons]
    exact psEnv_agr ps vs _ _ hp.2 (h.put (by simpa [Nat.blt_eq] using hp.1) v)

theorem zip_foldl (ps : Array Nat) (as : Array Value) (t : Array Value) :
    (ps.zip as).foldl (fun tmps (x : Nat × Value) => tmps.setIfInBounds x.1 x.2) t = (ps.toList.zip as.toList).foldl (fun t (q : Nat × Value) => t.setIfInBounds q.1 q.2) t := by
  rw [← Array.foldl_toList, Array.toList_zip]

def roundQ {α : Type} (I : List α → List Blks → Prop) (J : Exit → List Blks → Prop) (i : List α) : Exit → Act → List Blks → Prop
  | .normal, _, L => I i L
  | .ret, _, L => J .ret L
  | .exit j, _, L => J (.exit j) L
  | _, _, _ => False

def bodyQ {α : Type} (P : Program) (C : Ctx) (l : Nat) (body : Code) (I : List α → List Blks → Prop) (J : Exit → List Blks → Prop) (i : List α) : Exit → Act → List Blks → Prop
  | .normal, a, L => Cd P C (some l) body a L (roundQ I J i)
  | _, _, _ => False

def codeOf : Exit → Code
  | .exit j => .exit j
  | _ => .ret

section
variable {P : Program} {C : Ctx} {n : Nat} {D : List Deferred} {E : Env} {Ls : List Blks} {Q : Exit → Act → List Blks → Prop}

theorem Owns.put {w : World} {b : Nat} {o o' : Obj} {L : Blks} (h : Owns C w ((b, o) :: L)) : Owns C (w.putObj b o') ((b, o') :: L) := Owns.set (L1 := []) h

/-- One round. -/
theorem round_val {α : Type} {fn r l : Nat} {t0 : Array Value} {ps : Array Nat} {assign body : Code} {i : List α} {as : Array Value} {X : Blks} {L1 : List Blks} {I : List α → List Blks → Prop} {J : Exit → List Blks → Prop}
    (hps : (ps.toList.all fun p => Nat.blt p n) = true) (hsz : as.size = ps.size) (hE : Agr n [] E { tmps := t0, defers := [] })
    (hb : CdE P C (some l) n [] assign (psEnv ps.toList as.toList E) (X :: L1) (bodyQ P C l body I J i)) :
    ValT P C (.func (.yield l) #[] #[]) as [(l, .loop { state := .ready, pending := none, fn := fn, tmps := t0, params := ps, assign := assign, body := body, defers := r }) :: L1.flatten, X]
      (fun v L => ∃ Y', L = [Y'] ∧ ((v = .bool true ∧ ∃ L', Y' = (l, .loop { state := .ready, pending := none, fn := fn, tmps := t0, params := ps, assign := assign, body := body, defers := r }) :: List.flatten L' ∧ I i L') ∨
        (v = .bool false ∧ ∃ e L', Y' = (l, .loop { state := .done, pending := some (codeOf e), fn := fn, tmps := t0, params := ps, assign := assign, body := body, defers := r }) :: List.flatten L' ∧ J e L' ∧ (e = .ret ∨ ∃ j, e = .exit j)))) := by
  intro w F hw
  have hw1 : Owns C w ((l, .loop { state := .ready, pending := none, fn := fn, tmps := t0, params := ps, assign := assign, body := body, defers := r }) :: ((X :: L1).flatten ++ F)) := by
    refine hw.perm ?_
    simp only [List.flatten_cons, List.flatten_nil, List.append_nil, List.cons_append, List.append_assoc]
    refine List.Perm.cons _ ?_
    rw [← List.append_assoc, ← List.append_assoc]
    exact List.perm_append_comm.append_right F
  have hl := hw1.get (List.mem_cons_self ..)
  refine ⟨_, w, by
    simp only [callV, Deferred.ofValue, Sem.run_bind, Sem.run_pure, Result.andThen_ok, invoke]
    exact run_yield (by simpa using hl) (by simpa using hsz), ?_⟩
  show RoundIn Fence.wide 0 P l fn _ assign body w _
  refine roundIn_of_wpIn trivial ?_
  have hagr : Agr n [] (psEnv ps.toList as.toList E) { tmps := (ps.zip (#[] ++ as)).foldl (fun tmps (x : Nat × Value) => tmps.setIfInBounds x.1 x.2) t0, defers := [] } := by
    rw [Array.empty_append, zip_foldl]
    exact psEnv_agr _ _ _ _ hps hE
  have swap : ∀ (o : Obj) (L : List Blks), ((l, o) :: (List.flatten L ++ F)).Perm (List.flatten L ++ ((l, o) :: F)) := fun o L => List.perm_middle.symm
  refine wpIn_mono (hb _ hagr w ((l, .loop { state := .ready, pending := none, fn := fn, tmps := t0, params := ps, assign := assign, body := body, defers := r }) :: F) (hw1.perm (swap _ _))) fun e a1 w1 ⟨L2, ho2, hQ2⟩ => ?_
  cases e with
  | normal =>
    have ho3 := ho2.perm (swap _ _).symm
    have hl1 := ho3.get (List.mem_cons_self ..)
    refine ⟨_, run_beginRound hl1 rfl, ?_⟩
    have ho4 := Owns.put (o' := .loop { state := .busy, pending := none, fn := fn, tmps := t0, params := ps, assign := assign, body := body, defers := r }) ho3
    refine wpIn_mono (hQ2 _ ((l, .loop { state := .busy, pending := none, fn := fn, tmps := t0, params := ps, assign := assign, body := body, defers := r }) :: F) (ho4.perm (swap _ _))) fun e a2 w2 ⟨L3, ho5, hQ3⟩ => ?_
    have ho6 := ho5.perm (swap _ _).symm
    have hl2 := ho6.get (List.mem_cons_self ..)
    cases e with
    | normal =>
      refine ⟨_, _, run_endRound none hl2, _, _, rfl, ?_, _, rfl, .inl ⟨rfl, L3, rfl, hQ3⟩⟩
      simpa [codeOf] using Owns.put ho6
    | ret =>
      refine ⟨_, _, run_endRound _ hl2, _, _, rfl, ?_, _, rfl, .inr ⟨rfl, .ret, L3, rfl, hQ3, .inl rfl⟩⟩
      simpa [codeOf] using Owns.put ho6
    | exit j =>
      refine ⟨_, _, run_endRound _ hl2, _, _, rfl, ?_, _, rfl, .inr ⟨rfl, .exit j, L3, rfl, hQ3, .inr ⟨j, rfl⟩⟩⟩
      simpa [codeOf] using Owns.put ho6
    | _ => exact hQ3.elim
  | _ => exact hQ2.elim

/-- A range over a function, none around it. -/
theorem cd_rangeFunc {α : Type} {g : Operand} {ps : Array Nat} {assign body : Code} {f : FuncId} {first capt : Array Value} {Li : List Blks} {enc : α → Array Value → Blks → Prop} {N : List α → α → Prop} {Z : List α → Prop}
    (I : List α → List Blks → Prop) (J : Exit → List Blks → Prop) (ks ks2 : List Nat) (L1 L2 Lr : List Blks)
    (hit : IterT P C f first capt Li enc N Z)
    (hg : evo E g = some (.func (.func f) first capt)) (hf : goes P f = true)
    (hp : pull ks Ls = (L1, Lr)) (hp2 : pull ks2 Lr = (Li, L2)) (hps : (ps.toList.all fun p => Nat.blt p n) = true)
    (h0 : I [] L1)
    (hb : ∀ l pre x as X L, N pre x → enc x as X → I pre L → as.size = ps.size ∧ CdE P C (some l) n [] assign (psEnv ps.toList as.toList E) (X :: L) (bodyQ P C l body I J (pre ++ [x])))
    (hn : ∀ r pre L, Z pre → I pre L → ∀ a, Agr n ({ target := .collected r, args := #[] } :: D) E a → Q .normal a (L ++ Li ++ L2 ++ [[(r, .deferred (some []))]]))
    (hj : ∀ r e L, J e L → ∀ a, Agr n ({ target := .collected r, args := #[] } :: D) E a → Q e a (L ++ Li ++ L2 ++ [[(r, .deferred (some []))]])) :
    CdE P C none n D (.rangeFunc g ps assign body) E Ls Q := by
  intro a ha w F hw
  refine wpIn_rangeFunc fun fn _ => ?_
  have he := run_enterLoop_outer (P := P) (w := w) fn a.tmps ps assign body
  have hev : a.eval g = .func (.func f) first capt := by rw [ha.eval (by rw [hg]; rfl)]; simp [ρ, hg]
  have hres : (resolve a.eval (rangeCall g (w.heap.size + 1)) 0).run P ((w.alloc (.deferred (some []))).alloc (.loop { state := .ready, pending := none, fn, tmps := a.tmps, params := ps, assign, body, defers := w.heap.size })) =
      .ok { target := .fn (.func f) capt, args := first ++ #[.func (.yield (w.heap.size + 1)) #[] #[]] } ((w.alloc (.deferred (some []))).alloc (.loop { state := .ready, pending := none, fn, tmps := a.tmps, params := ps, assign, body, defers := w.heap.size })) := by
    have h1 : resolve a.eval (rangeCall g (w.heap.size + 1)) 0 = Deferred.ofValue (a.eval g) #[.func (.yield (w.heap.size + 1)) #[] #[]] := by
      simp only [resolve, List.map_toArray, List.map_cons, List.map_nil]; rfl
    rw [h1, hev]; rfl
  have hinv : ∀ w' : World, (invoke (.fn (.func f) capt) (first ++ #[.func (.yield (w.heap.size + 1)) #[] #[]])).run P w' = .ok (.enter f (first ++ #[.func (.yield (w.heap.size + 1)) #[] #[]] ++ capt)) w' := fun w' => callFunc_go hf
  refine ⟨w.heap.size + 1, _, _, _, _, f, first ++ #[.func (.yield (w.heap.size + 1)) #[] #[]] ++ capt, _, he, hres, fun _ _ => trivial, hinv _, Fd_depth none 0, ?_⟩
  have hown : Owns C ((w.alloc (.deferred (some []))).alloc (.loop { state := .ready, pending := none, fn, tmps := a.tmps, params := ps, assign, body, defers := w.heap.size }))
      (((w.heap.size + 1, .loop { state := .ready, pending := none, fn, tmps := a.tmps, params := ps, assign, body, defers := w.heap.size }) :: L1.flatten) ++ (Li.flatten ++ (L2.flatten ++ ((w.heap.size, .deferred (some [])) :: F)))) := by
    have h1 := (hw.alloc (.deferred (some []))).alloc (.loop { state := .ready, pending := none, fn, tmps := a.tmps, params := ps, assign, body, defers := w.heap.size })
    have e : ({ w with heap := w.heap.push (Obj.deferred (some [])) } : World).heap.size = w.heap.size + 1 := by simp
    rw [e] at h1
    refine h1.perm ?_
    simp only [List.cons_append]
    refine List.Perm.cons _ ?_
    have h2 : (Ls.flatten ++ F).Perm (L1.flatten ++ (Li.flatten ++ (L2.flatten ++ F))) := by
      have := (pull_flat hp).trans ((pull_flat hp2).append_left L1.flatten)
      have := this.append_right F
      simpa [List.append_assoc] using this
    refine (List.Perm.cons _ h2).trans ?_
    have h3 := (List.perm_middle (a := (w.heap.size, Obj.deferred (some []))) (l₁ := L1.flatten ++ (Li.flatten ++ L2.flatten)) (l₂ := F)).symm
    simpa [List.append_assoc] using h3
  have hagr0 : Agr n [] E { tmps := a.tmps, defers := [] } := ⟨ha.size, rfl, ha.look⟩
  have hcall := hit (.yield (w.heap.size + 1)) #[] #[]
    (fun pre Y => ∃ L', Y = (w.heap.size + 1, .loop { state := .ready, pending := none, fn, tmps := a.tmps, params := ps, assign, body, defers := w.heap.size }) :: List.flatten L' ∧ I pre L')
    (fun Y => ∃ e L', Y = (w.heap.size + 1, .loop { state := .done, pending := some (codeOf e), fn, tmps := a.tmps, params := ps, assign, body, defers := w.heap.size }) :: List.flatten L' ∧ J e L' ∧ (e = .ret ∨ ∃ j, e = .exit j))
    (by
      rintro pre x as X Y hx hen ⟨L', rfl, hI⟩
      obtain ⟨hsz, hbd⟩ := hb (w.heap.size + 1) pre x as X L' hx hen hI
      exact round_val (α := α) hps hsz hagr0 hbd)
    _ ⟨L1, rfl, h0⟩ _ (L2.flatten ++ ((w.heap.size, .deferred (some [])) :: F)) (by simpa [List.append_assoc] using hown)
  refine (callsIn_wide (n := 0 - 1)).2 hcall |>.mono ?_
  rintro e w3 ⟨v, L', rfl, ho3, rfl, Y', rfl, hY⟩
  have fin : ∀ (L : List Blks) (w4 : World), Owns C w4 (L.flatten ++ (Li.flatten ++ (L2.flatten ++ ((w.heap.size, .deferred (some [])) :: F)))) → Owns C w4 (List.flatten (L ++ Li ++ L2 ++ [[(w.heap.size, Obj.deferred (some []))]]) ++ F) := fun L w4 h => by
    simpa [List.append_assoc] using h
  have hagr1 : Agr n ({ target := .collected w.heap.size, args := #[] } :: D) E { a with defers := [{ target := .collected w.heap.size, args := #[] }] ++ a.defers } := ⟨ha.size, by simp [ha.defers], ha.look⟩
  rcases hY with ⟨pre, hZ, L, rfl, hI⟩ | ⟨e, L, rfl, hJ, hej⟩
  · have ho4 : Owns C w3 ((w.heap.size + 1, .loop { state := .ready, pending := none, fn, tmps := a.tmps, params := ps, assign, body, defers := w.heap.size }) :: (L.flatten ++ (Li.flatten ++ (L2.flatten ++ ((w.heap.size, .deferred (some [])) :: F))))) := by
      simpa [List.append_assoc] using ho3
    refine ⟨_, _, run_endLoop (ho4.get (List.mem_cons_self ..)) (by simp), ?_⟩
    refine ⟨_, fin L _ (Owns.put (o' := .loop { state := .exhausted, pending := none, fn, tmps := a.tmps, params := ps, assign, body, defers := w.heap.size }) ho4 |>.drop (L := [_])), hn _ pre L hZ hI _ hagr1⟩
  · have ho4 : Owns C w3 ((w.heap.size + 1, .loop { state := .done, pending := some (codeOf e), fn, tmps := a.tmps, params := ps, assign, body, defers := w.heap.size }) :: (L.flatten ++ (Li.flatten ++ (L2.flatten ++ ((w.heap.size, .deferred (some [])) :: F))))) := by
      simpa [List.append_assoc] using ho3
    refine ⟨_, _, run_endLoop (ho4.get (List.mem_cons_self ..)) (by simp), ?_⟩
    have ho5 := fin L _ (Owns.put (o' := .loop { state := .exhausted, pending := some (codeOf e), fn, tmps := a.tmps, params := ps, assign, body, defers := w.heap.size }) ho4 |>.drop (L := [_]))
    rcases hej with rfl | ⟨j, rfl⟩
    · exact wpIn_ret ⟨_, ho5, hj _ _ L hJ _ hagr1⟩
    · exact wpIn_exit ⟨_, ho5, hj _ _ L hJ _ hagr1⟩

/-- A mark is taken up where the function is left. -/
theorem ret_mark {fn : Func} {R : Value → List Blks → Prop} (k r : Nat) (hk : Ls[k]? = some [(r, .deferred (some []))]) (h : ∀ a, Agr n D E a → Lv P C fn a.tmps R a.defers (Ls.set k [(r, .deferred none)])) :
    ∀ a, Agr n ({ target := .collected r, args := #[] } :: D) E a → Lv P C fn a.tmps R a.defers Ls := by
  intro a ha
  rw [ha.defers]
  refine ⟨r, k, rfl, hk, ?_⟩
  have := h { a with defers := D } ⟨ha.size, rfl, ha.look⟩
  exact this

/-- Results, where blocks are left behind. -/
theorem ret_valsD {fn : Func} {R : Value → List Blks → Prop} (vs : List Value) (v : Value) (ks : List Nat) (L2 L3 : List Blks) (hv : resV E fn.results.toList = some vs) (ho : oneV vs = v) (hp : pull ks Ls = (L2, L3)) (hR : R v L2) :
    ∀ a, Agr n [] E a → Lv P C fn a.tmps R a.defers Ls := by
  intro a ha
  obtain ⟨v', L2', L3', hp', h1, rfl, rfl⟩ := by
    have := ret_vals (P := P) (C := C) (R := fun v' L' => v' = v ∧ L' = Ls) vs v hv ho ⟨rfl, rfl⟩ a ha
    rw [ha.defers] at this
    exact this
  rw [ha.defers]
  exact ⟨_, L2, L3, (pull_flat hp).trans List.perm_append_comm, h1, hR⟩

/-- Two rows of blocks under one name. -/
theorem cd_fuse {c : Code} {rd : Option Nat} (ks : List Nat) (A B : Blks) (L2 : List Blks) (hp : pull ks Ls = ([A, B], L2)) (h : CdE P C rd n D c E ((A ++ B) :: L2) Q) : CdE P C rd n D c E Ls Q :=
  fun a ha w F hw => h a ha w F (hw.perm (by
    have := (pull_flat hp).append_right F
    simpa [List.append_assoc] using this))

theorem rg_fuse {ops : Array Oper} {todo : List Nat} {K : Act → List Blks → Prop} {rd : Option Nat} (ks : List Nat) (A B : Blks) (L2 : List Blks) (hp : pull ks Ls = ([A, B], L2)) (h : RgE P C rd n D ops todo E ((A ++ B) :: L2) K) : RgE P C rd n D ops todo E Ls K :=
  fun a ha w F hw => h a ha w F (hw.perm (by
    have := (pull_flat hp).append_right F
    simpa [List.append_assoc] using this))

theorem body_n {l : Nat} {body : Code} {α : Type} {I : List α → List Blks → Prop} {J : Exit → List Blks → Prop} {i : List α} (h : CdE P C (some l) n D body E Ls (roundQ I J i)) : ∀ a, Agr n D E a → bodyQ P C l body I J i .normal a Ls := h
theorem round_n {α : Type} {I : List α → List Blks → Prop} {J : Exit → List Blks → Prop} {i : List α} (h : I i Ls) : ∀ a, Agr n D E a → roundQ I J i .normal a Ls := fun _ _ => h
theorem round_ret {α : Type} {I : List α → List Blks → Prop} {J : Exit → List Blks → Prop} {i : List α} (h : J .ret Ls) : ∀ a, Agr n D E a → roundQ I J i .ret a Ls := fun _ _ => h
theorem round_exit {α : Type} {I : List α → List Blks → Prop} {J : Exit → List Blks → Prop} {i : List α} {j : Nat} (h : J (.exit j) Ls) : ∀ a, Agr n D E a → roundQ I J i (.exit j) a Ls := fun _ _ => h
end
end Go.Sep
