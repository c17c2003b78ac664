/- Regions whose order is open: an operation that only reads blocks that nobody of the region turns may be taken first. No condition. -/
import Derived.Test.YtooncojgfdcjeaaGreatDoorWk
namespace Go.Sep
open Go

section
variable {P : Program} {ops : Array Oper} {Q : Exit → Act → World → Prop} {S : World → Prop} {rd : Option Nat}

/-- In this state, in every world that meets S, the operation leaves v and nothing else. -/
def Held (P : Program) (ops : Array Oper) (S : World → Prop) (o : Oper) (v : Value) (a : Act) : Prop :=
  (Region.wanted o (yielded ops a.tmps) = true ∧ (∀ c, o.op ≠ .defer c) ∧ ∀ w, S w → (execOp a.eval o).run P w = .ok (.value v) w ∨ ((execOp a.eval o).run P w = .ok .skip w ∧ v = undef)) ∨
  (Region.wanted o (yielded ops a.tmps) = false ∧ v = undef)

theorem Held.wpOpIn {i : Nat} {o : Oper} {v : Value} {a : Act} (hi : ops[i]? = some o) (hy : Held P ops S o v a)
    {K : Act → World → Prop} {w : World} (hS : S w) (h : K (a.put o.dst v) w) : wpOpIn (Fd rd) 0 P ops Q i K a w := by
  unfold Go.wpOpIn
  simp only [hi]
  rcases hy with ⟨hw, hd, hv⟩ | ⟨hw, rfl⟩
  · simp only [hw, if_true, Oper.wpIn]
    refine ⟨fun _ _ => trivial, ?_⟩
    rw [Oper.semAt_eq _ _ _ hd]
    rcases hv w hS with h1 | ⟨h1, rfl⟩
    · rw [h1]; exact h
    · rw [h1]; exact h
  · simp only [hw, Bool.false_eq_true, if_false]; exact ⟨fun _ _ => trivial, h⟩

theorem Held.of_same {o : Oper} {v : Value} {a a' : Act} (hy : Held P ops S o v a) (he : execOp a'.eval o = execOp a.eval o)
    (hw : Region.wanted o (yielded ops a'.tmps) = Region.wanted o (yielded ops a.tmps)) : Held P ops S o v a' := by
  unfold Held at *
  rw [he, hw]
  exact hy

theorem semAt_put (o : Oper) (hs : ∀ cs b, o.op ≠ .select cs b) (a : Act) (dst : Option Tmp) (v : Value) (h : ∀ d, dst = some d → d ∉ o.looksAt ops) :
    o.semAt rd (a.put dst v).eval = o.semAt rd a.eval := by
  unfold Oper.semAt
  cases hrd : rd with
  | none => exact execOp_put o hs a dst v h
  | some l =>
    cases hop : o.op <;> first | exact execOp_put o hs a dst v h | skip
    rename_i c
    have e := resolve_congr (ρ := (a.put dst v).eval) (ρ' := a.eval) c o.type (fun x hx => Act.eval_put fun d hd hxd => h d hd (by
      subst hxd
      exact List.mem_append_left _ (List.mem_filterMap.2 ⟨.tmp d, by rw [hop]; simpa [Op.operands] using hx, rfl⟩)))
    simp only [e]

theorem wpOpIn_putHeld {j : Nat} {oi oj : Oper} {v : Value} (hj : ops[j]? = some oj) (hap : oi.apart ops oj = true)
    (hsi : ∀ cs b, oi.op ≠ .select cs b) (hsj : ∀ cs b, oj.op ≠ .select cs b)
    (hQ : ∀ c a w, Q (.panic c) (a.put oi.dst v) w → Q (.panic c) a w) {K : Act → World → Prop} {a : Act} {w : World}
    (hy : Held P ops S oi v a) (h : wpOpIn (Fd rd) 0 P ops Q j K (a.put oi.dst v) w) :
    wpOpIn (Fd rd) 0 P ops Q j (fun a' w' => Held P ops S oi v a' ∧ K (a'.put oi.dst v) w') a w := by
  obtain ⟨h1, h2, h3⟩ := Oper.apart_spec hap
  have keep : ∀ (a : Act), Held P ops S oi v a → ∀ u, Held P ops S oi v (a.put oj.dst u) := fun a hy u =>
    hy.of_same (execOp_put oi hsi a oj.dst u h3) (wanted_put oi a oj.dst u h3)
  have keepD : ∀ d, Held P ops S oi v { a with defers := d :: a.defers } := fun d => hy.of_same rfl rfl
  unfold wpOpIn at *
  simp only [hj] at *
  rw [wanted_put oj a oi.dst v h1] at h
  split
  · rename_i hw
    simp only [hw, if_true] at h
    unfold Oper.wpIn at *
    refine ⟨fun _ _ => trivial, ?_⟩
    have h := h.2
    rw [semAt_put oj hsj a oi.dst v h1] at h
    generalize (oj.semAt (Fd rd).round a.eval).run P w = r at *
    cases r with
    | ok x w' =>
      cases x <;> simp only [Oper.uponIn] at h ⊢
      case value u => exact ⟨keep a hy u, by rw [← Act.put_comm a v u h2]; exact h⟩
      case skip => exact ⟨keep a hy _, by rw [← Act.put_comm a v undef h2]; exact h⟩
      case defer d =>
        refine ⟨keep _ (keepD d) _, ?_⟩
        rw [← Act.put_comm _ v undef h2, ← Act.put_defers]
        exact h
      case enter f args =>
        refine ⟨h.1, CallsIn.mono h.2 fun e w'' he => ?_⟩
        cases e with
        | returned u => exact ⟨keep a hy u, by rw [← Act.put_comm a v u h2]; exact he⟩
        | panicked c => exact hQ _ _ _ he
        | outgrown => exact he
      case row row args => exact ⟨h.1, RowsIn.mono h.2 fun u w'' he => ⟨keep a hy u, by rw [← Act.put_comm a v u h2]; exact he⟩⟩
      case round l f tmps assign body =>
        refine ⟨h.1, RoundIn.mono h.2 fun e w'' he => ?_⟩
        cases e with
        | returned u => exact ⟨keep a hy u, by rw [← Act.put_comm a v u h2]; exact he⟩
        | panicked c => exact hQ _ _ _ he
        | outgrown => exact he
    | halt x w' =>
      cases x <;> simp only [Oper.uponIn] at h ⊢
      case panic u => exact hQ _ _ _ h
  · rename_i hw
    simp only [hw] at h
    exact ⟨fun _ _ => trivial, keep a hy _, by rw [← Act.put_comm a v undef h2]; exact h.2⟩

/-- Whatever order is picked from here on, and S holds behind every operation. -/
def wpAnyHIn (rd : Option Nat) (P : Program) (ops : Array Oper) (Q : Exit → Act → World → Prop) (S : World → Prop) : Nat → Array Bool → Act → World → Prop
  | 0, listed, a, w => Region.ready .any ops listed = [] ∧ Q .normal a w
  | fuel + 1, listed, a, w =>
    (Region.ready .any ops listed = [] → Q .normal a w) ∧
    ∀ i ∈ Region.ready .any ops listed, wpOpIn (Fd rd) 0 P ops Q i (fun a' w' => S w' ∧ wpAnyHIn rd P ops Q S fuel (listed.setIfInBounds i true) a' w') a w

theorem wpAnyIn_of_held : ∀ (fuel : Nat) (listed : Array Bool) (a : Act) (w : World), wpAnyHIn rd P ops Q S fuel listed a w → wpAnyIn (Fd rd) 0 P .any ops Q fuel listed a w
  | 0, _, _, _, h => h
  | fuel + 1, _, _, _, h => ⟨h.1, fun i hi => wpOpIn_mono (fun a' w' h' => wpAnyIn_of_held fuel _ a' w' h'.2) (h.2 i hi)⟩

theorem wpAnyHIn_first {i : Nat} {oi : Oper} {v : Value} (hi : ops[i]? = some oi) (hsel : ∀ (j : Nat) (o : Oper) cs b, ops[j]? = some o → o.op ≠ .select cs b)
    (hQ : ∀ c a w, Q (.panic c) (a.put oi.dst v) w → Q (.panic c) a w) :
    ∀ (fuel : Nat) (listed : Array Bool) (a : Act) (w : World),
      (∀ j oj, ops[j]? = some oj → j ≠ i → listed.getD j true = false → (∀ e ∈ oj.after, Region.binds .any e = true → e.on ≠ i) → oi.apart ops oj = true) →
      i ∈ Region.ready .any ops listed → Held P ops S oi v a → S w →
      wpAnyHIn rd P ops Q S fuel (listed.setIfInBounds i true) (a.put oi.dst v) w → wpAnyHIn rd P ops Q S (fuel + 1) listed a w := by
  intro fuel
  induction fuel with
  | zero =>
    intro listed a w _ hr hy hS H
    refine ⟨fun h => (by rw [h] at hr; cases hr), fun j hj => ?_⟩
    by_cases hji : j = i
    · subst hji; exact hy.wpOpIn hi hS ⟨hS, H⟩
    · have := ready_mono hj hji
      rw [H.1] at this
      cases this
  | succ fuel ih =>
    intro listed a w hfree hr hy hS H
    refine ⟨fun h => (by rw [h] at hr; cases hr), fun j hj => ?_⟩
    by_cases hji : j = i
    · subst hji; exact hy.wpOpIn hi hS ⟨hS, H⟩
    · have h1 := H.2 j (ready_mono hj hji)
      obtain ⟨hjun, oj, hoj, hall⟩ := mem_ready.1 hj
      have hnot : ∀ e ∈ oj.after, Region.binds .any e = true → e.on ≠ i := fun e he hb heq => by
        have h1 := hall e he hb
        have h0 := (mem_ready.1 hr).1
        rw [heq] at h1
        rcases Nat.lt_or_ge i listed.size with h' | h'
        · simp [h'] at h0 h1; rw [h0] at h1; cases h1
        · simp [Array.getElem?_eq_none h'] at h1
      have h2 := wpOpIn_putHeld hoj (hfree j oj hoj hji hjun hnot) (fun cs b => hsel i oi cs b hi) (fun cs b => hsel j oj cs b hoj) hQ hy h1
      have hfree' : ∀ k ok, ops[k]? = some ok → k ≠ i → (listed.setIfInBounds j true).getD k true = false →
          (∀ e ∈ ok.after, Region.binds .any e = true → e.on ≠ i) → oi.apart ops ok = true := fun k ok hk hki hun hno => by
        refine hfree k ok hk hki ?_ hno
        by_cases hjk : j = k
        · subst hjk; exact hjun
        · rw [getD_set_ne true hjk] at hun; exact hun
      refine wpOpIn_mono (fun a' w' h3 => ⟨h3.2.1, ih (listed.setIfInBounds j true) a' w' hfree' (ready_mono hr (Ne.symm hji)) h3.1 h3.2.1 ?_⟩) h2
      rw [Array.setIfInBounds_comm _ _ hji]
      exact h3.2.2
end

/-! ### The walk of such a region: blocks Lr that nobody turns, and the others -/
theorem Owns.held {C : Ctx} {w : World} {Lr Lx : List Blks} {F : Blks} (h : Owns C w ((Lr ++ Lx).flatten ++ F)) : Owns C w Lr.flatten :=
  h.sub (by rw [List.flatten_append, List.append_assoc]; exact List.sublist_append_left _ _)

def RgA (P : Program) (C : Ctx) (rd : Option Nat) (n : Nat) (D : List Deferred) (ops : Array Oper) (Lr : List Blks) (fuel : Nat) (listed : Array Bool) (E : Env) (Lx : List Blks) (K : Act → List Blks → Prop) : Prop :=
  ∀ a, Agr n D E a → ∀ w F, Owns C w ((Lr ++ Lx).flatten ++ F) →
    wpAnyHIn rd P ops (fun e a' w' => e = .normal ∧ ∃ Ls', Owns C w' (List.flatten Ls' ++ F) ∧ K a' Ls') (fun w => Owns C w Lr.flatten) fuel listed a w

section
variable {P : Program} {C : Ctx} {rd : Option Nat} {n : Nat} {D : List Deferred} {ops : Array Oper} {K : Act → List Blks → Prop} {E : Env} {Lr Lx : List Blks} {fuel : Nat} {listed : Array Bool}

theorem cd_draw {id : Nat} {y : Code} {Q : Exit → Act → List Blks → Prop} {Ls : List Blks} (hm : P.follows .mixedOrders = true) (Lr Lx : List Blks) (m : Nat) (hsz : ops.size = m) (hl : Array.replicate m false = listed) (hL : Ls.flatten.Perm (Lr ++ Lx).flatten)
    (h : RgA P C rd n D ops Lr m listed E Lx (fun a L => Cd P C rd y a L Q)) : CdE P C rd n D (.seq (.region id ops true) y) E Ls Q := by
  refine cd_seq fun a ha w F hw => ?_
  have hw' : Owns C { w with drawn := w.drawn + 1 } ((Lr ++ Lx).flatten ++ F) := (hw.perm (hL.append_right F)).drew (w.drawn + 1)
  have h1 := h a ha _ F hw'
  subst hsz
  rw [← hl] at h1
  refine wpIn_mono (wpIn_region_any hm (wpAnyIn_of_held _ _ _ _ h1)) fun e a' w' ⟨he, L, ho, hK⟩ => ⟨L, ho, he ▸ hK⟩

/-- Is this row of operations one that may be taken first, one after the other? -/
def takeable (ops : Array Oper) (listed : Array Bool) : List Nat → Bool
  | [] => true
  | i :: is => Region.free .any ops listed i && (Region.ready .any ops listed).contains i && takeable ops (listed.setIfInBounds i true) is
def listAll (listed : Array Bool) : List Nat → Array Bool
  | [] => listed
  | i :: is => listAll (listed.setIfInBounds i true) is

/-- Operations that only read the blocks that nobody turns are taken first, one after the other. -/
theorem rga_seg' (H : List (Nat × Hint)) (hsel : Region.noSelect ops = true) : ∀ (idxs : List Nat) (fuel : Nat) (listed : Array Bool) (E : Env), takeable ops listed idxs = true → (idxs.all fun i => ((ops[i]?).map quietOp).getD false) = true →
    AllN (seg P C n ops H idxs E Lr).needs → RgA P C rd n D ops Lr fuel (listAll listed idxs) (seg P C n ops H idxs E Lr).E Lx K → RgA P C rd n D ops Lr (fuel + idxs.length) listed E Lx K
  | [], fuel, listed, E, _, _, _, h => h
  | i :: idxs, fuel, listed, E, ht, hq, hN, h => by
    simp only [takeable, Bool.and_eq_true] at ht
    obtain ⟨⟨hf, hr⟩, ht⟩ := ht
    simp only [List.all_cons, Bool.and_eq_true] at hq
    obtain ⟨hq1, hq⟩ := hq
    simp only [seg] at hN h
    simp only [listAll] at h
    cases ho : ops[i]? with
    | none => simp only [ho] at hN; exact hN.elim
    | some o =>
      simp only [ho, Option.map_some, Option.getD_some] at hN h hq1
      have rest : ∀ (v : Value) (E1 : Env), (∀ a, Agr n D E a → Agr n D E1 (a.put o.dst v)) → (∀ a, Agr n D E a → Held P ops (fun w => Owns C w Lr.flatten) o v a) → AllN (seg P C n ops H idxs E1 Lr).needs →
          RgA P C rd n D ops Lr fuel (listAll (listed.setIfInBounds i true) idxs) (seg P C n ops H idxs E1 Lr).E Lx K → RgA P C rd n D ops Lr (fuel + (idxs.length + 1)) listed E Lx K := by
        intro v E1 hE1 hH hN1 h1 a ha w F hw
        have ih := rga_seg' H hsel idxs fuel (listed.setIfInBounds i true) E1 ht hq hN1 h1 _ (hE1 a ha) w F hw
        exact wpAnyHIn_first ho (Region.noSelect_spec hsel) (fun _ _ _ h => by cases h.1) (fuel + idxs.length) listed a w (Region.free_spec ho hf) (by simpa using hr) (hH a ha) hw.held ih
      cases hg : asked ops E o with
      | none => simp only [hg] at hN; exact hN.elim
      | some b =>
        simp only [hg] at hN h
        cases b with
        | true =>
          simp only [] at hN h
          cases hk : (known E o && dstOk n o) with
          | false => rw [hk] at hN; exact hN.elim
          | true =>
            rw [hk] at hN h
            simp only [cond_true] at hN h
            rw [Bool.and_eq_true] at hk
            have hq2 : (ev1 P C (hintOf H i) (ρ E) Lr o).ok ∧ AllN (seg P C n ops H idxs (push o.dst (ev1 P C (hintOf H i) (ρ E) Lr o).val E) (ev1 P C (hintOf H i) (ρ E) Lr o).blks).needs := by
              unfold Out.ok
              generalize (ev1 P C (hintOf H i) (ρ E) Lr o).need = nd at hN ⊢
              cases nd with
              | none => exact ⟨trivial, hN⟩
              | some p => exact AllN_cons hN
            obtain ⟨e1, e2⟩ := ev1_q hq1 hq2.1
            rw [e1] at h hq2
            refine rest _ _ (fun a ha => ha.push (dstOk_all hk.2)) (fun a ha => .inl ⟨asked_wanted ha hg, fun c e => ?_, fun w hw => ?_⟩) hq2.2 h
            · simp [quietOp, e] at hq1
            · rw [known_exec ha hk.1]
              exact e2 w [] (by simpa using hw)
        | false =>
          simp only [] at hN h
          cases hd : dstOk n o with
          | false => rw [hd] at hN; exact hN.elim
          | true =>
            rw [hd] at hN h
            exact rest undef _ (fun a ha => ha.push (dstOk_all hd)) (fun a ha => .inr ⟨asked_wanted ha hg, rfl⟩) hN h

theorem rga_env {E' : Env} (hE : ∀ a, Agr n D E a → Agr n D E' a) (h : RgA P C rd n D ops Lr fuel listed E' Lx K) : RgA P C rd n D ops Lr fuel listed E Lx K := fun a ha => h a (hE a ha)

theorem rga_seg (H : List (Nat × Hint)) (idxs : List Nat) (N : Prop) (ks : List Nat) (E' : Env) (listed' : Array Bool) (m : Nat) (hsel : Region.noSelect ops = true) (ht : takeable ops listed idxs = true) (hq : (idxs.all fun i => ((ops[i]?).map quietOp).getD false) = true) (hm : m + idxs.length = fuel)
    (hl : listAll listed idxs = listed') (h1 : AllN (seg P C n ops H idxs E Lr).needs = N) (h2 : restrict (seg P C n ops H idxs E Lr).E ks = E') (hN : N)
    (h : RgA P C rd n D ops Lr m listed' E' Lx K) : RgA P C rd n D ops Lr fuel listed E Lx K := by
  subst hm hl
  refine rga_seg' H hsel idxs m listed E ht hq (h1 ▸ hN) (rga_env (fun a ha => ?_) h)
  rw [← h2]
  exact ha.restrict ks

/-- All have come up. -/
theorem rga_nil (hr : Region.ready .any ops listed = []) (h : ∀ a, Agr n D E a → K a (Lr ++ Lx)) : RgA P C rd n D ops Lr fuel listed E Lx K := by
  intro a ha w F hw
  cases fuel with
  | zero => exact ⟨hr, rfl, _, hw, h a ha⟩
  | succ m => exact ⟨fun _ => ⟨rfl, _, hw, h a ha⟩, by rw [hr]; simp⟩

/-- A test that guards what follows: both ways. -/
theorem rga_split (d : Nat) (b : Bool) (hl : look E d = some (.bool b))
    (ht : b = true → RgA P C rd n D ops Lr fuel listed ((d, .bool true) :: E) Lx K) (hf : b = false → RgA P C rd n D ops Lr fuel listed ((d, .bool false) :: E) Lx K) : RgA P C rd n D ops Lr fuel listed E Lx K := by
  have put : ∀ c, b = c → ∀ a, Agr n D E a → Agr n D ((d, .bool c) :: E) a := fun c hc a ha => ha.weak fun i u hu => by
    rw [look_cons] at hu
    by_cases e : d = i
    · subst e; simp at hu; rw [hl, hc, hu]
    · rwa [if_neg e] at hu
  cases b with
  | true => exact rga_env (put true rfl) (ht rfl)
  | false => exact rga_env (put false rfl) (hf rfl)

/-- What may come up is one of these. -/
theorem rga_ready (rs : List Nat) (hr : Region.ready .any ops listed = rs) (hne : rs ≠ [])
    (h : ∀ i ∈ rs, ∀ a, Agr n D E a → ∀ w F, Owns C w ((Lr ++ Lx).flatten ++ F) →
      wpOpIn (Fd rd) 0 P ops (fun e a' w' => e = .normal ∧ ∃ Ls', Owns C w' (List.flatten Ls' ++ F) ∧ K a' Ls') i (fun a' w' => Owns C w' Lr.flatten ∧ wpAnyHIn rd P ops (fun e a' w' => e = .normal ∧ ∃ Ls', Owns C w' (List.flatten Ls' ++ F) ∧ K a' Ls') (fun w => Owns C w Lr.flatten) fuel (listed.setIfInBounds i true) a' w') a w) :
    RgA P C rd n D ops Lr (fuel + 1) listed E Lx K := by
  intro a ha w F hw
  exact ⟨fun h0 => absurd (hr ▸ h0) hne, fun i hi => h i (hr ▸ hi) a ha w F hw⟩

/-- ONE operation may come up, and it is one that the evaluator knows (a store among them). -/
def RgX (P : Program) (C : Ctx) (rd : Option Nat) (n : Nat) (D : List Deferred) (ops : Array Oper) (Lr : List Blks) (fuel : Nat) (listed : Array Bool) (E : Env) (Lx : List Blks) (K : Act → List Blks → Prop) (i : Nat) : Prop :=
  ∀ a, Agr n D E a → ∀ w F, Owns C w ((Lr ++ Lx).flatten ++ F) →
      wpOpIn (Fd rd) 0 P ops (fun e a' w' => e = .normal ∧ ∃ Ls', Owns C w' (List.flatten Ls' ++ F) ∧ K a' Ls') i (fun a' w' => Owns C w' Lr.flatten ∧ wpAnyHIn rd P ops (fun e a' w' => e = .normal ∧ ∃ Ls', Owns C w' (List.flatten Ls' ++ F) ∧ K a' Ls') (fun w => Owns C w Lr.flatten) fuel (listed.setIfInBounds i true) a' w') a w

theorem rga_one {i : Nat} (hr : Region.ready .any ops listed = [i]) (h : RgX P C rd n D ops Lr fuel listed E Lx K i) : RgA P C rd n D ops Lr (fuel + 1) listed E Lx K :=
  rga_ready [i] hr (by simp) fun j hj => by simp at hj; subst hj; exact h
theorem rga_two {i j : Nat} (hr : Region.ready .any ops listed = [i, j]) (h1 : RgX P C rd n D ops Lr fuel listed E Lx K i) (h2 : RgX P C rd n D ops Lr fuel listed E Lx K j) : RgA P C rd n D ops Lr (fuel + 1) listed E Lx K :=
  rga_ready [i, j] hr (by simp) fun k hk => by
    simp at hk
    rcases hk with rfl | rfl
    · exact h1
    · exact h2
theorem rga_three {i j l : Nat} (hr : Region.ready .any ops listed = [i, j, l]) (h1 : RgX P C rd n D ops Lr fuel listed E Lx K i) (h2 : RgX P C rd n D ops Lr fuel listed E Lx K j) (h3 : RgX P C rd n D ops Lr fuel listed E Lx K l) : RgA P C rd n D ops Lr (fuel + 1) listed E Lx K :=
  rga_ready [i, j, l] hr (by simp) fun k hk => by
    simp at hk
    rcases hk with rfl | rfl | rfl
    · exact h1
    · exact h2
    · exact h3

theorem swap_flat (Lr Lx : List Blks) (F : Blks) : ((Lr ++ Lx).flatten ++ F).Perm (Lx.flatten ++ (Lr.flatten ++ F)) := by
  rw [List.flatten_append, List.append_assoc, ← List.append_assoc, ← List.append_assoc]
  exact (List.perm_append_comm).append_right F

/-- An operation of the evaluator's over the blocks that may be turned (its hints count in Lx). -/
theorem rgx_ev {i : Nat} (H : List (Nat × Hint)) (N : Prop) (ks : List Nat) (E' : Env) (Lx' : List Blks) (listed' : Array Bool) (hi : Nat.blt i ops.size = true)
    (h1 : AllN (seg P C n ops H [i] E Lx).needs = N) (h2 : restrict (seg P C n ops H [i] E Lx).E ks = E') (h3 : (seg P C n ops H [i] E Lx).Ls = Lx') (hl : listed.setIfInBounds i true = listed') (hN : N)
    (h : RgA P C rd n D ops Lr fuel listed' E' Lx' K) : RgX P C rd n D ops Lr fuel listed E Lx K i := by
  intro a ha w F hw
  subst hl
  have hw2 := hw.perm (swap_flat Lr Lx F)
  have h2' : ∀ a', Agr n D (seg P C n ops H [i] E Lx).E a' → Agr n D E' a' := fun a' ha' => h2 ▸ ha'.restrict ks
  have hN := h1 ▸ hN
  have ho := opAt_some hi
  generalize opAt ops i = o at ho
  clear h1 h2
  unfold wpOpIn
  simp only [seg, ho] at hN h2' h3 ⊢
  cases hg : asked ops E o with
  | none => simp only [hg] at hN; exact hN.elim
  | some b =>
    rw [asked_wanted ha hg]
    simp only [hg] at hN h2' h3
    cases b with
    | true =>
      simp only [] at hN h2' h3
      cases hk : (known E o && dstOk n o) with
      | false => rw [hk] at hN; exact hN.elim
      | true =>
        rw [hk] at hN h2' h3
        simp only [cond_true] at hN h2' h3
        rw [Bool.and_eq_true] at hk
        have hq : (ev1 P C (hintOf H i) (ρ E) Lx o).ok := by
          unfold Out.ok
          generalize (ev1 P C (hintOf H i) (ρ E) Lx o).need = nd at hN ⊢
          cases nd with
          | none => trivial
          | some p => exact hN
        obtain ⟨nx, w', hr, hnx, hw'⟩ := ev1_sound (by have := hk.1; simp only [known, Bool.and_eq_true] at this; exact this.2) hq w (Lr.flatten ++ F) hw2
        rw [h3] at hw'
        have hw3 := hw'.perm (swap_flat Lr Lx' F).symm
        simp only [if_true, Oper.wpIn]
        refine ⟨fun _ _ => trivial, ?_⟩
        rw [show (Fd rd).round = rd from rfl, known_semAt ha hk.1, hr]
        rcases hnx with rfl | ⟨rfl, hv⟩
        · exact ⟨hw3.held, h _ (h2' _ (ha.push (dstOk_all hk.2))) w' F hw3⟩
        · have hp := ha.push (dst := o.dst) (v := (ev1 P C (hintOf H i) (ρ E) Lx o).val) (dstOk_all hk.2)
          have h4 := h _ (h2' _ hp) w' F hw3
          have e : a.put o.dst (ev1 P C (hintOf H i) (ρ E) Lx o).val = a.put o.dst undef := by rw [hv]
          rw [e] at h4
          exact ⟨hw3.held, h4⟩
    | false =>
      simp only [] at hN h2' h3
      cases hd : dstOk n o with
      | false => rw [hd] at hN; exact hN.elim
      | true =>
        rw [hd] at hN h2' h3
        simp only [cond_true] at h2' h3
        subst h3
        simp only [Bool.false_eq_true, if_false]
        exact ⟨fun _ _ => trivial, hw.held, h _ (h2' _ (ha.push (dstOk_all hd))) w F hw⟩

/-- One that lays a new block. -/
theorem rgx_new {i : Nat} (ob : Obj) (v : Nat → Value) (ks : List Nat) (listed' : Array Bool) (hf : fit n ops E i = true)
    (hs : newNext P (execOp (ρ E) (opAt ops i)) = some (ob, fun b => some (.value (v b)))) (hl : listed.setIfInBounds i true = listed')
    (h : ∀ b, RgA P C rd n D ops Lr fuel listed' (restrict (push (opAt ops i).dst (v b) E) ks) (Lx ++ [[(b, ob)]]) K) : RgX P C rd n D ops Lr fuel listed E Lx K i := by
  intro a ha w F hw
  obtain ⟨ho, hg, hk, hd⟩ := fit_spec hf
  subst hl
  unfold wpOpIn
  simp only [ho, asked_wanted ha hg, if_true, Oper.wpIn]
  refine ⟨fun _ _ => trivial, ?_⟩
  rw [show (Fd rd).round = rd from rfl, known_semAt ha hk, newNext_sound hs rfl]
  have hw3 : Owns C { w with heap := w.heap.push ob } ((Lr ++ (Lx ++ [[(w.heap.size, ob)]])).flatten ++ F) := by
    refine (hw.alloc ob).perm ?_
    have e : (Lr ++ (Lx ++ [[(w.heap.size, ob)]])).flatten ++ F = (Lr ++ Lx).flatten ++ (w.heap.size, ob) :: F := by simp
    rw [e]
    exact (List.perm_middle (l₁ := (Lr ++ Lx).flatten) (l₂ := F) (a := (w.heap.size, ob))).symm
  exact ⟨hw3.held, h w.heap.size _ ((ha.push (dstOk_all hd)).restrict ks) _ F hw3⟩

/-- A call that turns blocks of Lx alone. -/
theorem rgx_call {i : Nat} (f : FuncId) (args : Array Value) (cs : List Nat) (L1 L2 : List Blks) {R : Value → List Blks → Prop} (ks : List Nat) (listed' : Array Bool) (hf : fit n ops E i = true)
    (hs : pureNext P (execOp (ρ E) (opAt ops i)) = some (.enter f args)) (hp : pull cs Lx = (L1, L2)) (hl : listed.setIfInBounds i true = listed') (hc : FnT P C f args L1 R)
    (h : ∀ v L', R v L' → RgA P C rd n D ops Lr fuel listed' (restrict (push (opAt ops i).dst v E) ks) (L' ++ L2) K) : RgX P C rd n D ops Lr fuel listed E Lx K i := by
  intro a ha w F hw
  obtain ⟨ho, hg, hk, hd⟩ := fit_spec hf
  subst hl
  unfold wpOpIn
  simp only [ho, asked_wanted ha hg, if_true, Oper.wpIn]
  refine ⟨fun _ _ => trivial, ?_⟩
  rw [show (Fd rd).round = rd from rfl, known_semAt ha hk, pureNext_sound hs]
  refine ⟨Fd_depth rd 0, ?_⟩
  have h1 := callsIn_wide (n := 0 - 1) |>.2 ((FnT.frame hc (pull_flat hp)) w (Lr.flatten ++ F) (hw.perm (swap_flat Lr Lx F)))
  refine (callsFd rd h1).mono fun e w' ⟨v, L, he, ho', L', hL, hR⟩ => ?_
  subst he hL
  have hw3 := ho'.perm (swap_flat Lr (L' ++ L2) F).symm
  exact ⟨hw3.held, h v L' hR _ ((ha.push (dstOk_all hd)).restrict ks) w' F hw3⟩

/-- A call that leaves what it is handed as it was. -/
theorem rgx_callq {i : Nat} (f : FuncId) (args : Array Value) (cs : List Nat) (L1 L2 : List Blks) {R : Value → Prop} (ks : List Nat) (listed' : Array Bool) (hf : fit n ops E i = true)
    (hs : pureNext P (execOp (ρ E) (opAt ops i)) = some (.enter f args)) (hp : pull cs (Lr ++ Lx) = (L1, L2)) (hl : listed.setIfInBounds i true = listed') (hc : FnT P C f args L1 (fun v L => R v ∧ L = L1))
    (h : ∀ v, R v → RgA P C rd n D ops Lr fuel listed' (restrict (push (opAt ops i).dst v E) ks) Lx K) : RgX P C rd n D ops Lr fuel listed E Lx K i := by
  intro a ha w F hw
  obtain ⟨ho, hg, hk, hd⟩ := fit_spec hf
  subst hl
  unfold wpOpIn
  simp only [ho, asked_wanted ha hg, if_true, Oper.wpIn]
  refine ⟨fun _ _ => trivial, ?_⟩
  rw [show (Fd rd).round = rd from rfl, known_semAt ha hk, pureNext_sound hs]
  refine ⟨Fd_depth rd 0, ?_⟩
  have h1 := callsIn_wide (n := 0 - 1) |>.2 ((FnT.frame hc (pull_flat hp)) w F hw)
  refine (callsFd rd h1).mono fun e w' ⟨v, L, he, ho', L', hL, hR, hL'⟩ => ?_
  subst he hL hL'
  have hw3 : Owns C w' ((Lr ++ Lx).flatten ++ F) := ho'.perm (by rw [List.flatten_append]; exact (pull_flat hp).symm.append_right F)
  exact ⟨hw3.held, h v hR _ ((ha.push (dstOk_all hd)).restrict ks) w' F hw3⟩
end
end Go.Sep
