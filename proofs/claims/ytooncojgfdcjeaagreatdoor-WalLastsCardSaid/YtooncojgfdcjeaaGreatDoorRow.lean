/- Slices that a call itself makes and appends to; bytes and strings. No condition. -/
import Derived.Test.YtooncojgfdcjeaaGreatDoorDr
import Derived.Laws.Append
import Derived.Lib.UnsafeStr
import Derived.Laws.BytesString
namespace Go.Sep
open Go


/-! ### Operations that yield what they yield: a relation -/
def GivesR (P : Program) (C : Ctx) (s : Sem Next) (L1 : List Blks) (R : Value → List Blks → Prop) : Prop :=
  ∀ w F, Owns C w (L1.flatten ++ F) → ∃ nx w' v L', s.run P w = .ok nx w' ∧ (nx = .value v ∨ (nx = .skip ∧ v = undef)) ∧ Owns C w' (List.flatten L' ++ F) ∧ R v L'

section
variable {P : Program} {C : Ctx} {rd : Option Nat} {n : Nat} {D : List Deferred} {ops : Array Oper} {K : Act → List Blks → Prop} {E : Env} {Ls Lr Lx : List Blks} {fuel : Nat} {listed : Array Bool}

theorem GivesR.frame {s : Sem Next} {L1 L2 : List Blks} {R : Value → List Blks → Prop} (h : GivesR P C s L1 R) (hp : Ls.flatten.Perm (L1.flatten ++ L2.flatten)) :
    GivesR P C s Ls (fun v L => ∃ L', L = L' ++ L2 ∧ R v L') := by
  intro w F hw
  obtain ⟨nx, w', v, L', h1, h2, h3, h4⟩ := h w (L2.flatten ++ F) (hw.perm (by rw [← List.append_assoc]; exact hp.append_right F))
  exact ⟨nx, w', v, L' ++ L2, h1, h2, by simpa [List.append_assoc] using h3, L', rfl, h4⟩

theorem rg_ex (i : Nat) (rest : List Nat) (s : Sem Next) (ks : List Nat) (L1 L2 : List Blks) {R : Value → List Blks → Prop} (hf : fit n ops E i = true)
    (hs : execOp (ρ E) (opAt ops i) = s) (hp : pull ks Ls = (L1, L2)) (hc : GivesR P C s L1 R)
    (h : ∀ v L', R v L' → RgE P C rd n D ops rest (push (opAt ops i).dst v E) (L' ++ L2) K) : RgE P C rd n D ops (i :: rest) E Ls K := by
  intro a ha w F hw
  obtain ⟨ho, hg, hk, hd⟩ := fit_spec hf
  subst hs
  obtain ⟨nx, w', v, L', h1, h2, h3, L'', rfl, h4⟩ := GivesR.frame hc (pull_flat hp) w F hw
  simp only [wpOpsIn, ho, asked_wanted ha hg, if_true, Oper.wpIn]
  refine ⟨fun _ _ => trivial, ?_⟩
  rw [show (Fd rd).round = rd from rfl, known_semAt ha hk, h1]
  rcases h2 with rfl | ⟨rfl, rfl⟩
  · exact h _ _ h4 _ (ha.push (dstOk_all hd)) w' F h3
  · exact h _ _ h4 _ (ha.push (dstOk_all hd)) w' F h3

theorem rgx_ex {i : Nat} (s : Sem Next) (cs : List Nat) (L1 L2 : List Blks) {R : Value → List Blks → Prop} (ks : List Nat) (listed' : Array Bool) (hf : fit n ops E i = true)
    (hs : execOp (ρ E) (opAt ops i) = s) (hp : pull cs Lx = (L1, L2)) (hl : listed.setIfInBounds i true = listed') (hc : GivesR P C s L1 R)
    (h : ∀ v L', R v L' → RgA P C rd n D ops Lr fuel listed' (restrict (push (opAt ops i).dst v E) ks) (L' ++ L2) K) : RgX P C rd n D ops Lr fuel listed E Lx K i := by
  intro a ha w F hw
  obtain ⟨ho, hg, hk, hd⟩ := fit_spec hf
  subst hl hs
  unfold wpOpIn
  simp only [ho, asked_wanted ha hg, if_true, Oper.wpIn]
  refine ⟨fun _ _ => trivial, ?_⟩
  rw [show (Fd rd).round = rd from rfl, known_semAt ha hk]
  obtain ⟨nx, w', v, L', h1, h2, h3, L'', rfl, h4⟩ := GivesR.frame hc (pull_flat hp) w (Lr.flatten ++ F) (hw.perm (swap_flat Lr Lx F))
  have hw3 := h3.perm (swap_flat Lr (L'' ++ L2) F).symm
  rw [h1]
  rcases h2 with rfl | ⟨rfl, rfl⟩
  · exact ⟨hw3.held, h v L'' h4 _ ((ha.push (dstOk_all hd)).restrict ks) w' F hw3⟩
  · exact ⟨hw3.held, h undef L'' h4 _ ((ha.push (dstOk_all hd)).restrict ks) w' F hw3⟩

/-- A call that leaves all as it was: it is handed all that there is. -/
theorem rg_callq (i : Nat) (rest : List Nat) (f : FuncId) (args : Array Value) {R : Value → Prop} (hf : fit n ops E i = true)
    (hs : pureNext P (execOp (ρ E) (opAt ops i)) = some (.enter f args)) (hc : FnT P C f args [Ls.flatten] (fun v L => R v ∧ L = [Ls.flatten]))
    (h : ∀ v, R v → RgE P C rd n D ops rest (push (opAt ops i).dst v E) Ls K) : RgE P C rd n D ops (i :: rest) E Ls K := by
  intro a ha w F hw
  obtain ⟨ho, hg, hk, hd⟩ := fit_spec hf
  simp only [wpOpsIn, ho, asked_wanted ha hg, if_true, Oper.wpIn]
  refine ⟨fun _ _ => trivial, ?_⟩
  rw [show (Fd rd).round = rd from rfl, known_semAt ha hk, pureNext_sound hs]
  refine ⟨Fd_depth rd 0, ?_⟩
  have h1 := callsIn_wide (n := 0 - 1) |>.2 (hc w F (by simpa using hw))
  refine (callsFd rd h1).mono fun e w' ⟨v, L, he, ho', hR, hL⟩ => ?_
  subst he hL
  exact h v hR _ (ha.push (dstOk_all hd)) w' F (by simpa using ho')

theorem rgx_callr {i : Nat} (f : FuncId) (args : Array Value) {R : Value → Prop} (ks : List Nat) (listed' : Array Bool) (hf : fit n ops E i = true)
    (hs : pureNext P (execOp (ρ E) (opAt ops i)) = some (.enter f args)) (hl : listed.setIfInBounds i true = listed') (hc : FnT P C f args [(Lr ++ Lx).flatten] (fun v L => R v ∧ L = [(Lr ++ Lx).flatten]))
    (h : ∀ v, R v → RgA P C rd n D ops Lr fuel listed' (restrict (push (opAt ops i).dst v E) ks) Lx K) : RgX P C rd n D ops Lr fuel listed E Lx K i := by
  intro a ha w F hw
  obtain ⟨ho, hg, hk, hd⟩ := fit_spec hf
  subst hl
  unfold wpOpIn
  simp only [ho, asked_wanted ha hg, if_true, Oper.wpIn]
  refine ⟨fun _ _ => trivial, ?_⟩
  rw [show (Fd rd).round = rd from rfl, known_semAt ha hk, pureNext_sound hs]
  refine ⟨Fd_depth rd 0, ?_⟩
  have h1 := callsIn_wide (n := 0 - 1) |>.2 (hc w F (by simpa using hw))
  refine (callsFd rd h1).mono fun e w' ⟨v, L, he, ho', hR, hL⟩ => ?_
  subst he hL
  have hw3 : Owns C w' ((Lr ++ Lx).flatten ++ F) := by simpa using ho'
  exact ⟨hw3.held, h v hR _ ((ha.push (dstOk_all hd)).restrict ks) w' F hw3⟩

/-- Blocks that nobody wants any more. -/
theorem rg_drop {todo : List Nat} (ks : List Nat) (L1 L2 : List Blks) (hp : pull ks Ls = (L1, L2)) (h : RgE P C rd n D ops todo E L2 K) : RgE P C rd n D ops todo E Ls K :=
  fun a ha w F hw => by
    have h1 : Owns C w (L1.flatten ++ (L2.flatten ++ F)) := by rw [← List.append_assoc]; exact hw.perm ((pull_flat hp).append_right F)
    exact h a ha w F h1.drop
end

/-! ### Slices of the call's own -/
/-- A slice of n elements (sz cells each, of type e), capacity cap, whose cells are xs; the blocks that bear it. -/
def RowG (lim e sz : Nat) (a : Option Addr) (n cap : Nat) (xs : List Value) (L : Blks) : Prop :=
  (a = none ∧ n = 0 ∧ cap = 0 ∧ xs = [] ∧ L = []) ∨
  ∃ (b : Nat) (spare : List Value) (fz : Nat × Nat), a = some ⟨b, 0, none⟩ ∧ 0 < cap ∧ xs.length = n * sz ∧ (xs ++ spare).length = cap * sz ∧ fz.2 ≤ lim ∧ L = [(b, .cells (xs ++ spare).toArray e fz)]
abbrev Row (e sz : Nat) (a : Option Addr) (n cap : Nat) (xs : List Value) (L : Blks) : Prop := RowG (n * sz) e sz a n cap xs L
/-- One whose elements may be written. -/
abbrev RowZ (e sz : Nat) (a : Option Addr) (n cap : Nat) (xs : List Value) (L : Blks) : Prop := RowG 0 e sz a n cap xs L
theorem RowG.mono {lim lim' e sz n cap : Nat} {a : Option Addr} {xs : List Value} {L : Blks} (h : RowG lim e sz a n cap xs L) (hl : lim ≤ lim') : RowG lim' e sz a n cap xs L := by
  rcases h with h | ⟨b, spare, fz, h1, h2, h3, h4, h5, h6⟩
  · exact .inl h
  · exact .inr ⟨b, spare, fz, h1, h2, h3, h4, Nat.le_trans h5 hl, h6⟩
theorem RowG.row {e sz n cap : Nat} {a : Option Addr} {xs : List Value} {L : Blks} (h : RowZ e sz a n cap xs L) : Row e sz a n cap xs L := h.mono (Nat.zero_le _)

theorem Row.nil (e sz : Nat) : Row e sz none 0 0 [] [] := .inl ⟨rfl, rfl, rfl, rfl, rfl⟩
theorem RowZ.nil (e sz : Nat) : RowZ e sz none 0 0 [] [] := .inl ⟨rfl, rfl, rfl, rfl, rfl⟩
theorem RowG.len {lim e sz n cap : Nat} {a : Option Addr} {xs : List Value} {L : Blks} (h : RowG lim e sz a n cap xs L) : xs.length = n * sz := by
  rcases h with ⟨_, rfl, _, rfl, _⟩ | ⟨b, spare, fz, _, _, h1, _⟩
  · simp
  · exact h1

theorem setCells_append (ys : List Value) : ∀ (xs zs spare : List Value), zs.length = ys.length → setCells (xs ++ zs ++ spare).toArray xs.length ys = (xs ++ ys ++ spare).toArray := by
  induction ys with
  | nil => intro xs zs spare h; simp at h; subst h; simp [setCells]
  | cons y ys ih =>
    intro xs zs spare h
    cases zs with
    | nil => simp at h
    | cons z zs =>
      simp only [setCells]
      have e : (xs ++ z :: zs ++ spare).toArray.setIfInBounds xs.length y = ((xs ++ [y]) ++ zs ++ spare).toArray := by
        simp
      rw [e]
      have := ih (xs ++ [y]) zs spare (by simpa using h)
      simp only [List.length_append, List.length_cons, List.length_nil] at this
      rw [show xs.length + 1 = xs.length + (0 + 1) by omega, this]
      simp

theorem zeroCells_length (z : Array Value) (k : Nat) : (Builtin.zeroCells z k).toList.length = k * z.size := by
  simp [Builtin.zeroCells]


theorem firstCells_row {P : Program} {w : World} {b : Nat} {e : TypeId} {xs spare : List Value} {fz : Nat × Nat} (hb : w.heap[b]? = some (.cells (xs ++ spare).toArray e fz)) (n sz cap : Nat) (h1 : xs.length = n * sz) :
    (Builtin.firstCells sz n (.slice (some ⟨b, 0, none⟩) n cap)).run P w = .ok xs.toArray w := by
  have := loadCellsFrom_run (P := P) hb 0 (n * sz) 0 #[] (by simp; omega)
  simp only [Builtin.firstCells, loadCells, this]
  simp [← h1]

theorem RowG.old {lim e sz n cap : Nat} {a : Option Addr} {xs : List Value} {L : Blks} (h : RowG lim e sz a n cap xs L) {P : Program} {C : Ctx} {w : World} {F : Blks} (hw : Owns C w (L ++ F)) : (Builtin.firstCells sz n (.slice a n cap)).run P w = .ok xs.toArray w := by
  rcases h with ⟨rfl, rfl, rfl, rfl, rfl⟩ | ⟨b, spare, fz, rfl, _, h1, h2, _, rfl⟩
  · rfl
  · exact firstCells_row (hw.get (o := .cells (xs ++ spare).toArray e fz) (List.mem_append_left _ (List.mem_singleton.2 rfl))) n sz cap h1

def appOk (P : Program) (t t2 e sz bytes : Nat) : Bool :=
  match P.underlying t, P.underlying t2, P.info? e with
  | some (.slice e'), some d2, some i => Nat.beq e' e && (match d2 with | .int _ => false | _ => true) && Nat.beq i.size sz && Nat.beq i.bytes bytes && (match i.zero with | some z => Nat.beq z.cells.size sz | none => false)
  | _, _, _ => false

/-- The builtin append, on a slice of the call's own. -/
theorem append_run {P : Program} {C : Ctx} {w : World} {L F : Blks} {lim e sz n cap m : Nat} {a : Option Addr} {x : Value} {xs ys : List Value} {t t2 bytes : Nat} (ty : TypeId) (hok : appOk P t t2 e sz bytes = true)
    (hrow : RowG lim e sz a n cap xs L) (hlim : lim ≤ n * sz) (hw : Owns C w (L ++ F))
    (hm : ∀ w : World, (Builtin.lenOf x).run P w = .ok m w) (hys : ys.length = m * sz) (h1 : oneCells ys = true)
    (hnew : ∀ n : Nat, (Builtin.firstCells sz m x).run P { w with drawn := n } = .ok ys.toArray { w with drawn := n })
    (h63 : n + m ≤ 9223372036854775807) (hb47 : (n + m) * bytes ≤ 140737488355328) :
    ∃ a' cap' w' L', (Builtin.append_ #[t, t2] ty #[.slice a n cap, x]).run P w = .ok (.slice a' (n + m) cap') w' ∧ RowG lim e sz a' (n + m) cap' (xs ++ ys) L' ∧ Owns C w' (L' ++ F) := by
  obtain ⟨i, z, d2, ht, ht2, hd2, hi, hz, hsz, hby, hzs⟩ : ∃ i z d2, P.underlying t = some (.slice e) ∧ P.underlying t2 = some d2 ∧ (∀ k, d2 ≠ .int k) ∧ P.info? e = some i ∧ i.zero = some z ∧ i.size = sz ∧ i.bytes = bytes ∧ z.cells.size = sz := by
    unfold appOk at hok
    split at hok
    · rename_i e' d2 i he hd hi
      simp only [Bool.and_eq_true] at hok
      obtain ⟨⟨⟨⟨k1, k2⟩, k3⟩, k4⟩, k5⟩ := hok
      cases Nat.eq_of_beq_eq_true k1
      cases hz : i.zero with
      | none => simp [hz] at k5
      | some z =>
        rw [hz] at k5
        exact ⟨i, z, d2, he, hd, fun k ek => by subst ek; simp at k2, hi, hz, Nat.eq_of_beq_eq_true k3, Nat.eq_of_beq_eq_true k4, Nat.eq_of_beq_eq_true k5⟩
    · cases hok
  have hsz' : P.cellsOf e = sz := by simp [Program.cellsOf, hi, hsz]
  have hxs := hrow.len
  have hnew0 : (Builtin.firstCells sz m x).run P w = .ok ys.toArray w := hnew w.drawn
  have hoc : ∀ v ∈ ys, v.oneCell' = true := by simpa [oneCells] using h1
  have hrunE : ∀ (w : World), (typeInfo e).run P w = .ok i w := fun w => by simp [typeInfo, Sem.run_bind, program, Sem.run, hi]
  have hzero : ∀ (w : World), (zeroValue e).run P w = .ok z w := fun w => by simp [zeroValue, Sem.run_bind, hrunE, hz]
  have hd2' : (match d2 with | .int _ => true | _ => false) = false := by cases d2 <;> first | rfl | exact absurd rfl (hd2 _)
  unfold Builtin.append_
  simp only [List.getElem?_toArray, List.getElem?_cons_succ, List.getElem?_cons_zero, Sem.run_bind, run_underlying ht, run_underlying ht2, run_sizeOf _ hi, Result.andThen_ok, hsz', Sem.run_pure]
  simp only [Bool.false_eq_true, if_false, Sem.run_bind, hm, Result.andThen_ok, Bool.not_false, if_true]
  by_cases hfit : n + m ≤ cap
  · rw [if_pos hfit]
    simp only [Sem.run_bind, hnew0, Result.andThen_ok]
    rcases hrow with ⟨rfl, rfl, rfl, rfl, rfl⟩ | ⟨b, spare, fz, rfl, hc0, _, h2, hfz, rfl⟩
    · have hm0 : m = 0 := by omega
      subst hm0
      have hy0 : ys = [] := by simpa using hys
      subst hy0
      refine ⟨none, 0, w, [], ?_, .inl ⟨rfl, rfl, rfl, rfl, rfl⟩, hw⟩
      simp
    · have hmul : (n + m) * sz ≤ cap * sz := Nat.mul_le_mul_right _ hfit
      rw [Nat.add_mul] at hmul
      rw [List.length_append] at h2
      have hb : w.heap[b]? = some (.cells (xs ++ spare).toArray e fz) := hw.get (o := .cells (xs ++ spare).toArray e fz) (List.mem_append_left _ (List.mem_singleton.2 rfl))
      have hadd : (⟨b, 0, none⟩ : Addr).add (n * sz) = ⟨b, n * sz, none⟩ := by unfold Addr.add; split <;> simp_all
      have hst := storeCells_run (P := P) (n * sz) ys 0 _ w hb (by simp; omega) (by omega) hoc
      have hsp : spare = spare.take ys.length ++ spare.drop ys.length := (List.take_append_drop _ _).symm
      have hset : setCells (xs ++ spare).toArray (n * sz + 0) ys = (xs ++ ys ++ spare.drop ys.length).toArray := by
        rw [Nat.add_zero, ← hxs]
        have := setCells_append ys xs (spare.take ys.length) (spare.drop ys.length) (by simp; omega)
        rw [List.append_assoc, ← hsp] at this
        exact this
      rw [hset] at hst
      refine ⟨some ⟨b, 0, none⟩, cap, _, [(b, .cells ((xs ++ ys) ++ spare.drop ys.length).toArray e fz)], ?_, .inr ⟨b, spare.drop ys.length, fz, rfl, hc0, by simp [hxs, hys, Nat.add_mul], by simp; omega, hfz, rfl⟩, Owns.set (L1 := []) (L2 := F) hw⟩
      simp only [hadd, Sem.run_bind, hst, Result.andThen_ok, Sem.run_pure]
  · rw [if_neg hfit]
    have hbig : ¬ (((n + m : Nat) : Int) > IntKind.i64.max ∧ (False ∨ i.bytes = 0)) := fun h => by
      have := h.1
      simp only [IntKind.max, IntKind.signed, IntKind.bits] at this
      omega
    have hcap : ¬ (Builtin.nextslicecap (n + m) cap * i.bytes > 2 ^ 48) := by
      have := growslice_fits (need := n + m) (old := cap) (bytes := i.bytes) (by omega) (hby ▸ hb47)
      omega
    simp only [Sem.run_bind, hrunE, Result.andThen_ok, hbig, hcap, if_false]
    have hch : ∀ (q : Question) (w : World), q.forced = false → (choose q).run P w = .ok (q.cut (w.tape w.drawn q)) { w with drawn := w.drawn + 1 } := fun q w h => by simp [choose, Sem.run, h]
    rw [hch _ _ rfl]
    simp only [Result.andThen_ok]
    generalize hnc : (Question.appendCap (n + m) cap e).cut (w.tape w.drawn (Question.appendCap (n + m) cap e)) = nc
    have hnc2 : n + m ≤ nc := by rw [← hnc]; simp [Question.cut]
    have hask : ∀ (k : Nat) (w : World), (askRoom k).run P w = .ok () w := fun k w => by unfold askRoom; split <;> rfl
    have hold : (Builtin.firstCells sz n (.slice a n cap)).run P { w with drawn := w.drawn + 1 } = .ok xs.toArray { w with drawn := w.drawn + 1 } := hrow.old (hw.drew _)
    simp only [hask, Result.andThen_ok, hold, hnew (w.drawn + 1), hzero, Sem.run_pure]
    have hw1 : Owns C { w with drawn := w.drawn + 1 } F := (hw.drew (w.drawn + 1)).drop
    have hal := hw1.alloc (.cells (xs ++ ys ++ (Builtin.zeroCells z.cells (nc - (n + m))).toList).toArray e (0, 0))
    refine ⟨some ⟨w.heap.size, 0, none⟩, nc, _, _, rfl, .inr ⟨w.heap.size, (Builtin.zeroCells z.cells (nc - (n + m))).toList, (0, 0), rfl, by omega, by simp [hxs, hys, Nat.add_mul], ?_, by simp, rfl⟩, ?_⟩
    · have h3 := zeroCells_length z.cells (nc - (n + m))
      rw [hzs] at h3
      rw [List.length_append, List.length_append, hxs, hys, h3, ← Nat.add_mul, ← Nat.add_mul]
      congr 1
      omega
    · have e1 : xs.toArray ++ ys.toArray ++ Builtin.zeroCells z.cells (nc - (n + m)) = (xs ++ ys ++ (Builtin.zeroCells z.cells (nc - (n + m))).toList).toArray := by
        apply Array.ext'; simp
      rw [← e1] at hal ⊢
      exact hal

def u8s (l : List UInt8) : List Value := l.map fun b => .int .u8 b.toNat
theorem u8s_len (l : List UInt8) : (u8s l).length = l.length := by simp [u8s]
theorem u8s_one (l : List UInt8) : oneCells (u8s l) = true := by
  simp only [oneCells, List.all_eq_true, u8s, List.mem_map]
  rintro _ ⟨b, _, rfl⟩
  rfl
theorem u8s_append (a b : List UInt8) : u8s (a ++ b) = u8s a ++ u8s b := by simp [u8s]

/-- append(s, x), x of a row made for it. -/
theorem gv_append1 {P : Program} {C : Ctx} {L : Blks} {e sz n cap m : Nat} {a : Option Addr} {xs : List Value} {t t2 bytes b2 e2 : Nat} {ys : Array Value} {fz2 : Nat × Nat} (ty : TypeId) (hok : appOk P t t2 e sz bytes = true)
    (hrow : Row e sz a n cap xs L) (hys : ys.size = m * sz) (h1 : oneCells ys.toList = true) (h63 : n + m ≤ 9223372036854775807) (hb47 : (n + m) * bytes ≤ 140737488355328) :
    GivesR P C (do pure (.value (← Builtin.append_ #[t, t2] ty #[.slice a n cap, .slice (some ⟨b2, 0, none⟩) m m]))) [L, [(b2, .cells ys e2 fz2)]]
      (fun v L' => ∃ a' cap' L1, v = .slice a' (n + m) cap' ∧ L' = [L1] ∧ Row e sz a' (n + m) cap' (xs ++ ys.toList) L1) := by
  intro w F hw
  have hw' : Owns C w (L ++ ((b2, .cells ys e2 fz2) :: F)) := by simpa using hw
  have hb : w.heap[b2]? = some (.cells ys e2 fz2) := hw'.get (by simp)
  obtain ⟨a', cap', w', L', h2, h3, h4⟩ := append_run (x := .slice (some ⟨b2, 0, none⟩) m m) (ys := ys.toList) (m := m) ty hok hrow (Nat.le_refl _) hw' (fun w => rfl) (by simpa using hys) h1 (fun k => by
    have hb' : ({ w with drawn := k } : World).heap[b2]? = some (.cells ys e2 fz2) := hb
    have := loadCellsFrom_run (P := P) hb' 0 (m * sz) 0 #[] (by omega)
    simp only [Builtin.firstCells, loadCells, this]
    simp [← hys]) h63 hb47
  refine ⟨_, w', _, [L'], by rw [Sem.run_bind, h2]; rfl, .inl rfl, ?_, a', cap', L', rfl, rfl, h3.mono (by rw [Nat.add_mul]; omega)⟩
  have h5 : Owns C w' ((L' ++ [(b2, .cells ys e2 fz2)]) ++ F) := by simpa using h4
  simpa using h5.sub ((List.sublist_append_left L' _).append_right F)

/-- append(b, s...), s a string. -/
theorem gv_appends {P : Program} {C : Ctx} {L : Blks} {e n cap : Nat} {a : Option Addr} {xs : List Value} {t t2 bytes : Nat} (s : List UInt8) (ty : TypeId) (hok : appOk P t t2 e 1 bytes = true)
    (hrow : Row e 1 a n cap xs L) (h63 : n + s.length ≤ 9223372036854775807) (hb47 : (n + s.length) * bytes ≤ 140737488355328) :
    GivesR P C (do pure (.value (← Builtin.append_ #[t, t2] ty #[.slice a n cap, str s]))) [L]
      (fun v L' => ∃ a' cap' L1, v = .slice a' (n + s.length) cap' ∧ L' = [L1] ∧ Row e 1 a' (n + s.length) cap' (xs ++ u8s s) L1) := by
  intro w F hw
  have hw' : Owns C w (L ++ F) := by simpa using hw
  obtain ⟨a', cap', w', L', h2, h3, h4⟩ := append_run (x := str s) (ys := u8s s) (m := s.length) ty hok hrow (Nat.le_refl _) hw' (fun w => by simp [Builtin.lenOf, str]; rfl) (by simp [u8s]) (u8s_one s) (fun k => by
    simp only [Builtin.firstCells, str, Sem.run_pure]
    congr 1
    apply Array.ext'
    simp [u8s, ByteArray.data_extract]) h63 hb47
  exact ⟨_, w', _, [L'], by rw [Sem.run_bind, h2]; rfl, .inl rfl, by simpa using h4, a', cap', L', rfl, rfl, h3.mono (by rw [Nat.add_mul]; omega)⟩
end Go.Sep
