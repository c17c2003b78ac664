/- The rules of the walk under short names, what the kernel reckons left out. No condition. -/
import Derived.Test.YtooncojgfdcjeaaGreatDoorRf
namespace Go.Sep
open Go

/-! ### Values -/
abbrev p0 (b : Nat) : Value := .pointer (some ⟨b, 0, none⟩)
abbrev pq (b o : Nat) : Value := .pointer (some ⟨b, o, none⟩)
abbrev n6 (n : Nat) : Value := .int .i64 (n : Int)
abbrev z6 (n : Int) : Value := .int .i64 n
abbrev u6 (n : Nat) : Value := .int .u64 (n : Int)
abbrev u1 (n : Nat) : Value := .int .u8 (n : Int)
abbrev u3 (n : Nat) : Value := .int .u32 (n : Int)
abbrev j3 (n : Nat) : Value := .int .i32 (n : Int)
abbrev sl (b n c : Nat) : Value := .slice (some ⟨b, 0, none⟩) n c
abbrev bk (b e : Nat) (c : Array Value) : Blks := [(b, .cells c e (0, 0))]
/-- The numbers of an open region's operations that have come up. -/
def bm (n m : Nat) : Array Bool := ((List.range n).map fun i => m.testBit i).toArray

/-- A premise that the walk's own tactic shows. -/
structure Ok (p : Prop) : Prop where
  h : p := by first | omega | (simp only [List.length_append, List.length_cons, List.length_nil]; omega) | (simp only [List.length_drop, List.length_take]; omega) | with_reducible assumption | (simp; done) | (simp; omega) | (simp_all; done) | (simp_all; omega)

section
variable {P : Program} {C : Ctx} {rd : Option Nat} {n : Nat} {D : List Deferred} {ops : Array Oper} {K : Act → List Blks → Prop} {E : Env} {Ls Lr Lx : List Blks} {fuel : Nat} {listed : Array Bool} {Q : Exit → Act → List Blks → Prop}

/-! ### Segments -/
theorem rS (H : List (Nat × Hint)) (idxs rest : List Nat) (N : Prop) (E' : Env) (Ls' : List Blks) (hN : N) (h : RgE P C rd n D ops rest E' Ls' K) {todo : List Nat} (htodo : todo = idxs ++ rest := by kernel_rfl)
    (h1 : AllN (seg P C n ops H idxs E Ls).needs = N := by kernel_rfl) (h2 : restrict (seg P C n ops H idxs E Ls).E (E'.map Prod.fst) = E' := by kernel_rfl) (h3 : (seg P C n ops H idxs E Ls).Ls = Ls' := by kernel_rfl) : RgE P C rd n D ops todo E Ls K :=
  rg_seg H idxs rest N _ E' Ls' htodo h1 h2 h3 hN h
theorem rQ (H : List (Nat × Hint)) (idxs rest : List Nat) (N : Prop) (E' : Env) (hN : N) (h : RgE P C rd n D ops rest E' Ls K) {todo : List Nat} (htodo : todo = idxs ++ rest := by kernel_rfl)
    (h1 : AllN (seg P C n ops H idxs E Ls).needs = N := by kernel_rfl) (h2 : restrict (seg P C n ops H idxs E Ls).E (E'.map Prod.fst) = E' := by kernel_rfl) (h3 : (seg P C n ops H idxs E Ls).Ls = Ls := by kernel_rfl) : RgE P C rd n D ops todo E Ls K :=
  rg_seg H idxs rest N _ E' Ls htodo h1 h2 h3 hN h
theorem cS {id : Nat} {y : Code} (H : List (Nat × Hint)) (N : Prop) (E' : Env) (Ls' : List Blks) (hN : N) (h : CdE P C rd n D y E' Ls' Q)
    (h1 : AllN (seg P C n ops H (List.range ops.size) E Ls).needs = N := by kernel_rfl) (h2 : restrict (seg P C n ops H (List.range ops.size) E Ls).E (E'.map Prod.fst) = E' := by kernel_rfl) (h3 : (seg P C n ops H (List.range ops.size) E Ls).Ls = Ls' := by kernel_rfl) : CdE P C rd n D (.seq (.region id ops false) y) E Ls Q :=
  cd_s H N _ E' Ls' h1 h2 h3 hN h
theorem cQ {id : Nat} {y : Code} (H : List (Nat × Hint)) (N : Prop) (E' : Env) (hN : N) (h : CdE P C rd n D y E' Ls Q)
    (h1 : AllN (seg P C n ops H (List.range ops.size) E Ls).needs = N := by kernel_rfl) (h2 : restrict (seg P C n ops H (List.range ops.size) E Ls).E (E'.map Prod.fst) = E' := by kernel_rfl) (h3 : (seg P C n ops H (List.range ops.size) E Ls).Ls = Ls := by kernel_rfl) : CdE P C rd n D (.seq (.region id ops false) y) E Ls Q :=
  cd_s H N _ E' Ls h1 h2 h3 hN h
theorem cS0 {id : Nat} (H : List (Nat × Hint)) (N : Prop) (E' : Env) (Ls' : List Blks) (hN : N) (h : ∀ a, Agr n D E' a → Q .normal a Ls')
    (h1 : AllN (seg P C n ops H (List.range ops.size) E Ls).needs = N := by kernel_rfl) (h2 : restrict (seg P C n ops H (List.range ops.size) E Ls).E (E'.map Prod.fst) = E' := by kernel_rfl) (h3 : (seg P C n ops H (List.range ops.size) E Ls).Ls = Ls' := by kernel_rfl) : CdE P C rd n D (.region id ops false) E Ls Q :=
  cd_s0 H N _ E' Ls' h1 h2 h3 hN h
theorem cQ0 {id : Nat} (H : List (Nat × Hint)) (N : Prop) (E' : Env) (hN : N) (h : ∀ a, Agr n D E' a → Q .normal a Ls)
    (h1 : AllN (seg P C n ops H (List.range ops.size) E Ls).needs = N := by kernel_rfl) (h2 : restrict (seg P C n ops H (List.range ops.size) E Ls).E (E'.map Prod.fst) = E' := by kernel_rfl) (h3 : (seg P C n ops H (List.range ops.size) E Ls).Ls = Ls := by kernel_rfl) : CdE P C rd n D (.region id ops false) E Ls Q :=
  cd_s0 H N _ E' Ls h1 h2 h3 hN h

/-! ### Events in the text's order -/
theorem rN (i : Nat) (rest : List Nat) (ob : Obj) (v : Nat → Value) (h : ∀ b, RgE P C rd n D ops rest (push (opAt ops i).dst (v b) E) (Ls ++ [[(b, ob)]]) K) (hf : fit n ops E i = true := by kernel_rfl)
    (hs : newNext P (execOp (ρ E) (opAt ops i)) = some (ob, fun b => some (.value (v b))) := by kernel_rfl) : RgE P C rd n D ops (i :: rest) E Ls K := rg_new i rest ob v hf hs h
theorem rC (i : Nat) (rest : List Nat) (ks : List Nat) (L2 : List Blks) {f : FuncId} {args : Array Value} {L1 : List Blks} {R : Value → List Blks → Prop} (hc : FnT P C f args L1 R)
    (h : ∀ v L', R v L' → RgE P C rd n D ops rest (push (opAt ops i).dst v E) (L' ++ L2) K) (hf : fit n ops E i = true := by kernel_rfl)
    (hs : pureNext P (execOp (ρ E) (opAt ops i)) = some (.enter f args) := by kernel_rfl) (hp : pull ks Ls = (L1, L2) := by kernel_rfl) : RgE P C rd n D ops (i :: rest) E Ls K := rg_call i rest f args ks L1 L2 hf hs hp hc h
theorem rR (i : Nat) (rest : List Nat) {f : FuncId} {args : Array Value} {R : Value → Prop} (hc : FnT P C f args [Ls.flatten] (fun v L => R v ∧ L = [Ls.flatten]))
    (h : ∀ v, R v → RgE P C rd n D ops rest (push (opAt ops i).dst v E) Ls K) (hf : fit n ops E i = true := by kernel_rfl) (hs : pureNext P (execOp (ρ E) (opAt ops i)) = some (.enter f args) := by kernel_rfl) : RgE P C rd n D ops (i :: rest) E Ls K := rg_callq i rest f args hf hs hc h
theorem rX (i : Nat) (rest : List Nat) (s : Sem Next) (ks : List Nat) (L1 L2 : List Blks) {R : Value → List Blks → Prop} (hc : GivesR P C s L1 R)
    (h : ∀ v L', R v L' → RgE P C rd n D ops rest (push (opAt ops i).dst v E) (L' ++ L2) K) (hf : fit n ops E i = true := by kernel_rfl) (hs : execOp (ρ E) (opAt ops i) = s := by kernel_rfl) (hp : pull ks Ls = (L1, L2) := by kernel_rfl) : RgE P C rd n D ops (i :: rest) E Ls K := rg_ex i rest s ks L1 L2 hf hs hp hc h
theorem rV (i : Nat) (rest : List Nat) (ks : List Nat) (L2 : List Blks) {y : Value} {as : Array Value} {L1 : List Blks} {R : Value → List Blks → Prop} (hc : ValT P C y as L1 R)
    (h : ∀ v L', R v L' → RgE P C rd n D ops rest (push (opAt ops i).dst v E) (L' ++ L2) K) (hf : fit n ops E i = true := by kernel_rfl) (hs : execOp (ρ E) (opAt ops i) = callV y as := by kernel_rfl) (hp : pull ks Ls = (L1, L2) := by kernel_rfl) : RgE P C rd n D ops (i :: rest) E Ls K := rg_val i rest y as ks L1 L2 hf hs hp hc h
theorem rF {y : Code} (h : CdE P C rd n D y E Ls Q) : RgE P C rd n D ops [] E Ls (fun a L => Cd P C rd y a L Q) := rg_nil h
theorem rD (E' : Env) {y : Code} (h : CdE P C rd n D y E' Ls Q) (hE : restrict E (E'.map Prod.fst) = E' := by kernel_rfl) : RgE P C rd n D ops [] E Ls (fun a L => Cd P C rd y a L Q) := rg_done _ E' hE h
theorem rP {todo : List Nat} (d : Nat) (v v' : Value) (hv : v = v') (h : RgE P C rd n D ops todo ((d, v') :: E) Ls K) (hl : look E d = some v := by kernel_rfl) : RgE P C rd n D ops todo E Ls K := rg_put d v v' hl hv h
theorem rI {todo : List Nat} (d : Nat) (b : Bool) (ht : b = true → RgE P C rd n D ops todo ((d, .bool true) :: E) Ls K) (hf : b = false → RgE P C rd n D ops todo ((d, .bool false) :: E) Ls K) (hl : look E d = some (.bool b) := by kernel_rfl) : RgE P C rd n D ops todo E Ls K := rg_split d b hl ht hf
theorem rM {todo : List Nat} {E' : Env} {Ls' : List Blks} (h : RgE P C rd n D ops todo E' Ls' K) (hE : restrict E (E'.map Prod.fst) = E' := by kernel_rfl) (hL : Ls = Ls' := by kernel_rfl) : RgE P C rd n D ops todo E Ls K := rg_meet _ hE hL h
theorem rT {todo : List Nat} (ks : List Nat) (L1 : List Blks) (h : RgE P C rd n D ops todo E L1 K) (hp : (pull ks Ls).1 = L1 := by kernel_rfl) : RgE P C rd n D ops todo E Ls K := rg_take ks L1 _ (by rw [← hp]) h
theorem cT {c : Code} (ks : List Nat) (L1 : List Blks) (h : CdE P C rd n D c E L1 Q) (hp : (pull ks Ls).1 = L1 := by kernel_rfl) : CdE P C rd n D c E Ls Q := cd_take ks L1 _ (by rw [← hp]) h

/-! ### Code -/
theorem cI {c : Operand} {x y : Code} (b : Bool) (ht : b = true → CdE P C rd n D x E Ls Q) (hf : b = false → CdE P C rd n D y E Ls Q) (hb : evo E c = some (.bool b) := by kernel_rfl) : CdE P C rd n D (.cond c x y) E Ls Q := cd_if b hb ht hf
theorem cYes {c : Operand} {x y : Code} (h : CdE P C rd n D x E Ls Q) (hb : evo E c = some (.bool true) := by kernel_rfl) : CdE P C rd n D (.cond c x y) E Ls Q := cd_true hb h
theorem cNo {c : Operand} {x y : Code} (h : CdE P C rd n D y E Ls Q) (hb : evo E c = some (.bool false) := by kernel_rfl) : CdE P C rd n D (.cond c x y) E Ls Q := cd_false hb h
theorem cE {c : Code} (E' : Env) (Ls' : List Blks) (h : CdE P C rd n D c E' Ls' Q) (hE : restrict E (E'.map Prod.fst) = E' := by kernel_rfl) (hL : Ls = Ls' := by kernel_rfl) : CdE P C rd n D c E Ls Q := cd_env _ E' Ls' hE hL h
theorem lM {X : Type} {E0 : X → Env} {L0 : X → List Blks} {I : X → Prop} {μ : X → Nat} {m : Nat} (y : X) (hI : I y) (hμ : μ y < m) (hE : restrict E ((E0 y).map Prod.fst) = E0 y := by kernel_rfl) (hL : Ls = L0 y := by kernel_rfl) :
    ∀ a, Agr n D E a → thenQ (fun a L => ∃ y, I y ∧ μ y < m ∧ Agr n D (E0 y) a ∧ L = L0 y) Q .normal a Ls := loop_n y _ hE hL hI hμ
theorem sM {X : Type} {E0 : X → Env} {L0 : X → List Blks} {I : X → Prop} {μ : X → Nat} {m : Nat} (y : X) (hI : I y) (hμ : μ y < m) (hE : restrict E ((E0 y).map Prod.fst) = E0 y := by kernel_rfl) (hL : Ls = L0 y := by kernel_rfl) :
    ∀ a, Agr n D E a → (fun a L => ∃ y, I y ∧ μ y < m ∧ Agr n D (E0 y) a ∧ L = L0 y) a Ls := scope_hit y _ hE hL hI hμ
theorem sF {X : Type} {E0 : X → Env} {L0 : X → List Blks} {I : X → Prop} (y : X) (hI : I y) (hE : restrict E ((E0 y).map Prod.fst) = E0 y := by kernel_rfl) (hL : Ls = L0 y := by kernel_rfl) :
    ∀ a, Agr n D E a → (fun a L => ∃ y, I y ∧ Agr n D (E0 y) a ∧ L = L0 y) a Ls := scope_first y _ hE hL hI
theorem lp {X : Type} {c : Code} (E0 : X → Env) (L0 : X → List Blks) (I : X → Prop) (μ : X → Nat) (x0 : X) (hI : I x0)
    (round : ∀ x, I x → CdE P C rd n D c (E0 x) (L0 x) (thenQ (fun a L => ∃ y, I y ∧ μ y < μ x ∧ Agr n D (E0 y) a ∧ L = L0 y) Q)) (hE : restrict E ((E0 x0).map Prod.fst) = E0 x0 := by kernel_rfl) (hL : Ls = L0 x0 := by kernel_rfl) : CdE P C rd n D (.loop c) E Ls Q :=
  cd_loop E0 L0 I μ x0 _ hE hL hI round
theorem rv {fn : Func} {R : Value → List Blks → Prop} (vs : List Value) (v : Value) (hR : R v Ls) (hv : resV E fn.results.toList = some vs := by kernel_rfl) (ho : oneV vs = v := by kernel_rfl) : ∀ a, Agr n [] E a → Lv P C fn a.tmps R a.defers Ls := ret_vals vs v hv ho hR
theorem rvD {fn : Func} {R : Value → List Blks → Prop} (vs : List Value) (v : Value) (ks : List Nat) (L2 : List Blks) (hR : R v L2) (hv : resV E fn.results.toList = some vs := by kernel_rfl) (ho : oneV vs = v := by kernel_rfl) (hp : (pull ks Ls).1 = L2 := by kernel_rfl) :
    ∀ a, Agr n [] E a → Lv P C fn a.tmps R a.defers Ls := ret_valsD vs v ks L2 _ hv ho (by rw [← hp]) hR

/-! ### Regions whose order is open -/
theorem dr {id : Nat} {y : Code} (Lr Lx : List Blks) (ks : List Nat) (m : Nat) (h : RgA P C rd n D ops Lr m (bm m 0) E Lx (fun a L => Cd P C rd y a L Q)) (hm : P.follows .mixedOrders = true := by kernel_rfl) (hsz : ops.size = m := by kernel_rfl)
    (hl : Array.replicate m false = bm m 0 := by kernel_rfl) (hL : pull ks Ls = (Lx, Lr) := by kernel_rfl) : CdE P C rd n D (.seq (.region id ops true) y) E Ls Q := cd_draw hm Lr Lx m hsz hl (pull_flat' hL) h
theorem dr0 {id : Nat} (Lr Lx : List Blks) (ks : List Nat) (m : Nat) (h : RgA P C rd n D ops Lr m (bm m 0) E Lx (fun a L => Q .normal a L)) (hm : P.follows .mixedOrders = true := by kernel_rfl) (hsz : ops.size = m := by kernel_rfl)
    (hl : Array.replicate m false = bm m 0 := by kernel_rfl) (hL : pull ks Ls = (Lx, Lr) := by kernel_rfl) : CdE P C rd n D (.region id ops true) E Ls Q := cd_draw0 hm Lr Lx m hsz hl (pull_flat' hL) h
theorem aS (H : List (Nat × Hint)) (idxs : List Nat) (N : Prop) (E' : Env) (listed' : Array Bool) (m : Nat) (hN : N) (h : RgA P C rd n D ops Lr m listed' E' Lx K) (hsel : Region.noSelect ops = true := by kernel_rfl) (ht : takeable ops listed idxs = true := by kernel_rfl)
    (hq : (idxs.all fun i => ((ops[i]?).map quietOp).getD false) = true := by kernel_rfl) (hm : m + idxs.length = fuel := by kernel_rfl) (hl : listAll listed idxs = listed' := by kernel_rfl) (h1 : AllN (seg P C n ops H idxs E Lr).needs = N := by kernel_rfl)
    (h2 : restrict (seg P C n ops H idxs E Lr).E (E'.map Prod.fst) = E' := by kernel_rfl) : RgA P C rd n D ops Lr fuel listed E Lx K := rga_seg H idxs N _ E' listed' m hsel ht hq hm hl h1 h2 hN h
theorem xS {i : Nat} (H : List (Nat × Hint)) (N : Prop) (E' : Env) (Lx' : List Blks) (listed' : Array Bool) (hN : N) (h : RgA P C rd n D ops Lr fuel listed' E' Lx' K) (hi : Nat.blt i ops.size = true := by kernel_rfl)
    (h1 : AllN (seg P C n ops H [i] E Lx).needs = N := by kernel_rfl) (h2 : restrict (seg P C n ops H [i] E Lx).E (E'.map Prod.fst) = E' := by kernel_rfl) (h3 : (seg P C n ops H [i] E Lx).Ls = Lx' := by kernel_rfl) (hl : listed.setIfInBounds i true = listed' := by kernel_rfl) : RgX P C rd n D ops Lr fuel listed E Lx K i :=
  rgx_ev H N _ E' Lx' listed' hi h1 h2 h3 hl hN h
theorem xQ {i : Nat} (H : List (Nat × Hint)) (N : Prop) (E' : Env) (listed' : Array Bool) (hN : N) (h : RgA P C rd n D ops Lr fuel listed' E' Lx K) (hi : Nat.blt i ops.size = true := by kernel_rfl)
    (h1 : AllN (seg P C n ops H [i] E Lx).needs = N := by kernel_rfl) (h2 : restrict (seg P C n ops H [i] E Lx).E (E'.map Prod.fst) = E' := by kernel_rfl) (h3 : (seg P C n ops H [i] E Lx).Ls = Lx := by kernel_rfl) (hl : listed.setIfInBounds i true = listed' := by kernel_rfl) : RgX P C rd n D ops Lr fuel listed E Lx K i :=
  rgx_ev H N _ E' Lx listed' hi h1 h2 h3 hl hN h
theorem xN {i : Nat} (ob : Obj) (v : Nat → Value) (ks : List Nat) (listed' : Array Bool) (h : ∀ b, RgA P C rd n D ops Lr fuel listed' (restrict (push (opAt ops i).dst (v b) E) ks) (Lx ++ [[(b, ob)]]) K) (hf : fit n ops E i = true := by kernel_rfl)
    (hs : newNext P (execOp (ρ E) (opAt ops i)) = some (ob, fun b => some (.value (v b))) := by kernel_rfl) (hl : listed.setIfInBounds i true = listed' := by kernel_rfl) : RgX P C rd n D ops Lr fuel listed E Lx K i := rgx_new ob v ks listed' hf hs hl h
theorem xC {i : Nat} (cs : List Nat) (L2 : List Blks) (ks : List Nat) (listed' : Array Bool) {f : FuncId} {args : Array Value} {L1 : List Blks} {R : Value → List Blks → Prop} (hc : FnT P C f args L1 R)
    (h : ∀ v L', R v L' → RgA P C rd n D ops Lr fuel listed' (restrict (push (opAt ops i).dst v E) ks) (L' ++ L2) K) (hf : fit n ops E i = true := by kernel_rfl) (hs : pureNext P (execOp (ρ E) (opAt ops i)) = some (.enter f args) := by kernel_rfl)
    (hp : pull cs Lx = (L1, L2) := by kernel_rfl) (hl : listed.setIfInBounds i true = listed' := by kernel_rfl) : RgX P C rd n D ops Lr fuel listed E Lx K i := rgx_call f args cs L1 L2 ks listed' hf hs hp hl hc h
theorem xR {i : Nat} (ks : List Nat) (listed' : Array Bool) {f : FuncId} {args : Array Value} {R : Value → Prop} (hc : FnT P C f args [(Lr ++ Lx).flatten] (fun v L => R v ∧ L = [(Lr ++ Lx).flatten]))
    (h : ∀ v, R v → RgA P C rd n D ops Lr fuel listed' (restrict (push (opAt ops i).dst v E) ks) Lx K) (hf : fit n ops E i = true := by kernel_rfl) (hs : pureNext P (execOp (ρ E) (opAt ops i)) = some (.enter f args) := by kernel_rfl)
    (hl : listed.setIfInBounds i true = listed' := by kernel_rfl) : RgX P C rd n D ops Lr fuel listed E Lx K i := rgx_callr f args ks listed' hf hs hl hc h
theorem xX {i : Nat} (s : Sem Next) (cs : List Nat) (L1 L2 : List Blks) (ks : List Nat) (listed' : Array Bool) {R : Value → List Blks → Prop} (hc : GivesR P C s L1 R)
    (h : ∀ v L', R v L' → RgA P C rd n D ops Lr fuel listed' (restrict (push (opAt ops i).dst v E) ks) (L' ++ L2) K) (hf : fit n ops E i = true := by kernel_rfl) (hs : execOp (ρ E) (opAt ops i) = s := by kernel_rfl) (hp : pull cs Lx = (L1, L2) := by kernel_rfl)
    (hl : listed.setIfInBounds i true = listed' := by kernel_rfl) : RgX P C rd n D ops Lr fuel listed E Lx K i := rgx_ex s cs L1 L2 ks listed' hf hs hp hl hc h
theorem aP (d : Nat) (v v' : Value) (hv : v = v') (h : RgA P C rd n D ops Lr fuel listed ((d, v') :: E) Lx K) (hl : look E d = some v := by kernel_rfl) : RgA P C rd n D ops Lr fuel listed E Lx K := rga_put d v v' hl hv h
theorem aB (d : Nat) (b : Bool) (ht : b = true → RgA P C rd n D ops Lr fuel listed ((d, .bool true) :: E) Lx K) (hf : b = false → RgA P C rd n D ops Lr fuel listed ((d, .bool false) :: E) Lx K) (hl : look E d = some (.bool b) := by kernel_rfl) : RgA P C rd n D ops Lr fuel listed E Lx K := rga_split d b hl ht hf
theorem aE {y : Code} (E' : Env) (Ls' : List Blks) (h : CdE P C rd n D y E' Ls' Q) (hr : Region.ready .any ops listed = [] := by kernel_rfl) (hE : restrict E (E'.map Prod.fst) = E' := by kernel_rfl) (hL : Lr ++ Lx = Ls' := by kernel_rfl) :
    RgA P C rd n D ops Lr fuel listed E Lx (fun a L => Cd P C rd y a L Q) := rga_end _ hr hE hL h
theorem aM (E' : Env) (Ls' : List Blks) (h : ∀ a, Agr n D E' a → K a Ls') (hr : Region.ready .any ops listed = [] := by kernel_rfl) (hE : restrict E (E'.map Prod.fst) = E' := by kernel_rfl) (hL : Lr ++ Lx = Ls' := by kernel_rfl) :
    RgA P C rd n D ops Lr fuel listed E Lx K := rga_meet _ hr hE hL h
/-- All have come up; what stands behind is known, for these blocks, in this order. -/
theorem aJ {y : Code} {E' : Env} {L1 : List Blks} (cs : List Nat) (h : CdE P C rd n D y E' L1 Q) (hr : Region.ready .any ops listed = [] := by kernel_rfl) (hE : restrict E (E'.map Prod.fst) = E' := by kernel_rfl) (hp : (pull cs (Lr ++ Lx)).1 = L1 := by kernel_rfl) :
    RgA P C rd n D ops Lr fuel listed E Lx (fun a L => Cd P C rd y a L Q) := rga_end _ hr hE rfl (cd_take cs L1 _ (by rw [← hp]) h)
theorem aK (cs : List Nat) (E' : Env) (L1 : List Blks) (h : ∀ a, Agr n D E' a → K a L1) (hr : Region.ready .any ops listed = [] := by kernel_rfl) (hE : restrict E (E'.map Prod.fst) = E' := by kernel_rfl) (hp : (pull cs (Lr ++ Lx)).1 = L1 := by kernel_rfl) :
    RgA P C rd n D ops Lr fuel listed E Lx K := rga_meet_take _ cs hr hE (by rw [← hp]) h
theorem aI {i : Nat} (h : RgX P C rd n D ops Lr fuel listed E Lx K i) (hr : Region.ready .any ops listed = [i] := by kernel_rfl) : RgA P C rd n D ops Lr (fuel + 1) listed E Lx K := rga_one hr h
theorem aII {i j : Nat} (h1 : RgX P C rd n D ops Lr fuel listed E Lx K i) (h2 : RgX P C rd n D ops Lr fuel listed E Lx K j) (hr : Region.ready .any ops listed = [i, j] := by kernel_rfl) : RgA P C rd n D ops Lr (fuel + 1) listed E Lx K := rga_two hr h1 h2
theorem aIII {i j l : Nat} (h1 : RgX P C rd n D ops Lr fuel listed E Lx K i) (h2 : RgX P C rd n D ops Lr fuel listed E Lx K j) (h3 : RgX P C rd n D ops Lr fuel listed E Lx K l) (hr : Region.ready .any ops listed = [i, j, l] := by kernel_rfl) : RgA P C rd n D ops Lr (fuel + 1) listed E Lx K := rga_three hr h1 h2 h3
theorem aIV {i j l q : Nat} (h1 : RgX P C rd n D ops Lr fuel listed E Lx K i) (h2 : RgX P C rd n D ops Lr fuel listed E Lx K j) (h3 : RgX P C rd n D ops Lr fuel listed E Lx K l) (h4 : RgX P C rd n D ops Lr fuel listed E Lx K q)
    (hr : Region.ready .any ops listed = [i, j, l, q] := by kernel_rfl) : RgA P C rd n D ops Lr (fuel + 1) listed E Lx K :=
  rga_ready [i, j, l, q] hr (by simp) fun k hk => by
    simp at hk
    rcases hk with rfl | rfl | rfl | rfl
    · exact h1
    · exact h2
    · exact h3
    · exact h4
/-- What several ways of an open region come to, told once. -/
theorem aH (fuel' : Nat) (listed' : Array Bool) (E' : Env) (Lx' : List Blks) (h' : RgA P C rd n D ops Lr fuel' listed' E' Lx' K) (h : RgA P C rd n D ops Lr fuel' listed' E' Lx' K → RgA P C rd n D ops Lr fuel listed E Lx K) : RgA P C rd n D ops Lr fuel listed E Lx K := h h'
end
theorem fE {P : Program} {C : Ctx} {f : FuncId} {args : Array Value} {Ls : List Blks} {R : Value → List Blks → Prop} {fn : Func} {c : Code} (n : Nat) (hf : P.funcs[f]? = some fn) (hb : fn.body = some c)
    (h : CdE P C none n [] c (argEnv 0 args.toList) Ls (RetQ P C fn R)) (hn : fn.ntmps = n := by kernel_rfl) (hs : Nat.ble args.size n = true := by kernel_rfl) : FnT P C f args Ls R := fn_enter n hf hb hn hs h
end Go.Sep
