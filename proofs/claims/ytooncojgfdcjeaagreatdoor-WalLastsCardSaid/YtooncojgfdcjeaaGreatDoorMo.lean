/- Bytes and strings, builders, slices that are read, maps. No condition. -/
import Derived.Test.YtooncojgfdcjeaaGreatDoorRow
import Derived.Lib.Builder
import Derived.Test.YtooncojgfdcjeaaGreatDoorSp
namespace Go.Sep
open Go

section
variable {P : Program} {C : Ctx}

theorem freeze_block {w : World} {b n : Nat} {c : Array Value} {e : TypeId} {fz : Nat × Nat} (h : w.heap[b]? = some (.cells c e fz)) (h0 : n ≠ 0) :
    w.freeze ⟨b, 0, none⟩ n = { w with heap := w.heap.setIfInBounds b (.cells c e (if fz.1 == fz.2 then (0, n) else (min fz.1 0, max fz.2 n))) } := by
  have hlt := (Array.getElem?_eq_some_iff.1 h).1
  have hv := (Array.getElem?_eq_some_iff.1 h).2
  obtain ⟨lo, hi⟩ := fz
  simp only [World.freeze, h0, if_false]
  congr 1
  apply Array.ext_getElem?
  intro i
  rw [Array.getElem?_modify]
  by_cases hi : b = i
  · subst hi; simp [hlt, hv]
  · rw [if_neg hi, Array.getElem?_setIfInBounds_ne hi]

/-- unsafe.SliceData of a row. -/
theorem gv_data {L : Blks} {e sz n cap : Nat} {a : Option Addr} {xs : List Value} (ts : Array TypeId) (ty : TypeId) (hrow : Row e sz a n cap xs L) :
    GivesR P C (do pure (.value (← Builtin.unsafeSliceData_ ts ty #[.slice a n cap]))) [L] (fun v L' => v = .pointer a ∧ L' = [L]) := by
  intro w F hw
  rcases hrow with ⟨rfl, rfl, rfl, _, _⟩ | ⟨b, spare, fz, rfl, hc, _, _, _, _⟩
  · exact ⟨_, w, _, [L], by rw [Sem.run_bind, Lib.run_unsafeSliceData_nil]; rfl, .inl rfl, hw, rfl, rfl⟩
  · exact ⟨_, w, _, [L], by rw [Sem.run_bind, Lib.run_unsafeSliceData_row w ts ty ⟨b, 0, none⟩ n cap (by omega)]; rfl, .inl rfl, hw, rfl, rfl⟩

/-- unsafe.String of a row's bytes. -/
theorem gv_string {L : Blks} {e cap : Nat} {a : Option Addr} (l : List UInt8) {pt it : TypeId} (ty : TypeId) (hp : P.underlying pt = some (.pointer e)) (hc : P.cellsOf e = 1) (hrow : Row e 1 a l.length cap (u8s l) L) (h63 : l.length ≤ 9223372036854775807) :
    GivesR P C (do pure (.value (← Builtin.unsafeString_ #[pt, it] ty #[.pointer a, .int .i64 l.length]))) [L] (fun v L' => ∃ L1, v = str l ∧ L' = [L1] ∧ Row e 1 a l.length cap (u8s l) L1) := by
  intro w F hw
  by_cases h0 : l = []
  · subst h0
    exact ⟨_, w, _, [L], by rw [Sem.run_bind]; show Result.andThen ((Builtin.unsafeString_ #[pt, it] ty #[.pointer a, .int .i64 0]).run P w) _ = _; rw [Lib.run_unsafeString_none w pt it ty a]; rfl, .inl rfl, hw, L, rfl, rfl, hrow⟩
  · have h0' : l.length ≠ 0 := by simpa using h0
    rcases hrow with ⟨_, h1, _, _, _⟩ | ⟨b, spare, fz, rfl, h1, h2, h3, h4, rfl⟩
    · exact absurd h1 h0'
    · have hw' : Owns C w ([(b, .cells (u8s l ++ spare).toArray e fz)] ++ F) := by simpa using hw
      have hb : w.heap[b]? = some (.cells (u8s l ++ spare).toArray e fz) := hw'.get (by simp)
      have hsh : w.shape? b = some (e, (u8s l ++ spare).toArray.size) := by simp [World.shape?, hb]
      have hrun := Lib.run_unsafeString_row (P := P) w pt it ty e hp hc b _ hsh l h0 (by simp [u8s_len]) h63 (fun j x hx => by
        have hadd : (⟨b, 0, none⟩ : Addr).add j = ⟨b, j, none⟩ := by unfold Addr.add; split <;> simp_all
        have hlt : j < l.length := (List.getElem?_eq_some_iff.1 hx).1
        rw [hadd, cell_of_block hb _ rfl rfl]
        simp only [List.getElem?_toArray]
        rw [List.getElem?_append_left (by simp [u8s_len]; exact hlt)]
        simp [u8s, hx])
      rw [freeze_block hb h0'] at hrun
      refine ⟨_, _, _, [[(b, .cells (u8s l ++ spare).toArray e (if fz.1 == fz.2 then (0, l.length) else (min fz.1 0, max fz.2 l.length)))]], by rw [Sem.run_bind, hrun]; rfl, .inl rfl, ?_, _, rfl, rfl, .inr ⟨b, spare, _, rfl, h1, h2, h3, ?_, rfl⟩⟩
      · simpa using Owns.set (L1 := []) (L2 := F) hw'
      · simp only [Nat.mul_one] at *
        split <;> simp <;> omega

theorem fold_push (ns : List Int) : ∀ s : ByteArray, ns.foldl (fun r n => r.push (UInt8.ofNat n.toNat)) s = ⟨s.data ++ (ns.map fun n => UInt8.ofNat n.toNat).toArray⟩ := by
  induction ns with
  | nil => intro s; simp
  | cons n ns ih => intro s; rw [List.foldl_cons, ih]; apply ByteArray.ext; simp [ByteArray.push]

/-- string(b), b of a row made for it. -/
theorem gv_bytes {b e : Nat} {fz : Nat × Nat} (ns : List Int) {cs : Array Value} {n cap : Nat} (hcs : cs.toList = ns.map (.int .u8 ·)) (hn : n = ns.length) :
    GivesR P C (do pure (.value (← Conv.bytesToString (.slice (some ⟨b, 0, none⟩) n cap)))) [[(b, .cells cs e fz)]] (fun v L' => v = str (ns.map fun n => UInt8.ofNat n.toNat) ∧ L' = [[(b, .cells cs e fz)]]) := by
  intro w F hw
  subst hn
  have hcs' : cs = (ns.map (Value.int .u8 ·)).toArray := by rw [← hcs]
  subst hcs'
  have hw' : Owns C w ([(b, .cells (ns.map (Value.int .u8 ·)).toArray e fz)] ++ F) := by simpa using hw
  have hb : w.heap[b]? = some (.cells (ns.map (Value.int .u8 ·)).toArray e fz) := hw'.get (by simp)
  refine ⟨_, w, _, [[(b, .cells (ns.map (Value.int .u8 ·)).toArray e fz)]], ?_, .inl rfl, hw, rfl, rfl⟩
  have h1 := loadCellsFrom_run (P := P) hb 0 ns.length 0 #[] (by simp)
  rw [Sem.run_bind, run_bytesToString (P := P) w ⟨b, 0, none⟩ ns.length cap ns (by simp only [loadCells, h1]; simp only [Nat.zero_add, Array.empty_append]; congr 1; apply Array.ext'; simp only [Array.toList_extract, List.extract_eq_take_drop, List.drop_zero, Nat.sub_zero]; rw [List.take_of_length_le (by simp)]), fold_push]
  simp only [Result.andThen_ok, Sem.run_pure]
  simp [str]

/-! ### Slices that are read -/
/-- A slice of n elements whose cells are xs can be read wherever the blocks H are as they are. -/
def Sees (C : Ctx) (H : Blks) (a : Option Addr) (n sz : Nat) (xs : List Value) : Prop :=
  xs.length = n * sz ∧ (0 < n → ∃ b off, a = some ⟨b, off, none⟩ ∧ ∀ w, RowKit.Below C.B C.W0 w → (∀ p ∈ H, w.heap[p.1]? = some p.2) → ∃ c e fz, w.heap[b]? = some (.cells c e fz) ∧ ∀ j, j < n * sz → c[off + j]? = xs[j]?)

theorem Sees.mono {H H' : Blks} {a : Option Addr} {n sz : Nat} {xs : List Value} (h : Sees C H a n sz xs) (hs : ∀ p ∈ H, p ∈ H') : Sees C H' a n sz xs :=
  ⟨h.1, fun h0 => by
    obtain ⟨b, off, ha, hb⟩ := h.2 h0
    exact ⟨b, off, ha, fun w hlow hp => hb w hlow fun p hp' => hp p (hs p hp')⟩⟩

theorem Row.sees {e sz n cap : Nat} {a : Option Addr} {xs : List Value} {L : Blks} (h : Row e sz a n cap xs L) : Sees C L a n sz xs := by
  refine ⟨h.len, fun h0 => ?_⟩
  rcases h with ⟨_, rfl, _⟩ | ⟨b, spare, fz, rfl, h1, h2, h3, h4, rfl⟩
  · omega
  · refine ⟨b, 0, rfl, fun w _ hp => ⟨_, _, _, hp (b, _) (List.mem_singleton.2 rfl), fun j hj => ?_⟩⟩
    rw [Nat.zero_add, List.getElem?_toArray, List.getElem?_append_left (by omega)]

theorem Sees.addr {H : Blks} {a : Option Addr} {n sz : Nat} {xs : List Value} (h : Sees C H a n sz xs) (h0 : 0 < n) : ∃ b off, a = some ⟨b, off, none⟩ := by
  obtain ⟨b, off, ha, _⟩ := h.2 h0
  exact ⟨b, off, ha⟩

/-- Reading element i. -/
theorem Sees.load {Ls : List Blks} {H : Blks} {b off n sz : Nat} {xs : List Value} (h : Sees C H (some ⟨b, off, none⟩) n sz xs) (hs : ∀ p ∈ H, p ∈ Ls.flatten) (t : TypeId) (i : Nat) (hi : i < n) (hsz0 : 0 < sz)
    (hsz : P.cellsOf t = sz) (hinf : (P.info? t).isSome = true) (v : Value)
    (hv : (isAggB P t = some false ∧ sz = 1 ∧ xs[i]? = some v) ∨ (isAggB P t = some true ∧ v = .agg ((xs.drop (i * sz)).take sz).toArray)) : HasLoad P C Ls t ⟨b, off + i * sz, none⟩ v := by
  intro w hlow hp
  obtain ⟨b', off', ha, hb⟩ := h.2 (by omega)
  cases ha
  obtain ⟨c, e, fz, hc, hj⟩ := hb w hlow fun p hp' => hp p (hs p hp')
  have hmul : (i + 1) * sz ≤ n * sz := Nat.mul_le_mul_right _ hi
  rw [Nat.add_mul] at hmul
  rcases hv with ⟨h1, rfl, h2⟩ | ⟨h1, rfl⟩
  · refine (loadVar_run hc t _).1 h1 v ?_
    rw [hj _ (by omega)]
    simpa using h2
  · have hlen := h.1
    have hsize : off + i * sz + sz ≤ c.size := by
      have h9 := hj (i * sz + (sz - 1)) (by omega)
      have : (xs[i * sz + (sz - 1)]?).isSome := by simp; omega
      rw [← h9] at this
      simp at this
      omega
    have := (loadVar_run (P := P) hc t (off + i * sz)).2 h1 hinf (by rw [hsz]; exact hsize)
    rw [this, hsz]
    congr 2
    apply Array.ext'
    simp only [Array.toList_extract, List.extract_eq_take_drop]
    rw [show off + i * sz + sz - (off + i * sz) = sz by omega]
    apply List.ext_getElem?
    intro j
    by_cases hjs : j < sz
    · rw [List.getElem?_take_of_lt hjs, List.getElem?_take_of_lt hjs, List.getElem?_drop, List.getElem?_drop]
      have := hj (i * sz + j) (by omega)
      rw [← this]
      simp [Nat.add_assoc]
    · rw [List.getElem?_take_eq_none (by omega), List.getElem?_take_eq_none (by omega)]
end

/-! ### More rules for regions whose order is open -/
theorem pull_flat' {ks : List Nat} {L L1 L2 : List Blks} (h : pull ks L = (L1, L2)) : L.flatten.Perm (L2 ++ L1).flatten := by
  rw [List.flatten_append]
  exact (pull_flat h).trans List.perm_append_comm

section
variable {P : Program} {C : Ctx} {rd : Option Nat} {n : Nat} {D : List Deferred} {ops : Array Oper} {K : Act → List Blks → Prop} {E : Env} {Lr Lx Ls : List Blks} {fuel : Nat} {listed : Array Bool}

theorem cd_draw0 {id : Nat} {Q : Exit → Act → List Blks → Prop} (hm : P.follows .mixedOrders = true) (Lr Lx : List Blks) (m : Nat) (hsz : ops.size = m) (hl : Array.replicate m false = listed) (hL : Ls.flatten.Perm (Lr ++ Lx).flatten)
    (h : RgA P C rd n D ops Lr m listed E Lx (fun a L => Q .normal a L)) : CdE P C rd n D (.region id ops true) E Ls Q := by
  refine fun a ha w F hw => ?_
  have hw' : Owns C { w with drawn := w.drawn + 1 } ((Lr ++ Lx).flatten ++ F) := (hw.perm (hL.append_right F)).drew (w.drawn + 1)
  have h1 := h a ha _ F hw'
  subst hsz
  rw [← hl] at h1
  refine wpIn_mono (wpIn_region_any hm (wpAnyIn_of_held _ _ _ _ h1)) fun e a' w' ⟨he, L, ho, hK⟩ => ⟨L, ho, he ▸ hK⟩

theorem rga_put (d : Nat) (v v' : Value) (hl : look E d = some v) (hv : v = v') (h : RgA P C rd n D ops Lr fuel listed ((d, v') :: E) Lx K) : RgA P C rd n D ops Lr fuel listed E Lx K :=
  rga_env (fun a ha => ha.weak fun i u hu => by
    rw [look_cons] at hu
    by_cases e : d = i
    · subst e; simp at hu; rw [hl, hv, hu]
    · rwa [if_neg e] at hu) h

/-- All have come up; two ways meet. -/
theorem rga_meet (ks : List Nat) {E' : Env} {Ls' : List Blks} (hr : Region.ready .any ops listed = []) (hE : restrict E ks = E') (hL : Lr ++ Lx = Ls') (h : ∀ a, Agr n D E' a → K a Ls') : RgA P C rd n D ops Lr fuel listed E Lx K :=
  rga_nil hr fun a ha => hL ▸ h a (hE ▸ ha.restrict ks)

theorem rga_end {y : Code} {Q : Exit → Act → List Blks → Prop} (ks : List Nat) {E' : Env} {Ls' : List Blks} (hr : Region.ready .any ops listed = []) (hE : restrict E ks = E') (hL : Lr ++ Lx = Ls') (h : CdE P C rd n D y E' Ls' Q) :
    RgA P C rd n D ops Lr fuel listed E Lx (fun a L => Cd P C rd y a L Q) := rga_meet ks hr hE hL h

/-- What stands behind is shown once. -/
theorem cd_behind {c y : Code} {Q : Exit → Act → List Blks → Prop} (E' : Env) (Ls' : List Blks) (h1 : CdE P C rd n D y E' Ls' Q → CdE P C rd n D (.seq c y) E Ls Q) (h2 : CdE P C rd n D y E' Ls' Q) : CdE P C rd n D (.seq c y) E Ls Q := h1 h2

/-- Blocks in another order; those that nobody wants any more are left. -/
theorem rg_take {todo : List Nat} (ks : List Nat) (L1 L2 : List Blks) (hp : pull ks Ls = (L1, L2)) (h : RgE P C rd n D ops todo E L1 K) : RgE P C rd n D ops todo E Ls K :=
  fun a ha w F hw => by
    have h1 : Owns C w (L2.flatten ++ (L1.flatten ++ F)) := by
      rw [← List.append_assoc]
      exact hw.perm (((pull_flat hp).trans List.perm_append_comm).append_right F)
    exact h a ha w F h1.drop
theorem cd_take {c : Code} {Q : Exit → Act → List Blks → Prop} (ks : List Nat) (L1 L2 : List Blks) (hp : pull ks Ls = (L1, L2)) (h : CdE P C rd n D c E L1 Q) : CdE P C rd n D c E Ls Q :=
  fun a ha w F hw => by
    have h1 : Owns C w (L2.flatten ++ (L1.flatten ++ F)) := by
      rw [← List.append_assoc]
      exact hw.perm (((pull_flat hp).trans List.perm_append_comm).append_right F)
    exact h a ha w F h1.drop
/-- An empty row of blocks more. -/
theorem cd_more {c : Code} {Q : Exit → Act → List Blks → Prop} (h : CdE P C rd n D c E (Ls ++ [[]]) Q) : CdE P C rd n D c E Ls Q :=
  fun a ha w F hw => h a ha w F (by simpa using hw)
theorem rg_more {todo : List Nat} (h : RgE P C rd n D ops todo E (Ls ++ [[]]) K) : RgE P C rd n D ops todo E Ls K :=
  fun a ha w F hw => h a ha w F (by simpa using hw)
end

/-! ### Typed slices -/
structure SeesL {α : Type} (C : Ctx) (H : Blks) (a : Option Addr) (enc : α → List Value) (sz : Nat) (l : List α) : Prop where
  one : ∀ x, (enc x).length = sz
  pos : 0 < sz
  all : Sees C H a l.length sz (l.flatMap enc)

section
variable {α : Type} {P : Program} {C : Ctx} {H : Blks} {a : Option Addr} {enc : α → List Value} {sz : Nat} {l : List α} {Ls : List Blks}
theorem SeesL.mono {H' : Blks} (h : SeesL C H a enc sz l) (hs : ∀ p ∈ H, p ∈ H') : SeesL C H' a enc sz l := ⟨h.one, h.pos, h.all.mono hs⟩
theorem SeesL.addr (h : SeesL C H a enc sz l) (h0 : 0 < l.length) : ∃ b off, a = some ⟨b, off, none⟩ := h.all.addr h0
theorem flatMap_at (h1 : ∀ x, (enc x).length = sz) : ∀ (l : List α) (i : Nat) (x : α), l[i]? = some x → ((l.flatMap enc).drop (i * sz)).take sz = enc x
  | [], i, x, h => by simp at h
  | y :: l, 0, x, h => by
    simp at h; subst h
    simp [List.flatMap_cons, List.take_append, h1]
  | y :: l, i + 1, x, h => by
    simp only [List.getElem?_cons_succ] at h
    have := flatMap_at h1 l i x h
    rw [List.flatMap_cons, List.drop_append, h1, List.drop_of_length_le (by rw [h1, Nat.add_mul]; omega), List.nil_append]
    rw [show (i + 1) * sz - sz = i * sz by rw [Nat.add_mul]; omega]
    exact this

theorem SeesL.elem {b off : Nat} (h : SeesL C H (some ⟨b, off, none⟩) enc sz l) (hs : ∀ p ∈ H, p ∈ Ls.flatten) (t : TypeId) (i : Nat) {x : α} (hx : l[i]? = some x)
    (hsz : P.cellsOf t = sz) (hinf : (P.info? t).isSome = true) {v : Value} (hv : (isAggB P t = some false ∧ enc x = [v]) ∨ (isAggB P t = some true ∧ v = .agg (enc x).toArray)) : HasLoad P C Ls t ⟨b, off + i * sz, none⟩ v := by
  have hi : i < l.length := (List.getElem?_eq_some_iff.1 hx).1
  have hf := flatMap_at h.one l i x hx
  refine h.all.load hs t i hi h.pos hsz hinf v ?_
  rcases hv with ⟨h1, h2⟩ | ⟨h1, h2⟩
  · have e : sz = 1 := by have := h.one x; rw [h2] at this; simpa using this.symm
    subst e
    refine .inl ⟨h1, rfl, ?_⟩
    rw [h2, Nat.mul_one] at hf
    have : ((l.flatMap enc).drop i).take 1 = [v] := hf
    have h3 := congrArg (fun l => l[0]?) this
    simpa [List.getElem?_take] using h3
  · exact .inr ⟨h1, by rw [h2, hf]⟩

/-- Reading one cell of element i. -/
theorem SeesL.cell {b off : Nat} (h : SeesL C H (some ⟨b, off, none⟩) enc sz l) (hs : ∀ p ∈ H, p ∈ Ls.flatten) (t : TypeId) (i k : Nat) {x : α} (hx : l[i]? = some x)
    (hsc : isAggB P t = some false) {v : Value} (hv : (enc x)[k]? = some v) : HasLoad P C Ls t ⟨b, off + i * sz + k, none⟩ v := by
  intro w hlow hp
  have hi : i < l.length := (List.getElem?_eq_some_iff.1 hx).1
  have hf := flatMap_at h.one l i x hx
  have hk : k < sz := by rw [← h.one x]; exact (List.getElem?_eq_some_iff.1 hv).1
  obtain ⟨b', off', ha, hb⟩ := h.all.2 (by omega)
  cases ha
  obtain ⟨c, e, fz, hc, hj⟩ := hb w hlow fun p hp' => hp p (hs p hp')
  refine (loadVar_run hc t _).1 hsc v ?_
  have hmul : (i + 1) * sz ≤ l.length * sz := Nat.mul_le_mul_right _ hi
  rw [Nat.add_mul] at hmul
  rw [Nat.add_assoc, hj _ (by omega)]
  rw [← hf] at hv
  rw [List.getElem?_take_of_lt hk, List.getElem?_drop] at hv
  exact hv

theorem Row.seesL {e n cap : Nat} {xs : List Value} {L : Blks} (h : Row e sz a n cap xs L) (hn : n = l.length) (hxs : xs = l.flatMap enc) (h1 : ∀ x, (enc x).length = sz) (h0 : 0 < sz) : SeesL C L a enc sz l := by
  subst hn hxs
  exact ⟨h1, h0, h.sees⟩
theorem Row.push {e cap : Nat} {x : α} {L : Blks} {ys : List Value} (h : Row e sz a (l.length + 1) cap (l.flatMap enc ++ ys) L) (hy : ys = enc x) : Row e sz a (l ++ [x]).length cap ((l ++ [x]).flatMap enc) L := by
  subst hy
  simpa [List.flatMap_append] using h
end

/-! ### strings.Builder -/
/-- A builder at block b that holds l. -/
def BldL (b : Nat) (l : List UInt8) (L : Blks) : Prop :=
  ∃ p a cap Lr, (p = .pointer none ∨ p = .pointer (some ⟨b, 0, none⟩)) ∧ Row 5 1 a l.length cap (u8s l) Lr ∧ L = (b, .cells #[p, .slice a l.length cap] 191 (0, 0)) :: Lr
theorem BldL.fresh (b : Nat) : BldL b [] [(b, .cells #[.pointer none, .slice none 0 0] 191 (0, 0))] := ⟨_, none, 0, [], .inl rfl, Row.nil 5 1, rfl⟩

section
variable {P : Program} {C : Ctx}
def toUnsafeOk (P : Program) (src dst : Nat) : Bool :=
  match P.underlying src, P.underlying dst with
  | some (.pointer t), some .unsafePointer => match P.info? t with | some j => !(Nat.beq j.size 0) | none => false
  | _, _ => false
theorem gv_to_unsafe {src dst b e : Nat} {cs : Array Value} {fz : Nat × Nat} (hok : toUnsafeOk P src dst = true) (h0 : 0 < cs.size) :
    GivesR P C (do pure (.value (← convert src dst (.pointer (some ⟨b, 0, none⟩))))) [[(b, .cells cs e fz)]] (fun v L => v = .pointer (some ⟨b, 0, none⟩) ∧ L = [[(b, .cells cs e fz)]]) := by
  intro w F hw
  have hw' : Owns C w ([(b, .cells cs e fz)] ++ F) := by simpa using hw
  have hb : w.heap[b]? = some (.cells cs e fz) := hw'.get (by simp)
  unfold toUnsafeOk at hok
  split at hok
  · rename_i t h1 h2
    cases h3 : P.info? t with
    | none => simp [h3] at hok
    | some j =>
      simp only [h3] at hok
      have hj : j.size ≠ 0 := fun e => by rw [e] at hok; cases hok
      refine ⟨_, w, _, [[(b, .cells cs e fz)]], by rw [Sem.run_bind, Lib.run_to_unsafe w ⟨b, 0, none⟩ h1 h2 h3 hj (e := e) (cells := cs.size) (by simp [World.shape?, hb]) h0]; rfl, .inl rfl, hw, rfl, rfl⟩
  · cases hok
def fromUnsafeOk (P : Program) (src dst e n : Nat) : Bool :=
  match P.underlying src, P.underlying dst with
  | some .unsafePointer, some (.pointer u) => (P.info? u).isSome && liesAt P P.depth e (n / P.cellsOf e) 0 u 1
  | _, _ => false
theorem gv_from_unsafe {src dst b e n : Nat} {cs : Array Value} {fz : Nat × Nat} (hn : cs.size = n) (hok : fromUnsafeOk P src dst e n = true) :
    GivesR P C (do pure (.value (← convert src dst (.pointer (some ⟨b, 0, none⟩))))) [[(b, .cells cs e fz)]] (fun v L => v = .pointer (some ⟨b, 0, none⟩) ∧ L = [[(b, .cells cs e fz)]]) := by
  intro w F hw
  have hw' : Owns C w ([(b, .cells cs e fz)] ++ F) := by simpa using hw
  have hb : w.heap[b]? = some (.cells cs e fz) := hw'.get (by simp)
  subst hn
  unfold fromUnsafeOk at hok
  split at hok
  · rename_i u h1 h2
    rw [Bool.and_eq_true] at hok
    obtain ⟨j, hj⟩ := Option.isSome_iff_exists.1 hok.1
    refine ⟨_, w, _, [[(b, .cells cs e fz)]], by rw [Sem.run_bind, Lib.run_from_unsafe w ⟨b, 0, none⟩ h1 h2 hj (e := e) (cells := cs.size) (by simp [World.shape?, hb]) hok.2]; rfl, .inl rfl, hw, rfl, rfl⟩
  · cases hok
/-- Two pointers to one place. -/
def sameOk (P : Program) (t : Nat) : Bool := match P.underlying t with | some (.pointer te) => (P.info? te).isSome | _ => false
theorem gv_neq_same {t : TypeId} {a : Addr} (hok : sameOk P t = true) {Ls : List Blks} :
    GivesR P C (do pure (.value (← binOp .neq t (.pointer (some a)) (.pointer (some a))))) Ls (fun v L => v = .bool false ∧ L = Ls) := by
  unfold sameOk at hok
  split at hok
  · rename_i te hp
    obtain ⟨j, hte⟩ := Option.isSome_iff_exists.1 hok
    exact fun w F hw => ⟨_, w, _, Ls, by rw [Sem.run_bind, Lib.run_neq_ptr_same w a hp hte]; rfl, .inl rfl, hw, rfl, rfl⟩
  · cases hok
end

theorem natK_i64 {n : Int} (h : 0 ≤ n ∧ n ≤ 9223372036854775807) : natK .i64 n := h
theorem natK_u64 {n : Int} (h : 0 ≤ n ∧ n ≤ 18446744073709551615) : natK .u64 n := h
theorem natK_u32 {n : Int} (h : 0 ≤ n ∧ n ≤ 4294967295) : natK .u32 n := h
theorem natK_u8 {n : Int} (h : 0 ≤ n ∧ n ≤ 255) : natK .u8 n := h

/-! ### Blocks restated -/
theorem cd_same {P : Program} {C : Ctx} {rd : Option Nat} {n : Nat} {D : List Deferred} {E : Env} {Ls Ls' : List Blks} {c : Code} {Q : Exit → Act → List Blks → Prop} (hL : Ls = Ls') (h : CdE P C rd n D c E Ls' Q) : CdE P C rd n D c E Ls Q := hL ▸ h
theorem rg_same {P : Program} {C : Ctx} {rd : Option Nat} {n : Nat} {D : List Deferred} {ops : Array Oper} {todo : List Nat} {E : Env} {Ls Ls' : List Blks} {K : Act → List Blks → Prop} (hL : Ls = Ls') (h : RgE P C rd n D ops todo E Ls' K) : RgE P C rd n D ops todo E Ls K := hL ▸ h

/-- string(b), the bytes told. -/
theorem gv_bytes8 {P : Program} {C : Ctx} {b e : Nat} {fz : Nat × Nat} (l : List UInt8) {cs : Array Value} {n cap : Nat} (hcs : cs.toList = u8s l) (hn : n = l.length) :
    GivesR P C (do pure (.value (← Conv.bytesToString (.slice (some ⟨b, 0, none⟩) n cap)))) [[(b, .cells cs e fz)]] (fun v L' => v = str l ∧ L' = [[(b, .cells cs e fz)]]) := by
  have := gv_bytes (P := P) (C := C) (b := b) (e := e) (fz := fz) (l.map fun b => (b.toNat : Int)) (cs := cs) (n := n) (cap := cap) (by rw [hcs]; simp [u8s]) (by simpa using hn)
  simpa [List.map_map, Function.comp_def] using this

/-! ### The table of sums -/
def tbl (i : Nat) : Array Value := ((List.range 256).map fun j => if j < i then Value.int .u32 (crcB j : Int) else .int .u32 0).toArray
theorem tbl_size (i : Nat) : (tbl i).size = 256 := by simp [tbl]
theorem tbl_get {i j : Nat} (h : j < 256) (hi : j < i) : (tbl i)[j]? = some (.int .u32 (crcB j : Int)) := by
  simp [tbl, List.getElem?_range h, hi]
theorem tbl_zero : Array.replicate 256 (Value.int .u32 0) = tbl 0 := by
  apply Array.ext'
  apply List.ext_getElem?
  intro j
  simp only [tbl, Array.toList_replicate, List.getElem?_replicate, List.getElem?_map]
  by_cases h : j < 256
  · simp [h, List.getElem?_range h]
  · simp [h]
theorem tbl_set {i : Nat} (h : i < 256) : setCells (tbl i) (0 + i * 1) [.int .u32 (crcB i : Int)] = tbl (i + 1) := by
  simp only [setCells, Nat.zero_add, Nat.mul_one]
  apply Array.ext_getElem?
  intro j
  by_cases hj : i = j
  · subst hj
    rw [Array.getElem?_setIfInBounds_self_of_lt (by rw [tbl_size]; exact h), tbl_get h (by omega)]
  · rw [Array.getElem?_setIfInBounds_ne hj]
    simp only [tbl, List.getElem?_toArray, List.getElem?_map]
    by_cases h2 : j < 256
    · rw [List.getElem?_range h2]
      by_cases h3 : j < i
      · simp [h3, show j < i + 1 by omega]
      · simp [h3, show ¬ j < i + 1 by omega]
    · simp [h2]
theorem setCells_all (vs : List Value) : ∀ (pre old : List Value), old.length = vs.length → setCells (pre ++ old).toArray pre.length vs = (pre ++ vs).toArray := by
  intro pre old h
  have := setCells_append vs pre old [] h
  simpa using this
theorem setCells_whole (c : Array Value) (vs : Array Value) (h : c.size = vs.size) : setCells c 0 vs.toList = vs := by
  have := setCells_all vs.toList [] c.toList (by simpa using h)
  simpa only [List.nil_append, Array.toArray_toList, List.length_nil] using this
theorem tbl_store : setCells (Array.replicate 256 (Value.int .u32 0)) 0 (tbl 256).toList = tbl 256 := setCells_whole _ _ (by rw [tbl_size, Array.size_replicate])
/-- A row of bytes being laid, the lowest first. -/
def lits (k i n : Nat) : Array Value := (u8s (little i n) ++ List.replicate (k - i) (Value.int .u8 0)).toArray
theorem lits_size {k i n : Nat} (h : i ≤ k) : (lits k i n).size = k := by simp [lits, u8s, little_len]; omega
theorem little_succ : ∀ (i n : Nat), little (i + 1) n = little i n ++ [UInt8.ofNat (n / 2 ^ (8 * i) % 2 ^ 8)]
  | 0, n => by simp [little]
  | i + 1, n => by
    have e : n / 256 / 2 ^ (8 * i) = n / 2 ^ (8 * (i + 1)) := by
      rw [Nat.div_div_eq_div_mul, show 8 * (i + 1) = 8 + 8 * i by omega, Nat.pow_add]
    have h := little_succ i (n / 256)
    rw [e] at h
    rw [little, h, little, List.cons_append]
theorem lits_set {k i n : Nat} (h : i < k) : setCells (lits k i n) (0 + i * 1) [.int .u8 ((n / 2 ^ (8 * i) % 2 ^ 8 : Nat) : Int)] = lits k (i + 1) n := by
  have e : k - i = (k - (i + 1)) + 1 := by omega
  have := setCells_append [Value.int .u8 ((n / 2 ^ (8 * i) % 2 ^ 8 : Nat) : Int)] (u8s (little i n)) [.int .u8 0] (List.replicate (k - (i + 1)) (.int .u8 0)) rfl
  simp only [u8s_len, little_len] at this
  simp only [lits, Nat.zero_add, Nat.mul_one]
  rw [e, List.replicate_succ, little_succ, u8s_append]
  have hv : u8s [UInt8.ofNat (n / 2 ^ (8 * i) % 2 ^ 8)] = [Value.int .u8 ((n / 2 ^ (8 * i) % 2 ^ 8 : Nat) : Int)] := by
    simp only [u8s, List.map_cons, List.map_nil]
    rw [UInt8.toNat_ofNat_of_lt' (by have : UInt8.size = 256 := rfl; have := Nat.mod_lt (n / 2 ^ (8 * i)) (show 2 ^ 8 > 0 by decide); omega)]
  rw [hv]
  simpa using this

/-- The conversion of a row of bytes to a string. -/
def bytesOk (P : Program) (s d : Nat) : Bool :=
  match P.underlying s, P.underlying d with
  | some (.slice e), some .string => (match P.underlying e with | some (.int .u8) => true | _ => false)
  | _, _ => false
theorem gv_conv {P : Program} {C : Ctx} {s d : Nat} {a : Option Addr} {n cap : Nat} {L1 : List Blks} {R : Value → List Blks → Prop} (hok : bytesOk P s d = true)
    (h : GivesR P C (do pure (.value (← Conv.bytesToString (.slice a n cap)))) L1 R) : GivesR P C (do pure (.value (← convert s d (.slice a n cap)))) L1 R := by
  unfold bytesOk at hok
  split at hok
  · rename_i e h1 h2
    split at hok
    · rename_i h3
      intro w F hw
      obtain ⟨nx, w', v, L', q1, q2⟩ := h w F hw
      refine ⟨nx, w', v, L', ?_, q2⟩
      rw [← q1]
      simp only [convert, Sem.run_bind, run_underlying h1, run_underlying h2, run_underlying h3, Result.andThen_ok]
    · cases hok
  · cases hok

/-! ### Changes as cells -/
def chg (c : Chg) : List Value := [.int .i64 c.kind, str c.key, str c.val]

/-- Two results, the first in a variable of its own. -/
theorem ret_cell_tmp {P : Program} {C : Ctx} {fn : Func} {R : Value → List Blks → Prop} {n : Nat} {E : Env} {Ls : List Blks} (ad t d k b : Nat) (v : Value) (c : Array Value) (e : TypeId) (fz : Nat × Nat) (ks : List Nat) (L2 L3 : List Blks) (hr : fn.results.toList = [.cell ad t, .tmp d])
    (hl : look E ad = some (.pointer (some ⟨b, 0, none⟩))) (hd : look E d = some v) (hk : Ls[k]? = some [(b, .cells c e fz)]) (ha : isAggB P t = some true) (hi : (P.info? t).isSome = true) (hs : P.cellsOf t = c.size) (hp : pull ks Ls = (L2, L3)) (hR : R (.tuple #[.agg c, v]) L2) :
    ∀ a, Agr n [] E a → Lv P C fn a.tmps R a.defers Ls := by
  intro a ha'
  rw [ha'.defers]
  refine ⟨.tuple #[.agg c, v], L2, L3, (pull_flat hp).trans List.perm_append_comm, fun w F hw => ?_, hR⟩
  have hload := (loadVar_run (P := P) (hw.chunk hk) t 0).2 ha hi (by omega)
  simp only [results_eq, Array.mapM_eq_mapM_toList, hr, Sem.run_bind]
  rw [show ∀ (x : Sem (List Value)), (List.toArray <$> x) = (x >>= fun l => pure l.toArray) from fun x => by rw [map_eq_pure_bind]]
  simp only [Sem.run_bind, List.mapM_cons, List.mapM_nil, resOne, ha'.getD hl, ha'.getD hd, asAddr, Sem.run_pure, Result.andThen_ok, hload, hs]
  simp

theorem GivesR.mono {P : Program} {C : Ctx} {s : Sem Next} {L1 : List Blks} {R R' : Value → List Blks → Prop} (h : GivesR P C s L1 R) (hr : ∀ v L, R v L → R' v L) : GivesR P C s L1 R' := fun w F hw => by
  obtain ⟨nx, w', v, L', h1, h2, h3, h4⟩ := h w F hw
  exact ⟨nx, w', v, L', h1, h2, h3, hr _ _ h4⟩
/-- append(l, x), told in elements. -/
theorem gv_push {α : Type} {P : Program} {C : Ctx} {L : Blks} {e sz cap : Nat} {a : Option Addr} {enc : α → List Value} {l : List α} {t t2 bytes b2 e2 : Nat} {ys : Array Value} {fz2 : Nat × Nat} (x : α) (ty : TypeId) (hok : appOk P t t2 e sz bytes = true)
    (hrow : Row e sz a l.length cap (l.flatMap enc) L) (hx : ys.toList = enc x) (hys : ys.size = 1 * sz) (h1 : oneCells ys.toList = true) (h63 : l.length + 1 ≤ 9223372036854775807) (hb47 : (l.length + 1) * bytes ≤ 140737488355328) :
    GivesR P C (do pure (.value (← Builtin.append_ #[t, t2] ty #[.slice a l.length cap, .slice (some ⟨b2, 0, none⟩) 1 1]))) [L, [(b2, .cells ys e2 fz2)]]
      (fun v L' => ∃ a' cap' L1, v = .slice a' (l ++ [x]).length cap' ∧ L' = [L1] ∧ Row e sz a' (l ++ [x]).length cap' ((l ++ [x]).flatMap enc) L1) := by
  refine (gv_append1 (P := P) (C := C) (b2 := b2) (e2 := e2) (fz2 := fz2) ty hok hrow hys h1 h63 hb47).mono ?_
  rintro v L' ⟨a', cap', L1, rfl, rfl, h⟩
  exact ⟨a', cap', L1, by simp, rfl, h.push hx⟩

/-- All have come up; the blocks in another order, some left. -/
theorem rga_meet_take {P : Program} {C : Ctx} {rd : Option Nat} {n : Nat} {D : List Deferred} {ops : Array Oper} {K : Act → List Blks → Prop} {E E' : Env} {Lr Lx L1 L2 : List Blks} {fuel : Nat} {listed : Array Bool} (ks cs : List Nat) (hr : Region.ready .any ops listed = [])
    (hE : restrict E ks = E') (hp : pull cs (Lr ++ Lx) = (L1, L2)) (h : ∀ a, Agr n D E' a → K a L1) : RgA P C rd n D ops Lr fuel listed E Lx K := by
  intro a ha w F hw
  have h1 : Owns C w (L1.flatten ++ F) := by
    have h2 : Owns C w (L2.flatten ++ (L1.flatten ++ F)) := by
      rw [← List.append_assoc]
      exact hw.perm (((pull_flat hp).trans List.perm_append_comm).append_right F)
    exact h2.drop
  have hK := h a (hE ▸ ha.restrict ks)
  cases fuel with
  | zero => exact ⟨hr, rfl, _, h1, hK⟩
  | succ m => exact ⟨fun _ => ⟨rfl, _, h1, hK⟩, by rw [hr]; simp⟩

def rec109 (r : List UInt8 × Nat) : List Value := [str r.1, .int .i64 (r.2 : Int)]
structure RecsInv (log : List UInt8) (out : List (List UInt8 × Nat)) (w : Bool) (acc : List UInt8) (a : Nat) : Prop where
  le : a ≤ log.length
  len : acc.length ≤ a
  num : out.length ≤ a
  none : w = false → acc = []
  eq : out ++ restOf log a (!w) acc = recs log
section
variable {log acc t : List UInt8} {out : List (List UInt8 × Nat)} {w : Bool} {a k z : Nat}
theorem RecsInv.start : RecsInv log [] false [] 0 := ⟨by omega, by simp, by simp, fun _ => rfl, by simpa using restOf_start log⟩
theorem RecsInv.pad (h : RecsInv log out w acc a) (h7 : 512 - a % 512 < 7) (hl : a < log.length) (hz : (log.getD a 0).toNat = 0) : RecsInv log out w acc (a + 1) :=
  ⟨hl, by have := h.len; omega, by have := h.num; omega, h.none, by rw [← restOf_pad h7 hl hz]; exact h.eq⟩
theorem RecsInv.end_ (h : RecsInv log out w acc a) (hp : (pieceD log a).1 = 0) : out = recs log := by
  have := h.eq
  rwa [restOf_none hp, List.append_nil] at this
theorem RecsInv.wrong (h : RecsInv log out w acc a) (hp : pieceD log a = (k, t, z)) (hb : (decide (k = 1 ∨ k = 2)) ≠ !w) : out = recs log := by
  have := h.eq
  rwa [restOf_wrong hp hb, List.append_nil] at this
theorem RecsInv.more (h : RecsInv log out w acc a) (hp : pieceD log a = (k, t, z)) (hb : ¬ (k = 0 ∨ (decide (k = 1 ∨ k = 2)) ≠ !w)) (hk : k = 2 ∨ k = 3) : RecsInv log out true (acc ++ t) z := by
  obtain ⟨h1, h2⟩ := pieceD_to hp (by omega)
  exact ⟨h2, by have := h.len; simp; omega, by have := h.num; omega, (fun e => by cases e), by rw [← h.eq, restOf_more h.le hp hb hk]; rfl⟩
theorem RecsInv.done (h : RecsInv log out w acc a) (hp : pieceD log a = (k, t, z)) (hb : ¬ (k = 0 ∨ (decide (k = 1 ∨ k = 2)) ≠ !w)) (hk : ¬ (k = 2 ∨ k = 3)) : RecsInv log (out ++ [(acc ++ t, z)]) false [] z := by
  obtain ⟨h1, h2⟩ := pieceD_to hp (by omega)
  exact ⟨h2, by simp, by have := h.num; simp; omega, fun _ => rfl, by rw [← h.eq, restOf_rec h.le hp hb hk]; simp⟩
end
end Go.Sep
