/- Maps keyed by strings, over owned blocks. No condition. -/
import Derived.Test.YtooncojgfdcjeaaGreatDoorRf
namespace Go.Sep
open Go

/-! ### Rows of pairs -/
section
variable {β : Type}
def getA : List (List UInt8 × β) → List UInt8 → Option β
  | [], _ => none
  | p :: l, k => if p.1 = k then some p.2 else getA l k
def putA : List (List UInt8 × β) → List UInt8 → β → List (List UInt8 × β)
  | [], k, v => [(k, v)]
  | p :: l, k, v => if p.1 = k then (k, v) :: l else p :: putA l k v
def delA : List (List UInt8 × β) → List UInt8 → List (List UInt8 × β)
  | [], _ => []
  | p :: l, k => if p.1 = k then l else p :: delA l k
def idxA : List (List UInt8 × β) → List UInt8 → Option Nat
  | [], _ => none
  | p :: l, k => if p.1 = k then some 0 else (idxA l k).map (· + 1)

theorem idxA_some {l : List (List UInt8 × β)} {k : List UInt8} {i : Nat} (h : idxA l k = some i) : ∃ v, getA l k = some v ∧ l[i]? = some (k, v) ∧ (∀ v', putA l k v' = l.set i (k, v')) ∧ delA l k = l.eraseIdx i := by
  induction l generalizing i with
  | nil => simp [idxA] at h
  | cons p l ih =>
    simp only [idxA] at h
    split at h
    · rename_i hk
      cases h
      refine ⟨p.2, by simp [getA, hk], by simp [← hk], fun v' => by simp [putA, hk], by simp [delA, hk]⟩
    · rename_i hk
      cases hi : idxA l k with
      | none => simp [hi] at h
      | some j =>
        simp [hi] at h
        subst h
        obtain ⟨v, h1, h2, h3, h4⟩ := ih hi
        exact ⟨v, by simp [getA, hk, h1], by simpa using h2, fun v' => by simp [putA, hk, h3], by simp [delA, hk, h4]⟩
theorem idxA_none {l : List (List UInt8 × β)} {k : List UInt8} (h : idxA l k = none) : getA l k = none ∧ (∀ v, putA l k v = l ++ [(k, v)]) ∧ delA l k = l ∧ k ∉ l.map Prod.fst := by
  induction l with
  | nil => exact ⟨rfl, fun v => rfl, rfl, by simp⟩
  | cons p l ih =>
    simp only [idxA] at h
    split at h
    · cases h
    · rename_i hk
      have hi : idxA l k = none := by simpa using h
      obtain ⟨h1, h2, h3, h4⟩ := ih hi
      exact ⟨by simp [getA, hk, h1], fun v => by simp [putA, hk, h2], by simp [delA, hk, h3], by simp only [List.map_cons, List.mem_cons, not_or]; exact ⟨fun e => hk e.symm, h4⟩⟩
theorem putA_keys (l : List (List UInt8 × β)) (k : List UInt8) (v : β) : (putA l k v).map Prod.fst = if k ∈ l.map Prod.fst then l.map Prod.fst else l.map Prod.fst ++ [k] := by
  induction l with
  | nil => simp [putA]
  | cons p l ih =>
    simp only [putA]
    split
    · rename_i hk; simp [hk]
    · rename_i hk
      simp only [List.map_cons, ih, List.mem_cons]
      have : ¬ k = p.1 := fun e => hk e.symm
      by_cases h2 : k ∈ l.map Prod.fst <;> simp [h2, this]
theorem putA_nodup {l : List (List UInt8 × β)} (h : (l.map Prod.fst).Nodup) (k : List UInt8) (v : β) : ((putA l k v).map Prod.fst).Nodup := by
  rw [putA_keys]
  split
  · exact h
  · rename_i hk
    rw [List.nodup_append]
    exact ⟨h, by simp, fun a ha b hb => by simp at hb; subst hb; exact fun e => hk (e ▸ ha)⟩
theorem delA_nodup {l : List (List UInt8 × β)} (h : (l.map Prod.fst).Nodup) (k : List UInt8) : ((delA l k).map Prod.fst).Nodup := by
  cases hi : idxA l k with
  | none => rw [(idxA_none hi).2.2.1]; exact h
  | some i => obtain ⟨v, _, _, _, h4⟩ := idxA_some hi; rw [h4]; exact h.sublist ((List.eraseIdx_sublist ..).map _)
end

theorem map_erase {α γ : Type} (f : α → γ) : ∀ (l : List α) (i : Nat), (l.eraseIdx i).map f = (l.map f).eraseIdx i
  | [], _ => rfl
  | _ :: _, 0 => rfl
  | x :: l, i + 1 => by simp [map_erase f l i]

/-! ### A map in memory -/
def MapL {β : Type} (enc : β → Value) (m : Nat) (l : List (List UInt8 × β)) (L : Blks) : Prop :=
  ∃ es clock, L = [(m, .map es clock)] ∧ es.toList.map (fun e => (e.key, e.val)) = l.map (fun p => (str p.1, enc p.2)) ∧
    (es.toList.map MapEntry.born).Pairwise (· < ·) ∧ (∀ e ∈ es.toList, e.born < clock) ∧ (l.map Prod.fst).Nodup
theorem MapL.fresh {β : Type} (enc : β → Value) (m : Nat) : MapL enc m [] [(m, .map #[] 0)] := ⟨#[], 0, rfl, rfl, by simp, by simp, by simp⟩

theorem str_inj {a b : List UInt8} : str a = str b ↔ a = b := by simp [str]
theorem str_beq (a b : List UInt8) : ((⟨a.toArray⟩ : ByteArray) == ⟨b.toArray⟩) = decide (a = b) := by
  rw [Bool.eq_iff_iff]
  show (a.toArray == b.toArray) = true ↔ _
  simp

theorem findNow_str {β : Type} (enc : β → Value) (k : List UInt8) : ∀ (es : List MapEntry) (l : List (List UInt8 × β)) (i : Nat), es.map (fun e => (e.key, e.val)) = l.map (fun p => (str p.1, enc p.2)) →
    Instr.findNow .string (str k) es i = some ((idxA l k).bind fun j => (getA l k).map fun v => (i + j, enc v))
  | [], [], i, _ => rfl
  | [], _ :: _, i, h => by simp at h
  | _ :: _, [], i, h => by simp at h
  | e :: es, p :: l, i, h => by
    simp only [List.map_cons, List.cons.injEq, Prod.mk.injEq] at h
    obtain ⟨⟨h1, h2⟩, h3⟩ := h
    have ih := findNow_str enc k es l (i + 1) h3
    simp only [Instr.findNow, h1]
    have e1 : Instr.sameNow .string (str k) (str p.1) = some (decide (k = p.1)) := by simp [Instr.sameNow, str, str_beq]
    rw [e1]
    by_cases hk : p.1 = k
    · subst hk
      simp [idxA, getA, h2]
    · have : ¬ k = p.1 := fun e => hk e.symm
      simp only [this, decide_false, ih, idxA, getA, hk, if_false]
      cases hi : idxA l k with
      | none => simp
      | some j =>
        obtain ⟨v, hv, _⟩ := idxA_some hi
        simp [hv]
        omega

def mapOk (P : Program) (t : TypeId) : Bool := match P.underlying t with
  | some (.map kt _) => (match P.underlying kt with | some .string => true | _ => false)
  | _ => false
theorem mapOk_spec {P : Program} {t : TypeId} (h : mapOk P t = true) : ∃ kt et, P.underlying t = some (.map kt et) ∧ P.underlying kt = some .string := by
  unfold mapOk at h
  split at h
  · rename_i kt et h1
    split at h
    · rename_i h2; exact ⟨kt, et, h1, h2⟩
    · cases h
  · cases h

section
variable {β : Type} {P : Program} {C : Ctx} {enc : β → Value} {m : Nat} {l : List (List UInt8 × β)} {L : Blks} {t : TypeId}

theorem checkKey_str {kt : TypeId} (b : Bool) (k : List UInt8) (h : P.underlying kt = some .string) (w : World) : (Instr.checkKey b 10000 kt (str k)).run P w = .ok () w := by
  have : ∀ n, (Instr.checkKey b (n + 1) kt (str k)).run P w = .ok () w := fun n => by
    simp only [Instr.checkKey, Sem.run_bind, run_underlying h, Result.andThen_ok, str]
    rfl
  exact this 9999
theorem findKey_str {kt : TypeId} {es : Array MapEntry} (k : List UInt8) (h : P.underlying kt = some .string) (he : es.toList.map (fun e => (e.key, e.val)) = l.map (fun p => (str p.1, enc p.2))) (w : World) :
    (Instr.findKey kt (str k) es.toList).run P w = .ok ((idxA l k).bind fun j => (getA l k).map fun v => (j, enc v)) w := by
  simp only [Instr.findKey, Sem.run_bind, run_underlying h, Result.andThen_ok, findNow_str enc k _ _ 0 he, Nat.zero_add]
  rfl

def zeroOf (P : Program) (t : TypeId) : Option Value := match P.underlying t with
  | some (.map _ et) => (match P.info? et with | some i => i.zero | none => none)
  | _ => none

theorem getObj_map {w : World} {es : Array MapEntry} {clock : Nat} (h : w.heap[m]? = some (.map es clock)) : (getObj m).run P w = .ok (.map es clock) w := by simp [getObj, Sem.run, h]

theorem gv_lookup (k : List UInt8) (d : β) (hok : mapOk P t = true) (hz : zeroOf P t = some (enc d)) (hm : MapL enc m l L) :
    GivesR P C (do pure (.value (← Instr.lookup t (.map (some m)) (str k) false))) [L] (fun v L' => v = enc ((getA l k).getD d) ∧ L' = [L]) := by
  obtain ⟨kt, et, h1, h2⟩ := mapOk_spec hok
  obtain ⟨es, clock, rfl, he, _⟩ := hm
  intro w F hw
  have hb : w.heap[m]? = some (.map es clock) := hw.get (by simp)
  have hzv : (zeroValue et).run P w = .ok (enc d) w := by
    simp only [zeroOf, h1] at hz
    split at hz
    · rename_i i hi
      simp [zeroValue, typeInfo, Sem.run_bind, program, Sem.run, hi, hz]
    · cases hz
  refine ⟨.value (enc ((getA l k).getD d)), w, _, [[(m, .map es clock)]], ?_, .inl rfl, hw, rfl, rfl⟩
  simp only [Instr.lookup, Sem.run_bind, run_underlying h1, Result.andThen_ok, getObj_map hb, Sem.run_pure, checkKey_str _ k h2, findKey_str k h2 he]
  cases hi : idxA l k with
  | none => simp [(idxA_none hi).1, hzv]
  | some i => obtain ⟨v, hv, _⟩ := idxA_some hi; simp [hv]

theorem gv_lookup_ok (k : List UInt8) (d : β) (hok : mapOk P t = true) (hz : zeroOf P t = some (enc d)) (hm : MapL enc m l L) :
    GivesR P C (do pure (.value (← Instr.lookup t (.map (some m)) (str k) true))) [L] (fun v L' => v = .tuple #[enc ((getA l k).getD d), .bool (getA l k).isSome] ∧ L' = [L]) := by
  obtain ⟨kt, et, h1, h2⟩ := mapOk_spec hok
  obtain ⟨es, clock, rfl, he, _⟩ := hm
  intro w F hw
  have hb : w.heap[m]? = some (.map es clock) := hw.get (by simp)
  have hzv : (zeroValue et).run P w = .ok (enc d) w := by
    simp only [zeroOf, h1] at hz
    split at hz
    · rename_i i hi
      simp [zeroValue, typeInfo, Sem.run_bind, program, Sem.run, hi, hz]
    · cases hz
  refine ⟨.value (.tuple #[enc ((getA l k).getD d), .bool (getA l k).isSome]), w, _, [[(m, .map es clock)]], ?_, .inl rfl, hw, rfl, rfl⟩
  simp only [Instr.lookup, Sem.run_bind, run_underlying h1, Result.andThen_ok, getObj_map hb, Sem.run_pure, checkKey_str _ k h2, findKey_str k h2 he]
  cases hi : idxA l k with
  | none => simp [(idxA_none hi).1, hzv]
  | some i => obtain ⟨v, hv, _⟩ := idxA_some hi; simp [hv]

theorem gv_maplen {ts : Array TypeId} (ty : TypeId) (hts : ts[0]? = some t) (hok : mapOk P t = true) (hm : MapL enc m l L) :
    GivesR P C (do pure (.value (← Builtin.len_ ts ty #[.map (some m)]))) [L] (fun v L' => v = .int .i64 (l.length : Int) ∧ L' = [L]) := by
  obtain ⟨kt, et, h1, h2⟩ := mapOk_spec hok
  obtain ⟨es, clock, rfl, he, _⟩ := hm
  intro w F hw
  have hb : w.heap[m]? = some (.map es clock) := hw.get (by simp)
  have hlen : es.size = l.length := by have := congrArg List.length he; simpa using this
  refine ⟨.value (.int .i64 (l.length : Int)), w, _, [[(m, .map es clock)]], ?_, .inl rfl, hw, rfl, rfl⟩
  simp only [Builtin.len_, hts, List.getElem?_toArray, List.getElem?_cons_zero, Sem.run_bind, run_underlying h1, Result.andThen_ok, getObj_map hb, Sem.run_pure, hlen, goInt]

theorem gv_put (k : List UInt8) (x : β) (hok : mapOk P t = true) (hm : MapL enc m l L) :
    GivesR P C (do Instr.mapUpdate t (.map (some m)) (str k) (enc x); pure .skip) [L] (fun v L' => v = undef ∧ ∃ L1, L' = [L1] ∧ MapL enc m (putA l k x) L1) := by
  obtain ⟨kt, et, h1, h2⟩ := mapOk_spec hok
  obtain ⟨es, clock, rfl, he, hp, hc, hn⟩ := hm
  intro w F hw
  have hb : w.heap[m]? = some (.map es clock) := hw.get (by simp)
  have hw0 : Owns C w ((m, .map es clock) :: F) := by simpa using hw
  have hset : ∀ o : Obj, (setObj m o).run P w = .ok () (w.putObj m o) := fun o => by simp [setObj, Sem.run, hb, World.putObj]
  cases hi : idxA l k with
  | none =>
    obtain ⟨g1, g2, g3, g4⟩ := idxA_none hi
    have hb2 : ({ w with heap := w.heap } : World) = w := rfl
    refine ⟨.skip, w.putObj m (.map (es.push { key := str k, val := enc x, born := clock }) (clock + 1)), _, [[(m, .map (es.push { key := str k, val := enc x, born := clock }) (clock + 1))]], ?_, .inr ⟨rfl, rfl⟩, ?_, rfl, _, rfl, _, _, rfl, ?_, ?_, ?_, ?_⟩
    · simp only [Instr.mapUpdate, Sem.run_bind, run_underlying h1, Result.andThen_ok, getObj_map hb, checkKey_str _ k h2, findKey_str k h2 he, hi, Option.bind_none, hset, Sem.run_pure]
    · simpa using Owns.put hw0
    · simp [g2, he]
    · simp only [Array.toList_push, List.map_append, List.map_cons, List.map_nil, List.pairwise_append, List.pairwise_cons]
      refine ⟨hp, ⟨by simp, List.Pairwise.nil⟩, fun a ha b hb => ?_⟩
      obtain ⟨e, he', rfl⟩ := List.mem_map.1 ha
      simp at hb; subst hb
      exact hc e he'
    · intro e hee
      have hee' : e ∈ es ∨ e = { key := str k, val := enc x, born := clock } := by simpa using hee
      rcases hee' with h | h
      · have := hc e (by simpa using h); omega
      · subst h; simp
    · exact putA_nodup hn k x
  | some i =>
    obtain ⟨v, g1, g2, g3, g4⟩ := idxA_some hi
    have hlen : es.size = l.length := by have := congrArg List.length he; simpa using this
    have hil : i < l.length := (List.getElem?_eq_some_iff.1 g2).1
    have hkey : (((es[i]?).map (·.key)).getD (str k)) = str k := by
      have := congrArg (fun z => z[i]?) he
      simp only [List.getElem?_map, g2, Option.map_some, Array.getElem?_toList] at this
      obtain ⟨e, h3, h4⟩ := Option.map_eq_some_iff.1 this
      simp only [Prod.mk.injEq] at h4
      simp [h3, h4.1]
    have hstay : ∀ w : World, (Instr.keyThatStays (str k) (str k)).run P w = .ok (str k) w := fun w => by
      have hsb : ∀ n, Instr.sameBits n (str k) (str k) = true := fun n => by cases n <;> simp [Instr.sameBits, str, str_beq]
      unfold Instr.keyThatStays
      rw [if_pos (hsb _)]
      rfl
    refine ⟨.skip, w.putObj m (.map (es.modify i fun e => { e with key := str k, val := enc x }) clock), _, [[(m, .map (es.modify i fun e => { e with key := str k, val := enc x }) clock)]], ?_, .inr ⟨rfl, rfl⟩, ?_, rfl, _, rfl, _, _, rfl, ?_, ?_, ?_, ?_⟩
    · simp only [Instr.mapUpdate, Sem.run_bind, run_underlying h1, Result.andThen_ok, getObj_map hb, checkKey_str _ k h2, findKey_str k h2 he, hi, Option.bind_some, g1, Option.map_some, hkey, hstay, hset, Sem.run_pure]
    · simpa using Owns.put hw0
    · rw [g3]
      apply List.ext_getElem?
      intro j
      have := congrArg (fun z => z[j]?) he
      simp only [List.getElem?_map, Array.getElem?_toList] at this ⊢
      rw [Array.getElem?_modify, List.getElem?_set]
      by_cases hj : i = j
      · subst hj
        simp [hil, show i < es.size by omega]
      · simp [hj, this]
    · have : (es.modify i fun e => { e with key := str k, val := enc x }).toList.map MapEntry.born = es.toList.map MapEntry.born := by
        apply List.ext_getElem?
        intro j
        simp only [List.getElem?_map, Array.getElem?_toList, Array.getElem?_modify]
        by_cases hj : i = j
        · subst hj; cases es[i]? <;> simp
        · simp [hj]
      rw [this]; exact hp
    · intro e hee
      obtain ⟨j, hj⟩ := List.getElem?_of_mem hee
      rw [Array.getElem?_toList, Array.getElem?_modify] at hj
      split at hj
      · obtain ⟨e0, h5, rfl⟩ := Option.map_eq_some_iff.1 hj
        exact hc e0 (by simpa using Array.mem_of_getElem? h5)
      · exact hc e (by simpa using Array.mem_of_getElem? hj)
    · exact putA_nodup hn k x

theorem gv_delete {ts : Array TypeId} (ty : TypeId) (k : List UInt8) (hts : ts[0]? = some t) (hok : mapOk P t = true) (hm : MapL enc m l L) :
    GivesR P C (do pure (.value (← Builtin.delete_ ts ty #[.map (some m), str k]))) [L] (fun v L' => v = .tuple #[] ∧ ∃ L1, L' = [L1] ∧ MapL enc m (delA l k) L1) := by
  obtain ⟨kt, et, h1, h2⟩ := mapOk_spec hok
  obtain ⟨es, clock, rfl, he, hp, hc, hn⟩ := hm
  intro w F hw
  have hb : w.heap[m]? = some (.map es clock) := hw.get (by simp)
  have hw0 : Owns C w ((m, .map es clock) :: F) := by simpa using hw
  have hset : ∀ o : Obj, (setObj m o).run P w = .ok () (w.putObj m o) := fun o => by simp [setObj, Sem.run, hb, World.putObj]
  cases hi : idxA l k with
  | none =>
    obtain ⟨g1, g2, g3, g4⟩ := idxA_none hi
    refine ⟨.value (.tuple #[]), w.putObj m (.map es clock), _, [[(m, .map es clock)]], ?_, .inl rfl, ?_, rfl, _, rfl, es, clock, rfl, by rw [g3]; exact he, hp, hc, by rw [g3]; exact hn⟩
    · simp only [Builtin.delete_, hts, List.getElem?_toArray, List.getElem?_cons_zero, List.getElem?_cons_succ, Sem.run_bind, run_underlying h1, Result.andThen_ok, getObj_map hb, checkKey_str _ k h2, findKey_str k h2 he, hi, Option.bind_none, hset, Sem.run_pure]
    · simpa using Owns.put hw0
  | some i =>
    obtain ⟨v, g1, g2, g3, g4⟩ := idxA_some hi
    have hlen : es.size = l.length := by have := congrArg List.length he; simpa using this
    have hil : i < l.length := (List.getElem?_eq_some_iff.1 g2).1
    have herase : (es.eraseIdxIfInBounds i).toList = es.toList.eraseIdx i := by
      rw [Array.eraseIdxIfInBounds, dif_pos (by omega)]
      simp
    refine ⟨.value (.tuple #[]), w.putObj m (.map (es.eraseIdxIfInBounds i) clock), _, [[(m, .map (es.eraseIdxIfInBounds i) clock)]], ?_, .inl rfl, ?_, rfl, _, rfl, _, _, rfl, ?_, ?_, ?_, delA_nodup hn k⟩
    · simp only [Builtin.delete_, hts, List.getElem?_toArray, List.getElem?_cons_zero, List.getElem?_cons_succ, Sem.run_bind, run_underlying h1, Result.andThen_ok, getObj_map hb, checkKey_str _ k h2, findKey_str k h2 he, hi, Option.bind_some, g1, Option.map_some, hset, Sem.run_pure]
    · simpa using Owns.put hw0
    · rw [herase, g4, map_erase, map_erase, he]
    · rw [herase, map_erase]; exact hp.sublist (List.eraseIdx_sublist ..)
    · intro e hee; rw [herase] at hee; exact hc e ((List.eraseIdx_sublist ..).subset hee)

/-! ### Ranging over a map -/
def MapIt (enc : β → Value) (it m : Nat) (l : List (List UInt8 × β)) (pre : List (List UInt8)) (Lm L : Blks) : Prop :=
  ∃ (es : Array MapEntry) (clock : Nat) (told : List MapEntry), Lm = [(m, .map es clock)] ∧ L = [(it, .mapIter (some m) clock (told.map MapEntry.born).toArray clock), (m, .map es clock)] ∧ MapL enc m l [(m, .map es clock)] ∧
    (∀ e ∈ told, e ∈ es.toList) ∧ told.map MapEntry.key = pre.map str

theorem gv_range (hok : mapOk P t = true) (hm : MapL enc m l L) :
    GivesR P C (do pure (.value (← Instr.range t (.map (some m))))) [L] (fun v L' => ∃ it L1, v = .pointer (some ⟨it, 0, none⟩) ∧ L' = [L1] ∧ MapIt enc it m l [] L L1) := by
  obtain ⟨kt, et, h1, h2⟩ := mapOk_spec hok
  have hm' := hm
  obtain ⟨es, clock, rfl, he, _⟩ := hm
  intro w F hw
  have hb : w.heap[m]? = some (.map es clock) := hw.get (by simp)
  have hw0 : Owns C w ((m, .map es clock) :: F) := by simpa using hw
  refine ⟨.value (.pointer (some ⟨w.heap.size, 0, none⟩)), { w with heap := w.heap.push (.mapIter (some m) clock #[] clock) }, _, [[(w.heap.size, .mapIter (some m) clock #[] clock), (m, .map es clock)]], ?_, .inl rfl, ?_, _, _, rfl, rfl, es, clock, [], rfl, rfl, hm', by simp, rfl⟩
  · simp only [Instr.range, Sem.run_bind, run_underlying h1, Result.andThen_ok, getObj_map hb, Sem.run_pure, newObj, Sem.run]
  · simpa using hw0.alloc (.mapIter (some m) clock #[] clock)

theorem choose_next {n : Nat} (hn : 0 < n) (w : World) : ∃ k d, k < n ∧ (choose (.mapNext n)).run P w = .ok k { w with drawn := d } := by
  by_cases hf : (Question.mapNext n).forced = true
  · refine ⟨0, w.drawn, hn, ?_⟩
    have h1 : n = 1 := by simp [Question.forced] at hf; omega
    subst h1
    simp [choose, Sem.run, hf]
  · refine ⟨(Question.mapNext n).cut (w.tape w.drawn (.mapNext n)), w.drawn + 1, Nat.mod_lt _ hn, ?_⟩
    simp [choose, Sem.run, hf]

theorem born_inj {es : List MapEntry} (h : (es.map MapEntry.born).Pairwise (· < ·)) {a b : MapEntry} (ha : a ∈ es) (hb : b ∈ es) (he : a.born = b.born) : a = b := by
  induction es with
  | nil => simp at ha
  | cons e es ih =>
    simp only [List.map_cons, List.pairwise_cons, List.mem_map, forall_exists_index, and_imp, forall_apply_eq_imp_iff₂] at h
    rcases List.mem_cons.1 ha with rfl | ha1 <;> rcases List.mem_cons.1 hb with rfl | hb1
    · rfl
    · have := h.1 _ hb1; omega
    · have := h.1 _ ha1; omega
    · exact ih h.2 ha1 hb1

theorem entry_pair {es : Array MapEntry} (he : es.toList.map (fun e => (e.key, e.val)) = l.map (fun p => (str p.1, enc p.2))) {e : MapEntry} (h : e ∈ es.toList) : ∃ p ∈ l, e.key = str p.1 ∧ e.val = enc p.2 := by
  have : (e.key, e.val) ∈ l.map (fun p => (str p.1, enc p.2)) := by rw [← he]; exact List.mem_map.2 ⟨e, h, rfl⟩
  obtain ⟨p, hp, h2⟩ := List.mem_map.1 this
  simp only [Prod.mk.injEq] at h2
  exact ⟨p, hp, h2.1.symm, h2.2.symm⟩
theorem pair_entry {es : Array MapEntry} (he : es.toList.map (fun e => (e.key, e.val)) = l.map (fun p => (str p.1, enc p.2))) {p : List UInt8 × β} (h : p ∈ l) : ∃ e ∈ es.toList, e.key = str p.1 ∧ e.val = enc p.2 := by
  have : (str p.1, enc p.2) ∈ es.toList.map (fun e => (e.key, e.val)) := by rw [he]; exact List.mem_map.2 ⟨p, h, rfl⟩
  obtain ⟨e, hp, h2⟩ := List.mem_map.1 this
  simp only [Prod.mk.injEq] at h2
  exact ⟨e, hp, h2.1, h2.2⟩
theorem key_inj {es : Array MapEntry} (he : es.toList.map (fun e => (e.key, e.val)) = l.map (fun p => (str p.1, enc p.2))) (hn : (l.map Prod.fst).Nodup) {a b : MapEntry} (ha : a ∈ es.toList) (hb : b ∈ es.toList) (hk : a.key = b.key) : a = b := by
  have h1 : (es.toList.map MapEntry.key) = (l.map Prod.fst).map str := by
    have := congrArg (List.map Prod.fst) he
    rw [List.map_map, List.map_map] at this
    rw [List.map_map]
    exact this
  have h2 : (es.toList.map MapEntry.key).Nodup := by rw [h1]; exact hn.map _ fun a b hab he2 => hab (str_inj.1 he2)
  have : ∀ (es : List MapEntry), (es.map MapEntry.key).Nodup → a ∈ es → b ∈ es → a = b := by
    intro es
    induction es with
    | nil => simp
    | cons e es ih =>
      intro h3 ha hb
      simp only [List.map_cons, List.nodup_cons, List.mem_map, not_exists, not_and] at h3
      rcases List.mem_cons.1 ha with rfl | ha1 <;> rcases List.mem_cons.1 hb with rfl | hb1
      · rfl
      · exact absurd hk.symm (h3.1 _ hb1)
      · exact absurd hk (h3.1 _ ha1)
      · exact ih h3.2 ha1 hb1
  exact this _ h2 ha hb

theorem gv_next {it : Nat} {pre : List (List UInt8)} {Lm : Blks} (ty : TypeId) (hm : MapIt enc it m l pre Lm L) :
    GivesR P C (do pure (.value (← Instr.next (.pointer (some ⟨it, 0, none⟩)) false ty))) [L] (fun v L' => (v = .tuple #[.bool false] ∧ L' = [L] ∧ ∀ p ∈ l, p.1 ∈ pre) ∨
      (∃ k x L1, (k, x) ∈ l ∧ k ∉ pre ∧ v = .tuple #[.bool true, str k, enc x] ∧ L' = [L1] ∧ MapIt enc it m l (pre ++ [k]) Lm L1)) := by
  obtain ⟨es, clock, told, rfl, rfl, hm', hsub, hk⟩ := hm
  have hm2 := hm'
  obtain ⟨es', clock', hL, he, hp, hc, hn⟩ := hm2
  simp only [List.cons.injEq, Prod.mk.injEq, true_and, and_true, Obj.map.injEq] at hL
  obtain ⟨rfl, rfl⟩ := hL
  intro w F hw
  have hb : w.heap[m]? = some (.map es clock) := hw.get (by simp)
  have hi : w.heap[it]? = some (.mapIter (some m) clock (told.map MapEntry.born).toArray clock) := hw.get (by simp)
  have hw0 : Owns C w ((it, .mapIter (some m) clock (told.map MapEntry.born).toArray clock) :: (m, .map es clock) :: F) := by simpa using hw
  have hgi : (getObj it).run P w = .ok (.mapIter (some m) clock (told.map MapEntry.born).toArray clock) w := by simp [getObj, Sem.run, hi]
  have hno : (!(told.map MapEntry.born).toArray.isEmpty && !es.isEmpty && es.all (fun e => decide (e.born ≥ clock))) = false := by
    rw [Bool.and_eq_false_iff]
    by_cases h0 : es.isEmpty = true
    · left; simp [h0]
    · right
      rw [Bool.eq_false_iff]
      intro hall
      rw [Array.all_eq_true_iff_forall_mem] at hall
      have hpos : 0 < es.size := by simp at h0; exact Nat.pos_of_ne_zero fun h => h0 (by simpa using h)
      have hmem : es[0] ∈ es := Array.getElem_mem hpos
      have := hall _ hmem
      have := hc es[0] (by simp)
      simp at *
      omega
  have hfo : ∀ z : Array MapEntry, (∀ e ∈ z, e ∈ es) → z.filter (fun e => decide (e.born < clock)) = z ∧ z.filter (fun e => decide (e.born ≥ clock)) = #[] := by
    intro z hz
    constructor
    · rw [Array.filter_eq_self]; intro e h; simpa using hc e (by simpa using hz e h)
    · rw [Array.filter_eq_empty_iff]; intro e h; have := hc e (by simpa using hz e h); simp; omega
  generalize hleft : es.filter (fun e => !(told.map MapEntry.born).toArray.contains e.born) = left
  have hl1 : ∀ e ∈ left, e ∈ es ∧ e.born ∉ told.map MapEntry.born := by
    intro e h
    rw [← hleft, Array.mem_filter] at h
    refine ⟨h.1, ?_⟩
    have := h.2
    simpa using this
  obtain ⟨f1, f2⟩ := hfo left fun e h => (hl1 e h).1
  simp only [Instr.next, Sem.run_bind, hgi, Result.andThen_ok, getObj_map hb, hno, Bool.false_eq_true, if_false, hleft, f1, f2, Array.append_empty]
  by_cases h0 : left.isEmpty = true
  · have hle : left = #[] := by simpa using h0
    subst hle
    obtain ⟨k, d, hk1, hk2⟩ := choose_next (P := P) (n := 1) (by omega) w
    refine ⟨.value (.tuple #[.bool false]), { w with drawn := d }, _, [[(it, .mapIter (some m) clock (told.map MapEntry.born).toArray clock), (m, .map es clock)]], ?_, .inl rfl, hw.drew d, .inl ⟨rfl, rfl, ?_⟩⟩
    · obtain rfl : k = 0 := by omega
      simp only [show (#[] : Array MapEntry).isEmpty = true from rfl, if_true, (by simp : (#[none] ++ (#[] : Array MapEntry).map some : Array (Option MapEntry)) = #[none]), show (#[none] : Array (Option MapEntry)).size = 1 from rfl, hk2, Result.andThen_ok]
      rfl
    · intro p hpl
      obtain ⟨e, he1, he2, he3⟩ := pair_entry he hpl
      have : e.born ∈ told.map MapEntry.born := by
        refine Decidable.of_not_not fun hnm => ?_
        have hmem : e ∈ es.filter (fun e => !(told.map MapEntry.born).toArray.contains e.born) := by
          rw [Array.mem_filter]
          exact ⟨by simpa using he1, by simpa using hnm⟩
        rw [hleft] at hmem
        simp at hmem
      obtain ⟨e', h3, h4⟩ := List.mem_map.1 this
      obtain rfl := born_inj hp (hsub _ h3) he1 h4
      have : e'.key ∈ told.map MapEntry.key := List.mem_map.2 ⟨e', h3, rfl⟩
      rw [hk, he2] at this
      obtain ⟨q, hq, hq2⟩ := List.mem_map.1 this
      rw [← str_inj.1 hq2]; exact hq
  · have hpos : 0 < left.size := by
      refine Nat.pos_of_ne_zero fun h => h0 (by simpa using h)
    have hemp : left.isEmpty = false := by simpa using h0
    simp only [hemp, Bool.false_eq_true, if_false, Array.empty_append, Array.size_map]
    obtain ⟨k, d, hk1, hk2⟩ := choose_next (P := P) (n := left.size) hpos w
    have hmem : left[k] ∈ left := Array.getElem_mem hk1
    obtain ⟨h3, h4⟩ := hl1 _ hmem
    obtain ⟨p, hp1, hp2, hp3⟩ := entry_pair he (show left[k] ∈ es.toList by simpa using h3)
    have hgk : (left.map some)[k]? = some (some left[k]) := by simp [hk1]
    refine ⟨.value (.tuple #[.bool true, str p.1, enc p.2]), ({ w with drawn := d } : World).putObj it (.mapIter (some m) clock ((told ++ [left[k]]).map MapEntry.born).toArray clock), _,
      [[(it, .mapIter (some m) clock ((told ++ [left[k]]).map MapEntry.born).toArray clock), (m, .map es clock)]], ?_, .inl rfl, ?_, .inr ⟨p.1, p.2, _, hp1, ?_, rfl, rfl, es, clock, told ++ [left[k]], rfl, rfl, hm', ?_, ?_⟩⟩
    · have hset : ∀ o : Obj, (setObj it o).run P { w with drawn := d } = .ok () (({ w with drawn := d } : World).putObj it o) := fun o => by
        have : ({ w with drawn := d } : World).heap[it]? = some (.mapIter (some m) clock (told.map MapEntry.born).toArray clock) := hi
        simp [setObj, Sem.run, this, World.putObj]
      simp only [hk2, Result.andThen_ok, hgk, Sem.run_bind, hset, Sem.run_pure, hp2, hp3]
      simp
    · simpa using Owns.put (o' := .mapIter (some m) clock ((told ++ [left[k]]).map MapEntry.born).toArray clock) (hw0.drew d)
    · intro hin
      have : str p.1 ∈ told.map MapEntry.key := by rw [hk]; exact List.mem_map.2 ⟨_, hin, rfl⟩
      obtain ⟨e, he4, he5⟩ := List.mem_map.1 this
      have : e = left[k] := key_inj he hn (hsub _ he4) (by simpa using h3) (by rw [he5, hp2])
      exact h4 (this ▸ List.mem_map.2 ⟨e, he4, rfl⟩)
    · intro e he4
      rcases List.mem_append.1 he4 with h | h
      · exact hsub e h
      · simp at h; subst h; simpa using h3
    · simp [hk, hp2]

theorem gv_entry {it : Nat} {pre : List (List UInt8)} {k : List UInt8} {x : β} {Lm : Blks} (hx : (k, x) ∈ l) (hm : MapIt enc it m l (pre ++ [k]) Lm L) :
    GivesR P C (do pure (.value (← Instr.entry (.pointer (some ⟨it, 0, none⟩))))) [L] (fun v L' => v = .tuple #[str k, enc x] ∧ L' = [L]) := by
  obtain ⟨es, clock, told, rfl, rfl, hm', hsub, hk⟩ := hm
  have hm2 := hm'
  obtain ⟨es', clock', hL, he, hp, hc, hn⟩ := hm2
  simp only [List.cons.injEq, Prod.mk.injEq, true_and, and_true, Obj.map.injEq] at hL
  obtain ⟨rfl, rfl⟩ := hL
  intro w F hw
  have hb : w.heap[m]? = some (.map es clock) := hw.get (by simp)
  have hi : w.heap[it]? = some (.mapIter (some m) clock (told.map MapEntry.born).toArray clock) := hw.get (by simp)
  have hgi : (getObj it).run P w = .ok (.mapIter (some m) clock (told.map MapEntry.born).toArray clock) w := by simp [getObj, Sem.run, hi]
  have hne : told ≠ [] := fun h => by subst h; simp at hk
  have hlast := List.dropLast_concat_getLast hne
  generalize told.getLast hne = e at hlast
  have hk2 : e.key = str k := by
    rw [← hlast] at hk
    simp only [List.map_append, List.map_cons, List.map_nil] at hk
    have := congrArg List.getLast? hk
    simpa using this
  have hein : e ∈ es.toList := hsub e (by rw [← hlast]; simp)
  have hback : (told.map MapEntry.born).toArray.back? = some e.born := by rw [← hlast]; simp
  obtain ⟨p, hp1, hp2, hp3⟩ := entry_pair he hein
  have hpk : p.1 = k := str_inj.1 (hp2.symm.trans hk2)
  have hval : e.val = enc x := by
    obtain ⟨e', h3, h4, h5⟩ := pair_entry he hx
    have := key_inj he hn hein h3 (by rw [hk2, h4])
    rw [this, h5]
  have hfind : es.find? (fun z => z.born == e.born) = some e := by
    cases hf : es.find? (fun z => z.born == e.born) with
    | none =>
      rw [Array.find?_eq_none] at hf
      have := hf e (by simpa using hein)
      simp at this
    | some z =>
      have h1 := Array.find?_some hf
      have h2 := Array.mem_of_find?_eq_some hf
      have : z = e := born_inj hp (by simpa using h2) hein (by simpa using h1)
      rw [this]
  refine ⟨.value (.tuple #[str k, enc x]), w, _, [[(it, .mapIter (some m) clock (told.map MapEntry.born).toArray clock), (m, .map es clock)]], ?_, .inl rfl, hw, rfl, rfl⟩
  simp only [Instr.entry, Sem.run_bind, hgi, Result.andThen_ok, hback, getObj_map hb, hfind, Sem.run_pure, hk2, hval]
  simp
end

theorem MapIt.split {β : Type} {enc : β → Value} {it m : Nat} {l : List (List UInt8 × β)} {pre : List (List UInt8)} {Lm L : Blks} (h : MapIt enc it m l pre Lm L) : ∃ o, L = [(it, o)] ++ Lm := by
  obtain ⟨es, clock, told, rfl, rfl, _⟩ := h
  exact ⟨_, rfl⟩

/-! ### The keys of a map -/
def KeysN {β : Type} (l : List (List UInt8 × β)) (pre : List (List UInt8)) (x : List UInt8) : Prop := x ∈ l.map Prod.fst ∧ x ∉ pre ∧ pre.Nodup ∧ ∀ y ∈ pre, y ∈ l.map Prod.fst
def StrEnc (x : List UInt8) (ar : Array Value) (X : Blks) : Prop := ar = #[str x] ∧ X = []
theorem nodup_sub_len {α : Type} [DecidableEq α] : ∀ (a b : List α), a.Nodup → (∀ x ∈ a, x ∈ b) → a.length ≤ b.length
  | [], _, _, _ => Nat.zero_le _
  | x :: a, b, hn, hs => by
    simp only [List.nodup_cons] at hn
    have hx := hs x (List.mem_cons_self ..)
    have h1 := nodup_sub_len a (b.erase x) hn.2 fun y hy => by
      have := hs y (List.mem_cons_of_mem _ hy)
      have hne : y ≠ x := fun e => hn.1 (by rw [← e]; exact hy)
      exact (List.mem_erase_of_ne hne).2 this
    rw [List.length_erase_of_mem hx] at h1
    have : 0 < b.length := List.length_pos_of_mem hx
    simp only [List.length_cons]; omega
theorem KeysN.len {β : Type} {l : List (List UInt8 × β)} {pre : List (List UInt8)} {x : List UInt8} (h : KeysN l pre x) : pre.length ≤ l.length := by
  have := nodup_sub_len _ _ h.2.2.1 h.2.2.2
  simpa using this
def KeysI {β : Type} (l : List (List UInt8 × β)) (pre : List (List UInt8)) : Prop := pre.Nodup ∧ ∀ y ∈ pre, y ∈ l.map Prod.fst
section
variable {β : Type} {l : List (List UInt8 × β)} {pre : List (List UInt8)} {k : List UInt8} {x : β}
theorem KeysI.start (l : List (List UInt8 × β)) : KeysI l [] := ⟨by simp, by simp⟩
theorem KeysI.tell (h : KeysI l pre) (hk : (k, x) ∈ l) (hp : k ∉ pre) : KeysN l pre k := ⟨List.mem_map.2 ⟨_, hk, rfl⟩, hp, h.1, h.2⟩
theorem KeysI.next (h : KeysI l pre) (hk : (k, x) ∈ l) (hp : k ∉ pre) : KeysI l (pre ++ [k]) := by
  refine ⟨?_, fun y hy => ?_⟩
  · rw [List.nodup_append]
    exact ⟨h.1, by simp, fun a ha b hb => by simp at hb; subst hb; exact fun e => hp (e ▸ ha)⟩
  · rcases List.mem_append.1 hy with hy | hy
    · exact h.2 y hy
    · simp at hy; subst hy; exact List.mem_map.2 ⟨_, hk, rfl⟩
theorem KeysI.done (h : KeysI l pre) (hn : (l.map Prod.fst).Nodup) (ha : ∀ p ∈ l, p.1 ∈ pre) : pre.Perm (l.map Prod.fst) := by
  rw [List.perm_ext_iff_of_nodup h.1 hn]
  intro y
  refine ⟨h.2 y, fun hy => ?_⟩
  obtain ⟨p, hp, rfl⟩ := List.mem_map.1 hy
  exact ha p hp
theorem KeysI.more (hn : KeysI l (pre ++ [k])) : pre.length < l.length := by
  have := nodup_sub_len _ _ hn.1 hn.2
  simp at this; omega
theorem KeysI.len (h : KeysI l pre) : pre.length ≤ l.length := by
  have := nodup_sub_len _ _ h.1 h.2
  simpa using this
end
theorem MapL.nodup {β : Type} {enc : β → Value} {m : Nat} {l : List (List UInt8 × β)} {L : Blks} (h : MapL enc m l L) : (l.map Prod.fst).Nodup := by
  obtain ⟨_, _, _, _, _, _, h⟩ := h
  exact h

section
variable {P : Program} {C : Ctx} {rd : Option Nat} {n : Nat} {D : List Deferred} {E : Env} {Ls : List Blks} {Q : Exit → Act → List Blks → Prop}
/-- Part of a row of blocks is left behind. -/
theorem cd_part {c : Code} (k : Nat) (A B : Blks) (L2 : List Blks) (hp : pull [k] Ls = ([A ++ B], L2)) (h : CdE P C rd n D c E (B :: L2) Q) : CdE P C rd n D c E Ls Q :=
  fun a ha w F hw => h a ha w F (by
    have h1 := hw.perm ((pull_flat hp).append_right F)
    have h2 : Owns C w (A ++ ((B :: L2).flatten ++ F)) := by simpa [List.append_assoc] using h1
    exact h2.drop)
end
end Go.Sep
