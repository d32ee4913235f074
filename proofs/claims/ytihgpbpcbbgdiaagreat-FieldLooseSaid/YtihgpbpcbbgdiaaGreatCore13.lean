/- Maps that the code makes: made, written at a key that is new, read. -/
import Derived.Test.YtihgpbpcbbgdiaaGreatCore12
namespace Go.Proofs.YtihgpbpcbbgdiaaGreat
open Go.RowKit
set_option linter.unusedVariables false
set_option linter.unusedSimpArgs false
theorem Own.putObj {cx : Cx} {M : Mem} {w : World} {L : List Ent} (ho : Own cx M w L) {i B : Nat} {e e' : Ent} (h : L[i]? = some e) (hb : e.bs = [B]) (hb' : e'.bs = [B]) (o : Obj) (he' : e'.holds { w with heap := w.heap.setIfInBounds B o }) :
    Own cx M { w with heap := w.heap.setIfInBounds B o } (L.set i e') := by
  have hoth : ∀ k, k ≠ B → ({ w with heap := w.heap.setIfInBounds B o } : World).heap[k]? = w.heap[k]? := fun k hk => by
    simp only [Array.getElem?_setIfInBounds]
    rw [if_neg (Ne.symm hk)]
  have hbl : blks (L.set i e') = blks L := blks_set h (hb'.trans hb.symm)
  have hmB : B ∈ blks L := mem_blks h (by simp [hb])
  refine ⟨ho.os, ho.tape, ho.output, ho.dr, ?_, ?_, ?_, ho.new, ho.old, ?_, ?_, ?_, ?_⟩
  · have := ho.size; simpa using this
  · intro k hk hn
    by_cases e0 : k = B
    · subst e0
      rcases ho.brf _ hmB with hb | hb
      · exact absurd hb hn
      · omega
    · rw [hoth k e0]; exact ho.keep k hk hn
  · intro a v hv
    have h1 := ho.off a v hv
    have h2 := ho.mem a v hv
    have : a.block ≠ B := fun e => h1 (e ▸ hmB)
    rw [World.cell?_of_block (w := w) (hoth a.block this)]
    exact h2
  · intro a v hv; rw [hbl]; exact ho.off a v hv
  · intro x hx
    obtain ⟨j, hj⟩ := List.getElem?_of_mem hx
    rw [List.getElem?_set] at hj
    by_cases hij : i = j
    · subst hij
      have hlt : i < L.length := (List.getElem?_eq_some_iff.1 h).1
      simp [hlt] at hj
      subst hj
      exact he'
    · simp [hij] at hj
      have hd := nd_off ho.nd i j _ _ h hj hij B (by simp [hb])
      exact holds_of_heap (fun b hb => hoth b (fun e' => hd (e' ▸ hb))) (ho.at' hj)
  · rw [hbl]; exact ho.nd
  · rw [hbl]; exact ho.brf
theorem Own.allocMap {cx : Cx} {M : Mem} {w : World} {L : List Ent} (ho : Own cx M w L) : Own cx M (w.alloc (.map #[] 0)) (.mp w.heap.size [] :: L) := by
  have hlt := ho.lt
  have hnew : (w.alloc (.map #[] 0)).heap[w.heap.size]? = some (.map #[] 0) := heap_alloc_new _ _
  refine ⟨ho.os, ho.tape, ho.output, ho.dr, ?_, ?_, ?_, ho.new, ho.old, ?_, ?_, ?_, ?_⟩
  · have := ho.size; simp; omega
  · intro k hk hn
    have := ho.size
    rw [heap_alloc_lt _ _ _ (by omega)]; exact ho.keep k hk hn
  · intro a v hv
    have h2 := ho.mem a v hv
    rw [World.cell?_of_block (w := w) (heap_alloc_lt _ _ _ (cell_lt h2))]
    exact h2
  · intro a v hv hm
    simp only [blks, List.flatMap_cons, Ent.bs, List.singleton_append, List.mem_cons] at hm
    rcases hm with hm | hm
    · have := cell_lt (ho.mem a v hv); omega
    · exact ho.off a v hv hm
  · intro e he
    rcases List.mem_cons.1 he with rfl | he
    · exact ⟨_, _, hnew, rfl⟩
    · exact holds_of_heap (fun b hb => heap_alloc_lt _ _ _ (Ent.lt (ho.ent e he) b hb)) (ho.ent e he)
  · simp only [blks, List.flatMap_cons, Ent.bs, List.singleton_append, List.nodup_cons]
    exact ⟨fun hm => Nat.lt_irrefl _ (hlt _ hm), ho.nd⟩
  · intro b hb
    simp only [blks, List.flatMap_cons, Ent.bs, List.singleton_append, List.mem_cons] at hb
    rcases hb with rfl | hb
    · exact .inr ho.size
    · exact ho.brf b hb
/-- the keys of a map's type: how they are compared -/
class KeyI (P : Program) (t : Nat) (κ : outParam Type) [DecidableEq κ] (enc : outParam (κ → Value)) : Prop where
  check : ∀ b k w, (Instr.checkKey b 10000 t (enc k)).run P w = .ok () w
  find : ∀ (k : κ) (es : List MapEntry) (m : List (κ × Value)), es.map (fun e => (e.key, e.val)) = m.map (fun p => (enc p.1, p.2)) → ∀ w, (Instr.findKey t (enc k) es).run P w = .ok ((m.findIdx? fun p => decide (p.1 = k)).bind fun i => (m[i]?).map fun p => (i, p.2)) w
def encMap {κ : Type} (enc : κ → Value) (m : List (κ × Value)) : List (Value × Value) := m.map fun p => (enc p.1, p.2)
section
variable {cx : Cx} {Q : Post} {E : Env} {M : Mem} {L : List Ent} {ops : Array Oper} {d T : Nat} {pos : String} {af : Array Edge} {rest : List Oper} {x y z : Operand} {v u : Value}
theorem jmm {t : Nat} (hn : Nat.blt d cx.n = true) (hk : ∀ B, J cx ops Q rest ((d, .map (some B)) :: E) M (.mp B [] :: L)) : J cx ops Q (⟨some d, .makeMap t none, T, pos, af, none⟩ :: rest) E M L :=
  j_new (M' := M) (fun a w hs ho => ⟨.map (some w.heap.size), _, _, by simp [execOp, Instr.makeMap], ho.allocMap, hk _⟩) hn
theorem jmu {κ : Type} [DecidableEq κ] {enc : κ → Value} {t kt et B : Nat} {m : List (κ × Value)} {k : κ} (i : Nat) [K : KeyI cx.P kt κ enc] (hu : cx.P.underlying t = some (.map kt et)) (hx : ev E x = some (.map (some B))) (hy : ev E y = some (enc k)) (hz : ev E z = some v)
    (hL : L[i]? = some (.mp B (encMap enc m))) (hnew : ∀ p ∈ m, p.1 ≠ k) (hk : J cx ops Q rest E M (L.set i (.mp B (encMap enc (m ++ [(k, v)]))))) : J cx ops Q (⟨none, .mapUpdate t x y z, T, pos, af, none⟩ :: rest) E M L :=
  j_skip (M' := M) (L' := L.set i (.mp B (encMap enc (m ++ [(k, v)])))) (fun a w hs ho => by
    obtain ⟨es, clock, h1, h2⟩ := ho.at' hL
    refine ⟨{ w with heap := w.heap.setIfInBounds B (.map (es.push { key := enc k, val := v, born := clock }) (clock + 1)) }, ?_, ho.putObj hL rfl rfl _ ⟨es.push { key := enc k, val := v, born := clock }, clock + 1, ?_, ?_⟩⟩
    · have hf := K.find k es.toList m h2 w
      have hn : (m.findIdx? fun p => decide (p.1 = k)) = none := by
        rw [List.findIdx?_eq_none_iff]; intro p hp; simp [hnew p hp]
      rw [hn] at hf
      have hg : (getObj B).run cx.P w = .ok (.map es clock) w := by simp [getObj, Sem.run, h1]
      have hset : (setObj B (.map (es.push { key := enc k, val := v, born := clock }) (clock + 1))).run cx.P w = .ok () { w with heap := w.heap.setIfInBounds B (.map (es.push { key := enc k, val := v, born := clock }) (clock + 1)) } := by simp [setObj, Sem.run, h1]
      simp only [execOp, hs.ev hx, hs.ev hy, hs.ev hz, Instr.mapUpdate, Sem.run_bind, run_underlying hu, Result.andThen_ok, hg, K.check, hf, Option.bind_none, hset]
      rfl
    · have hlt := (Array.getElem?_eq_some_iff.1 h1).1
      simp [hlt]
    · simp [h2]; simp [encMap]) hk
theorem jmget {κ : Type} [DecidableEq κ] {enc : κ → Value} {t kt et B : Nat} {zv : Value} {m : List (κ × Value)} {k : κ} (i : Nat) [K : KeyI cx.P kt κ enc] (hn : Nat.blt d cx.n = true) (hu : cx.P.underlying t = some (.map kt et)) (hz : ∀ w, (zeroValue et).run cx.P w = .ok zv w) (hx : ev E x = some (.map (some B))) (hy : ev E y = some (enc k))
    (hL : L[i]? = some (.mp B (encMap enc m))) (hk : J cx ops Q rest ((d, .tuple #[((m.find? fun p => decide (p.1 = k)).map (·.2)).getD zv, .bool (m.find? fun p => decide (p.1 = k)).isSome]) :: E) M L) : J cx ops Q (⟨some d, .lookup t x y true, T, pos, af, none⟩ :: rest) E M L :=
  j_val _ rfl hn (fun a w hs ho => by
    obtain ⟨es, clock, h1, h2⟩ := ho.at' hL
    have hf := K.find k es.toList m h2 w
    have hg : (getObj B).run cx.P w = .ok (.map es clock) w := by simp [getObj, Sem.run, h1]
    have he : (m.find? fun p => decide (p.1 = k)) = (m.findIdx? fun p => decide (p.1 = k)).bind (m[·]?) := by
      clear hf h2 hL hk hz
      induction m with
      | nil => rfl
      | cons p m ih =>
        rw [List.find?_cons, List.findIdx?_cons]
        by_cases h : p.1 = k
        · simp [h]
        · simp only [h, decide_false, Bool.false_eq_true, if_false]
          rw [ih]
          cases (m.findIdx? fun p => decide (p.1 = k)) <;> simp
    cases hfi : (m.findIdx? fun p => decide (p.1 = k)) with
    | none =>
      rw [hfi] at hf he
      simp only [execOp, hs.ev hx, hs.ev hy, Instr.lookup, Sem.run_bind, run_underlying hu, Result.andThen_ok, hg, K.check, hf, Option.bind_none, Sem.run_pure, hz, he, Option.map_none, Option.getD_none, Option.isSome_none]
      rfl
    | some j =>
      have hj : j < m.length := (List.findIdx?_eq_some_iff_getElem.1 hfi).1
      rw [hfi] at hf he
      simp only [Option.bind_some, List.getElem?_eq_getElem hj, Option.map_some] at hf he
      simp only [execOp, hs.ev hx, hs.ev hy, Instr.lookup, Sem.run_bind, run_underlying hu, Result.andThen_ok, hg, K.check, hf, Sem.run_pure, he, Option.map_some, Option.getD_some, Option.isSome_some]
      rfl) hk
end
end Go.Proofs.YtihgpbpcbbgdiaaGreat
