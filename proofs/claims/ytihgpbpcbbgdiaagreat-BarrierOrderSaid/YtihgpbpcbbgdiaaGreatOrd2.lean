/- Several texts in one. -/
import Derived.Test.YtihgpbpcbbgdiaaGreatOrd1
/- The rules for single operations over the judgements: values, comparisons, loads, stores, new blocks, guards. -/
namespace Go.Proofs.YtihgpbpcbbgdiaaGreat
open Go.RowKit
set_option linter.unusedVariables false
set_option linter.unusedSimpArgs false

class TyI (P : Program) (T : TypeId) (ag : outParam Bool) (sz : outParam Nat) : Prop where
  u : ∃ d, P.underlying T = some d ∧ (match d with | .struct _ | .array _ _ => true | _ => false) = ag
  s : (P.info? T).map (·.size) = some sz
class StI (P : Program) (T f : Nat) (off ft : outParam Nat) : Prop where
  h : ∃ fs F, P.underlying T = some (.struct fs) ∧ fs[f]? = some F ∧ F.offset = off ∧ F.type = ft
class SlI (P : Program) (T : Nat) (e : outParam Nat) : Prop where
  h : P.underlying T = some (.slice e)
class ArI (P : Program) (T : Nat) (n e : outParam Nat) : Prop where
  h : P.underlying T = some (.array n e)
class ZeI (P : Program) (T : Nat) (c : outParam (List Value)) : Prop where
  h : ((P.info? T).bind (·.zero)).map (·.cells) = some c.toArray

section
variable {P : Program} (w : World)
theorem run_isAgg {T : TypeId} {ag : Bool} {sz : Nat} [h : TyI P T ag sz] : (isAgg T).run P w = .ok ag w := by
  obtain ⟨d, hd, ha⟩ := h.u
  unfold isAgg
  rw [Sem.run_bind, run_underlying hd, Result.andThen_ok]
  rw [← ha]
  cases d <;> rfl
theorem run_sz {T : TypeId} {ag : Bool} {sz : Nat} [h : TyI P T ag sz] : (sizeOf T).run P w = .ok sz w := by
  have := h.s
  cases hq : P.info? T with
  | none => simp [hq] at this
  | some i =>
    simp [hq] at this
    simp [sizeOf, typeInfo, hq, this]
theorem run_zero {T : TypeId} {c : List Value} [h : ZeI P T c] : ∃ z, (zeroValue T).run P w = .ok z w ∧ z.cells = c.toArray := by
  have h := h.h
  cases hi : P.info? T with
  | none => simp [hi] at h
  | some i =>
    cases hz : i.zero with
    | none => simp [hi, hz] at h
    | some z =>
      simp [hi, hz] at h
      exact ⟨z, by simp [zeroValue, typeInfo, hi, hz], h⟩
theorem add_at (B o j : Nat) : (⟨B, o, none⟩ : Addr).add j = ⟨B, o + j, none⟩ := by unfold Addr.add; split <;> simp_all
theorem run_loadVar_agg {T sz : Nat} [TyI P T true sz] {b o : Nat} {r : List Value} (hl : r.length = sz) (h : ∀ j v, r[j]? = some v → w.cell? ⟨b, o + j, none⟩ = some v) :
    (loadVar T ⟨b, o, none⟩).run P w = .ok (.agg r.toArray) w := by
  unfold loadVar
  rw [Sem.run_bind, run_isAgg, Result.andThen_ok]
  simp only [if_true]
  rw [Sem.run_bind, run_sz, Result.andThen_ok, Sem.run_bind, ← hl, run_loadCells_list w _ r (fun j v hj => by rw [add_at]; exact h j v hj)]
  rfl
theorem run_loadVar_one {T sz : Nat} [TyI P T false sz] {b o : Nat} {v : Value} (h : w.cell? ⟨b, o, none⟩ = some v) :
    (loadVar T ⟨b, o, none⟩).run P w = .ok v w := by
  unfold loadVar
  rw [Sem.run_bind, run_isAgg, Result.andThen_ok]
  simp only [Bool.false_eq_true, if_false]
  rw [run_load, h]
end

/-! owned blocks -/
theorem nd_off {L : List Ent} (h : (blks L).Nodup) : ∀ (i j : Nat) (e e' : Ent), L[i]? = some e → L[j]? = some e' → i ≠ j → ∀ b ∈ e.bs, b ∉ e'.bs := by
  have hp : L.Pairwise (fun a1 a2 => ∀ x ∈ a1.bs, ∀ y ∈ a2.bs, x ≠ y) := by
    have h' : (List.flatMap Ent.bs L).Pairwise (· ≠ ·) := h
    exact (List.pairwise_flatMap.1 h').2
  have key : ∀ (i j : Nat) (e e' : Ent), L[i]? = some e → L[j]? = some e' → i < j → ∀ x ∈ e.bs, ∀ y ∈ e'.bs, x ≠ y := by
    intro i j e e' hi hj hij
    rw [List.pairwise_iff_getElem] at hp
    obtain ⟨h1, e1⟩ := List.getElem?_eq_some_iff.1 hi
    obtain ⟨h2, e2⟩ := List.getElem?_eq_some_iff.1 hj
    have := hp i j h1 h2 hij
    rw [e1, e2] at this
    exact this
  intro i j e e' hi hj hij b hb hb'
  rcases Nat.lt_or_gt_of_ne hij with hl | hl
  · exact key i j e e' hi hj hl b hb b hb' rfl
  · exact key j i e' e hj hi hl b hb' b hb rfl
theorem mem_blks {L : List Ent} {i : Nat} {e : Ent} (h : L[i]? = some e) {b : Nat} (hb : b ∈ e.bs) : b ∈ blks L :=
  List.mem_flatMap.2 ⟨e, List.mem_of_getElem? h, hb⟩
theorem Own.at' {cx : Cx} {M : Mem} {w : World} {L : List Ent} (ho : Own cx M w L) {i : Nat} {e : Ent} (h : L[i]? = some e) : e.holds w := ho.ent e (List.mem_of_getElem? h)
theorem holds_of_heap {w w' : World} {e : Ent} (h : ∀ b ∈ e.bs, w'.heap[b]? = w.heap[b]?) (hh : e.holds w) : e.holds w' := by
  cases e with
  | blk B T c => simp only [Ent.holds] at *; rw [h B (by simp [Ent.bs])]; exact hh
  | row v T sz n c =>
    simp only [Ent.holds] at *
    refine ⟨hh.1, hh.2.imp id ?_⟩
    rintro ⟨B, cap, rest, rfl, h0, h1, h2, h3⟩
    exact ⟨B, cap, rest, rfl, h0, h1, h2, by rw [h B (by simp [Ent.bs]; omega)]; exact h3⟩
  | mp B kvs =>
    obtain ⟨es, clock, h1, h2⟩ := hh
    exact ⟨es, clock, by rw [h B (by simp [Ent.bs])]; exact h1, h2⟩
theorem cell_of_heap {w : World} {B : Nat} {T : TypeId} {c : List Value} {fr : Nat × Nat} (h : w.heap[B]? = some (.cells c.toArray T fr)) (o : Nat) : w.cell? ⟨B, o, none⟩ = c[o]? := by
  simp [World.cell?, h]
theorem blks_set {L : List Ent} {i : Nat} {e e' : Ent} (h : L[i]? = some e) (hb : e'.bs = e.bs) : blks (L.set i e') = blks L := by
  induction L generalizing i with
  | nil => simp at h
  | cons x L ih =>
    cases i with
    | zero => simp at h; subst h; simp [blks, hb]
    | succ i => simp at h; have := ih h; simp only [blks, List.set_cons_succ, List.flatMap_cons] at *; rw [this]
theorem Own.set {cx : Cx} {M : Mem} {w : World} {L : List Ent} (ho : Own cx M w L) {i B : Nat} {T : TypeId} {c : List Value} (h : L[i]? = some (.blk B T c)) (c' : List Value) :
    Own cx M (w.setRow B c'.toArray) (L.set i (.blk B T c')) := by
  have hB : w.heap[B]? = some (.cells c.toArray T (0, 0)) := ho.at' h
  have hset : (w.setRow B c'.toArray).heap[B]? = some (.cells c'.toArray T (0, 0)) := setRow_heap w B c.toArray _ T _ hB
  have hoth : ∀ k, k ≠ B → (w.setRow B c'.toArray).heap[k]? = w.heap[k]? := fun k hk => by
    simp only [World.setRow, Array.getElem?_modify]
    rw [if_neg (by omega)]
  have hbl : blks (L.set i (.blk B T c')) = blks L := blks_set h rfl
  have hmB : B ∈ blks L := mem_blks h (by simp [Ent.bs])
  refine ⟨ho.os, ho.tape, ho.output, ho.dr, ?_, ?_, ?_, ho.new, ho.old, ?_, ?_, ?_, ?_⟩
  · have := ho.size; simpa [World.setRow] using this
  · intro k hk hn
    by_cases e : k = B
    · subst e
      rcases ho.brf _ hmB with hb | hb
      · exact absurd hb hn
      · omega
    · rw [hoth k e]; exact ho.keep k hk hn
  · intro a v hv
    have h1 := ho.off a v hv
    have h2 := ho.mem a v hv
    have : a.block ≠ B := fun e => h1 (e ▸ hmB)
    rw [World.cell?_of_block (w := w) (hoth a.block this)]
    exact h2
  · intro a v hv; rw [hbl]; exact ho.off a v hv
  · intro e he
    obtain ⟨j, hj⟩ := List.getElem?_of_mem he
    rw [List.getElem?_set] at hj
    by_cases hij : i = j
    · subst hij
      have hlt : i < L.length := (List.getElem?_eq_some_iff.1 h).1
      simp [hlt] at hj
      subst hj
      exact hset
    · simp [hij] at hj
      have hd := nd_off ho.nd i j _ _ h hj hij B (by simp [Ent.bs])
      exact holds_of_heap (fun b hb => hoth b (fun e' => hd (e' ▸ hb))) (ho.at' hj)
  · rw [hbl]; exact ho.nd
  · rw [hbl]; exact ho.brf
theorem heap_alloc_lt (w : World) (o : Obj) (k : Nat) (h : k < w.heap.size) : (w.alloc o).heap[k]? = w.heap[k]? := Below.heap_alloc w o k h
theorem Ent.lt {w : World} {e : Ent} (h : e.holds w) : ∀ b ∈ e.bs, b < w.heap.size := by
  intro b hb
  cases e with
  | blk B T c => simp [Ent.bs] at hb; subst hb; exact (Array.getElem?_eq_some_iff.1 h).1
  | row v T sz n c =>
    rcases h.2 with ⟨_, A, rfl⟩ | ⟨B, cap, rest, rfl, h0, _, _, h3⟩
    · cases A <;> simp [Ent.bs] at hb
    · simp [Ent.bs, Nat.ne_of_gt h0] at hb; subst hb; exact (Array.getElem?_eq_some_iff.1 h3).1
  | mp B kvs =>
    obtain ⟨es, clock, h1, h2⟩ := h
    simp [Ent.bs] at hb; subst hb; exact (Array.getElem?_eq_some_iff.1 h1).1
theorem Own.lt {cx : Cx} {M : Mem} {w : World} {L : List Ent} (ho : Own cx M w L) : ∀ b ∈ blks L, b < w.heap.size := by
  intro b hb
  obtain ⟨e, he, hb⟩ := List.mem_flatMap.1 hb
  exact Ent.lt (ho.ent e he) b hb
theorem cell_lt {w : World} {a : Addr} {v : Value} (h : w.cell? a = some v) : a.block < w.heap.size := by
  unfold World.cell? at h
  by_cases hl : a.block < w.heap.size
  · exact hl
  · simp [Array.getElem?_eq_none (Nat.le_of_not_lt hl)] at h
theorem Own.alloc {cx : Cx} {M : Mem} {w : World} {L : List Ent} (ho : Own cx M w L) (T : TypeId) (c : List Value) :
    Own cx M (w.alloc (.cells c.toArray T)) (.blk w.heap.size T c :: L) := by
  have hlt := ho.lt
  refine ⟨ho.os, ho.tape, ho.output, ho.dr, ?_, ?_, ?_, ho.new, ho.old, ?_, ?_, ?_, ?_⟩
  · have := ho.size; simp; omega
  · intro k hk hn
    have := ho.size
    rw [heap_alloc_lt _ _ _ (by omega)]; exact ho.keep k hk hn
  · intro a v hv
    have h2 := ho.mem a v hv
    rw [World.cell?_of_block (w := w) (heap_alloc_lt _ _ _ (cell_lt h2))]
    exact h2
  · intro a v hv hm
    simp only [blks, List.flatMap_cons, Ent.bs, List.singleton_append, List.mem_cons] at hm
    rcases hm with hm | hm
    · have := cell_lt (ho.mem a v hv); omega
    · exact ho.off a v hv hm
  · intro e he
    rcases List.mem_cons.1 he with rfl | he
    · exact heap_alloc_new _ _
    · exact holds_of_heap (fun b hb => heap_alloc_lt _ _ _ (Ent.lt (ho.ent e he) b hb)) (ho.ent e he)
  · simp only [blks, List.flatMap_cons, Ent.bs, List.singleton_append, List.nodup_cons]
    exact ⟨fun hm => Nat.lt_irrefl _ (hlt _ hm), ho.nd⟩
  · intro b hb
    simp only [blks, List.flatMap_cons, Ent.bs, List.singleton_append, List.mem_cons] at hb
    rcases hb with rfl | hb
    · exact .inr ho.size
    · exact ho.brf b hb

section
variable {cx : Cx} {Q : Post} {E : Env} {M : Mem} {L : List Ent} {ops : Array Oper} {d T : Nat} {pos : String} {af : Array Edge} {rest : List Oper} {x y z : Operand} {v u : Value}

/-! values -/
theorem ym (hx : ev E x = some v) : Y cx ⟨some d, .move x, T, pos, af, none⟩ E M L (v) := fun a w hs ho => by simp [execOp, hs.ev hx]
theorem jm (hn : Nat.blt d cx.n = true) (hx : ev E x = some v) (hk : J cx ops Q rest ((d, v) :: E) M L) : J cx ops Q (⟨some d, .move x, T, pos, af, none⟩ :: rest) E M L := j_y hn (ym hx) hk
theorem ya (hx : ev E x = some v) : Y cx ⟨some d, .assign x, T, pos, af, none⟩ E M L (v) := fun a w hs ho => by simp [execOp, hs.ev hx]
theorem ja (hn : Nat.blt d cx.n = true) (hx : ev E x = some v) (hk : J cx ops Q rest ((d, v) :: E) M L) : J cx ops Q (⟨some d, .assign x, T, pos, af, none⟩ :: rest) E M L := j_y hn (ya hx) hk
theorem ypick_t {b : Bool}  (hc : ev E x = some (.bool b)) (hb : b = true) (hy : ev E y = some v) : Y cx ⟨some d, .pick x y z, T, pos, af, none⟩ E M L (v) := fun a w hs ho => by subst hb; simp [execOp, hs.ev hc, hs.ev hy, asBool]
theorem jpick_t {b : Bool} (hn : Nat.blt d cx.n = true) (hc : ev E x = some (.bool b)) (hb : b = true) (hy : ev E y = some v) (hk : J cx ops Q rest ((d, v) :: E) M L) : J cx ops Q (⟨some d, .pick x y z, T, pos, af, none⟩ :: rest) E M L := j_y hn (ypick_t hc hb hy) hk
theorem ypick_f {b : Bool}  (hc : ev E x = some (.bool b)) (hb : b = false) (hz : ev E z = some v) : Y cx ⟨some d, .pick x y z, T, pos, af, none⟩ E M L (v) := fun a w hs ho => by subst hb; simp [execOp, hs.ev hc, hs.ev hz, asBool]
theorem jpick_f {b : Bool} (hn : Nat.blt d cx.n = true) (hc : ev E x = some (.bool b)) (hb : b = false) (hz : ev E z = some v) (hk : J cx ops Q rest ((d, v) :: E) M L) : J cx ops Q (⟨some d, .pick x y z, T, pos, af, none⟩ :: rest) E M L := j_y hn (ypick_f hc hb hz) hk
theorem ynot {b : Bool} {t : Nat}  (hx : ev E x = some (.bool b)) : Y cx ⟨some d, .unOp .not t x, T, pos, af, none⟩ E M L (.bool !b) := fun a w hs ho => by simp [execOp, hs.ev hx, Op.unary]
theorem jnot {b : Bool} {t : Nat} (hn : Nat.blt d cx.n = true) (hx : ev E x = some (.bool b)) (hk : J cx ops Q rest ((d, .bool !b) :: E) M L) : J cx ops Q (⟨some d, .unOp .not t x, T, pos, af, none⟩ :: rest) E M L := j_y hn (ynot hx) hk
theorem yneg {k : IntKind} {m r : Int} {t : Nat}  (hx : ev E x = some (.int k m)) (hr : k.wrap (-m) = r) : Y cx ⟨some d, .unOp .neg t x, T, pos, af, none⟩ E M L (.int k r) := fun a w hs ho => by simp [execOp, hs.ev hx, Op.unary, Op.intArith, ← hr]
theorem jneg {k : IntKind} {m r : Int} {t : Nat} (hn : Nat.blt d cx.n = true) (hx : ev E x = some (.int k m)) (hr : k.wrap (-m) = r) (hk : J cx ops Q rest ((d, .int k r) :: E) M L) : J cx ops Q (⟨some d, .unOp .neg t x, T, pos, af, none⟩ :: rest) E M L := j_y hn (yneg hx hr) hk
theorem yext {vs : Array Value} {i : Nat}  (hx : ev E x = some (.tuple vs)) (hv : vs[i]? = some v) : Y cx ⟨some d, .extract x i, T, pos, af, none⟩ E M L (v) := fun a w hs ho => by simp [execOp, hs.ev hx, Instr.extract, hv]
theorem jext {vs : Array Value} {i : Nat} (hn : Nat.blt d cx.n = true) (hx : ev E x = some (.tuple vs)) (hv : vs[i]? = some v) (hk : J cx ops Q rest ((d, v) :: E) M L) : J cx ops Q (⟨some d, .extract x i, T, pos, af, none⟩ :: rest) E M L := j_y hn (yext hx hv) hk
theorem ynil {ad : Addr}  (hx : ev E x = some (.pointer (some ad))) : Y cx ⟨some d, .nilCheck x, T, pos, af, none⟩ E M L (.pointer (some ad)) := fun a w hs ho => by simp [execOp, hs.ev hx]
theorem jnil {ad : Addr} (hn : Nat.blt d cx.n = true) (hx : ev E x = some (.pointer (some ad))) (hk : J cx ops Q rest ((d, .pointer (some ad)) :: E) M L) : J cx ops Q (⟨some d, .nilCheck x, T, pos, af, none⟩ :: rest) E M L := j_y hn (ynil hx) hk
/-- the operands' values -/
theorem evs {ds : List Deferred} {n : Nat} {E : Env} {l : List Operand} {r : List Value} (h : evL E l = some r) {a : Act} (hs : Sat ds n E a) : l.map a.eval = r := by
  induction l generalizing r with
  | nil => simp [evL] at h; simp [h]
  | cons o l ih =>
    simp only [evL] at h
    cases ho : ev E o with
    | none => simp [ho] at h
    | some v =>
      cases hl : evL E l with
      | none => simp [ho, hl] at h
      | some vs => simp [ho, hl] at h; subst h; simp [hs.ev ho, ih hl]
theorem jfunc {fn : Fn} {fi ca : Array Operand} {fv cv : List Value} (hn : Nat.blt d cx.n = true) (hf : evL E fi.toList = some fv) (hc : evL E ca.toList = some cv)
    (hk : J cx ops Q rest ((d, .func fn fv.toArray cv.toArray) :: E) M L) : J cx ops Q (⟨some d, .makeFunc fn fi ca, T, pos, af, none⟩ :: rest) E M L := by
  refine j_val _ rfl hn (fun a w hs ho => ?_) hk
  have h1 := evs hf hs
  have h2 := evs hc hs
  simp only [execOp, Instr.makeFunc]
  have e1 : fi.map a.eval = fv.toArray := by apply Array.ext'; simpa using h1
  have e2 : ca.map a.eval = cv.toArray := by apply Array.ext'; simpa using h2
  simp [e1, e2]

/-! integers -/
theorem eqGuard_int {op : BinOp} {t : Nat} {k k' : IntKind} {m n : Int} (w : World) : (eqGuard op t x y (.int k m) (.int k' n)).run cx.P w = .ok () w := by
  unfold eqGuard; cases op <;> rfl
section
variable {t t' : Nat} {k : IntKind} {m n r : Int}
theorem yadd (hx : ev E x = some (.int k m)) (hy : ev E y = some (.int k n)) (hr : k.wrap (m + n) = r) : Y cx ⟨some d, .binOp .add t x y t', T, pos, af, none⟩ E M L (.int k r) := fun a w hs ho => by simp [execOp, hs.ev hx, hs.ev hy, eqGuard_int, binOp, Op.intArith, hr]
theorem jadd (hn : Nat.blt d cx.n = true) (hx : ev E x = some (.int k m)) (hy : ev E y = some (.int k n)) (hr : k.wrap (m + n) = r) (hk : J cx ops Q rest ((d, .int k r) :: E) M L) : J cx ops Q (⟨some d, .binOp .add t x y t', T, pos, af, none⟩ :: rest) E M L := j_y hn (yadd hx hy hr) hk
theorem ysub (hx : ev E x = some (.int k m)) (hy : ev E y = some (.int k n)) (hr : k.wrap (m - n) = r) : Y cx ⟨some d, .binOp .sub t x y t', T, pos, af, none⟩ E M L (.int k r) := fun a w hs ho => by simp [execOp, hs.ev hx, hs.ev hy, eqGuard_int, binOp, Op.intArith, hr]
theorem jsub (hn : Nat.blt d cx.n = true) (hx : ev E x = some (.int k m)) (hy : ev E y = some (.int k n)) (hr : k.wrap (m - n) = r) (hk : J cx ops Q rest ((d, .int k r) :: E) M L) : J cx ops Q (⟨some d, .binOp .sub t x y t', T, pos, af, none⟩ :: rest) E M L := j_y hn (ysub hx hy hr) hk
theorem ymul (hx : ev E x = some (.int k m)) (hy : ev E y = some (.int k n)) (hr : k.wrap (m * n) = r) : Y cx ⟨some d, .binOp .mul t x y t', T, pos, af, none⟩ E M L (.int k r) := fun a w hs ho => by simp [execOp, hs.ev hx, hs.ev hy, eqGuard_int, binOp, Op.intArith, hr]
theorem jmul (hn : Nat.blt d cx.n = true) (hx : ev E x = some (.int k m)) (hy : ev E y = some (.int k n)) (hr : k.wrap (m * n) = r) (hk : J cx ops Q rest ((d, .int k r) :: E) M L) : J cx ops Q (⟨some d, .binOp .mul t x y t', T, pos, af, none⟩ :: rest) E M L := j_y hn (ymul hx hy hr) hk
theorem ylss (hx : ev E x = some (.int k m)) (hy : ev E y = some (.int k n)) : Y cx ⟨some d, .binOp .lss t x y t', T, pos, af, none⟩ E M L (.bool (decide (m < n))) := fun a w hs ho => by simp [execOp, hs.ev hx, hs.ev hy, eqGuard_int, binOp, Op.intCmp]
theorem jlss (hn : Nat.blt d cx.n = true) (hx : ev E x = some (.int k m)) (hy : ev E y = some (.int k n)) (hk : J cx ops Q rest ((d, .bool (decide (m < n))) :: E) M L) : J cx ops Q (⟨some d, .binOp .lss t x y t', T, pos, af, none⟩ :: rest) E M L := j_y hn (ylss hx hy) hk
theorem yleq (hx : ev E x = some (.int k m)) (hy : ev E y = some (.int k n)) : Y cx ⟨some d, .binOp .leq t x y t', T, pos, af, none⟩ E M L (.bool (decide (m ≤ n))) := fun a w hs ho => by simp [execOp, hs.ev hx, hs.ev hy, eqGuard_int, binOp, Op.intCmp]
theorem jleq (hn : Nat.blt d cx.n = true) (hx : ev E x = some (.int k m)) (hy : ev E y = some (.int k n)) (hk : J cx ops Q rest ((d, .bool (decide (m ≤ n))) :: E) M L) : J cx ops Q (⟨some d, .binOp .leq t x y t', T, pos, af, none⟩ :: rest) E M L := j_y hn (yleq hx hy) hk
theorem ygtr (hx : ev E x = some (.int k m)) (hy : ev E y = some (.int k n)) : Y cx ⟨some d, .binOp .gtr t x y t', T, pos, af, none⟩ E M L (.bool (decide (n < m))) := fun a w hs ho => by simp [execOp, hs.ev hx, hs.ev hy, eqGuard_int, binOp, Op.intCmp]
theorem jgtr (hn : Nat.blt d cx.n = true) (hx : ev E x = some (.int k m)) (hy : ev E y = some (.int k n)) (hk : J cx ops Q rest ((d, .bool (decide (n < m))) :: E) M L) : J cx ops Q (⟨some d, .binOp .gtr t x y t', T, pos, af, none⟩ :: rest) E M L := j_y hn (ygtr hx hy) hk
theorem ygeq (hx : ev E x = some (.int k m)) (hy : ev E y = some (.int k n)) : Y cx ⟨some d, .binOp .geq t x y t', T, pos, af, none⟩ E M L (.bool (decide (n ≤ m))) := fun a w hs ho => by simp [execOp, hs.ev hx, hs.ev hy, eqGuard_int, binOp, Op.intCmp]
theorem jgeq (hn : Nat.blt d cx.n = true) (hx : ev E x = some (.int k m)) (hy : ev E y = some (.int k n)) (hk : J cx ops Q rest ((d, .bool (decide (n ≤ m))) :: E) M L) : J cx ops Q (⟨some d, .binOp .geq t x y t', T, pos, af, none⟩ :: rest) E M L := j_y hn (ygeq hx hy) hk
theorem yeql (hx : ev E x = some (.int k m)) (hy : ev E y = some (.int k n)) : Y cx ⟨some d, .binOp .eql t x y t', T, pos, af, none⟩ E M L (.bool (decide (m = n))) := fun a w hs ho => by simp [execOp, hs.ev hx, hs.ev hy, eqGuard_int, binOp, Op.intCmp]; rfl
theorem jeql (hn : Nat.blt d cx.n = true) (hx : ev E x = some (.int k m)) (hy : ev E y = some (.int k n)) (hk : J cx ops Q rest ((d, .bool (decide (m = n))) :: E) M L) : J cx ops Q (⟨some d, .binOp .eql t x y t', T, pos, af, none⟩ :: rest) E M L := j_y hn (yeql hx hy) hk
theorem yneq (hx : ev E x = some (.int k m)) (hy : ev E y = some (.int k n)) : Y cx ⟨some d, .binOp .neq t x y t', T, pos, af, none⟩ E M L (.bool (decide (m ≠ n))) := fun a w hs ho => by
    simp only [execOp, hs.ev hx, hs.ev hy, Sem.run_bind, eqGuard_int, Result.andThen_ok, binOp, Op.intCmp]
    have : (m != n) = decide (m ≠ n) := by by_cases h : m = n <;> simp [h]
    simp [this]
theorem jneq (hn : Nat.blt d cx.n = true) (hx : ev E x = some (.int k m)) (hy : ev E y = some (.int k n)) (hk : J cx ops Q rest ((d, .bool (decide (m ≠ n))) :: E) M L) : J cx ops Q (⟨some d, .binOp .neq t x y t', T, pos, af, none⟩ :: rest) E M L := j_y hn (yneq hx hy) hk
end
/-! strings -/
theorem eqGuard_str {op : BinOp} {t : Nat} {p q : ByteArray} (w : World) : (eqGuard op t x y (.string p) (.string q)).run cx.P w = .ok () w := by
  unfold eqGuard; cases op <;> rfl
theorem str_beq (p q : ByteArray) : (p.toList == q.toList) = decide (p = q) := by
  by_cases h : p = q
  · subst h; simp
  · simp only [h, decide_false, beq_eq_false_iff_ne]
    intro e
    rw [ByteArray.toList_eq, ByteArray.toList_eq] at e
    apply h
    cases p; cases q
    congr 1
    exact Array.ext' e
section
variable {t t' : Nat} {p q : ByteArray}
theorem yseql (hx : ev E x = some (.string p)) (hy : ev E y = some (.string q)) : Y cx ⟨some d, .binOp .eql t x y t', T, pos, af, none⟩ E M L (.bool (decide (p = q))) := fun a w hs ho => by simp only [execOp, hs.ev hx, hs.ev hy, Sem.run_bind, eqGuard_str, Result.andThen_ok, binOp, Op.stringOp, str_beq]; rfl
theorem jseql (hn : Nat.blt d cx.n = true) (hx : ev E x = some (.string p)) (hy : ev E y = some (.string q)) (hk : J cx ops Q rest ((d, .bool (decide (p = q))) :: E) M L) : J cx ops Q (⟨some d, .binOp .eql t x y t', T, pos, af, none⟩ :: rest) E M L := j_y hn (yseql hx hy) hk
theorem ysneq (hx : ev E x = some (.string p)) (hy : ev E y = some (.string q)) : Y cx ⟨some d, .binOp .neq t x y t', T, pos, af, none⟩ E M L (.bool (decide (p ≠ q))) := fun a w hs ho => by
    simp only [execOp, hs.ev hx, hs.ev hy, Sem.run_bind, eqGuard_str, Result.andThen_ok, binOp, Op.stringOp, str_beq]
    have : (!decide (p = q)) = decide (p ≠ q) := by by_cases h : p = q <;> simp [h]
    rw [this]; rfl
theorem jsneq (hn : Nat.blt d cx.n = true) (hx : ev E x = some (.string p)) (hy : ev E y = some (.string q)) (hk : J cx ops Q rest ((d, .bool (decide (p ≠ q))) :: E) M L) : J cx ops Q (⟨some d, .binOp .neq t x y t', T, pos, af, none⟩ :: rest) E M L := j_y hn (ysneq hx hy) hk
theorem yslss (hx : ev E x = some (.string p)) (hy : ev E y = some (.string q)) : Y cx ⟨some d, .binOp .lss t x y t', T, pos, af, none⟩ E M L (.bool (Op.bytesLess p.toList q.toList)) := fun a w hs ho => by simp only [execOp, hs.ev hx, hs.ev hy, Sem.run_bind, eqGuard_str, Result.andThen_ok, binOp, Op.stringOp]; rfl
theorem jslss (hn : Nat.blt d cx.n = true) (hx : ev E x = some (.string p)) (hy : ev E y = some (.string q)) (hk : J cx ops Q rest ((d, .bool (Op.bytesLess p.toList q.toList)) :: E) M L) : J cx ops Q (⟨some d, .binOp .lss t x y t', T, pos, af, none⟩ :: rest) E M L := j_y hn (yslss hx hy) hk
theorem ysgeq (hx : ev E x = some (.string p)) (hy : ev E y = some (.string q)) : Y cx ⟨some d, .binOp .geq t x y t', T, pos, af, none⟩ E M L (.bool (!Op.bytesLess p.toList q.toList)) := fun a w hs ho => by simp only [execOp, hs.ev hx, hs.ev hy, Sem.run_bind, eqGuard_str, Result.andThen_ok, binOp, Op.stringOp]; rfl
theorem jsgeq (hn : Nat.blt d cx.n = true) (hx : ev E x = some (.string p)) (hy : ev E y = some (.string q)) (hk : J cx ops Q rest ((d, .bool (!Op.bytesLess p.toList q.toList)) :: E) M L) : J cx ops Q (⟨some d, .binOp .geq t x y t', T, pos, af, none⟩ :: rest) E M L := j_y hn (ysgeq hx hy) hk
theorem yslen (hx : ev E x = some (.string p)) (hu : cx.P.underlying t = some .string) : Y cx ⟨some d, .call ⟨.builtin .len, #[x], #[t]⟩, T, pos, af, none⟩ E M L (.int .i64 p.size) := fun a w hs ho => by simp [execOp, hs.ev hx, resolve, invoke, builtin, Builtin.len_, run_underlying hu, goInt]
theorem jslen (hn : Nat.blt d cx.n = true) (hx : ev E x = some (.string p)) (hu : cx.P.underlying t = some .string) (hk : J cx ops Q rest ((d, .int .i64 p.size) :: E) M L) : J cx ops Q (⟨some d, .call ⟨.builtin .len, #[x], #[t]⟩, T, pos, af, none⟩ :: rest) E M L := j_y hn (yslen hx hu) hk
/-- a byte of a string -/
theorem ysidx {k : IntKind} {i : Int} {c : UInt8}  (hu : cx.P.underlying t = some .string) (hx : ev E x = some (.string p)) (hy : ev E y = some (.int k i))
    (h0 : 0 ≤ i) (hc : p[i.toNat]? = some c) : Y cx ⟨some d, .index t x y, T, pos, af, none⟩ E M L (.int .u8 c.toNat) := fun a w hs ho => by simp [execOp, hs.ev hx, hs.ev hy, Instr.index, asIntOf, run_underlying hu, h0, hc]
theorem jsidx {k : IntKind} {i : Int} {c : UInt8} (hn : Nat.blt d cx.n = true) (hu : cx.P.underlying t = some .string) (hx : ev E x = some (.string p)) (hy : ev E y = some (.int k i))
    (h0 : 0 ≤ i) (hc : p[i.toNat]? = some c) (hk : J cx ops Q rest ((d, .int .u8 c.toNat) :: E) M L) : J cx ops Q (⟨some d, .index t x y, T, pos, af, none⟩ :: rest) E M L := j_y hn (ysidx hu hx hy h0 hc) hk
end

/-! addresses -/
theorem yfa {t f B o off ft : Nat} {ag : Bool} {sz : Nat} [St : StI cx.P t f off ft] [Ty : TyI cx.P ft ag sz]  (hz : Nat.beq sz 0 = false)
    (hx : ev E x = some (.pointer (some ⟨B, o, none⟩))) : Y cx ⟨some d, .fieldAddr t x f, T, pos, af, none⟩ E M L (.pointer (some ⟨B, o + off, none⟩)) := fun a w hs ho => by
    obtain ⟨fs, F, h1, h2, h3, h4⟩ := St.h
    have hz' : ¬ sz = 0 := fun e => by subst e; simp at hz
    simp only [execOp, hs.ev hx, Instr.fieldAt, Sem.run_bind, run_underlying h1, Result.andThen_ok, h2, Instr.sureAddr, Sem.run_pure, fieldPlace, h4, run_sz, h3, hz', if_false, add_at]
theorem jfa {t f B o off ft : Nat} {ag : Bool} {sz : Nat} [St : StI cx.P t f off ft] [Ty : TyI cx.P ft ag sz] (hn : Nat.blt d cx.n = true) (hz : Nat.beq sz 0 = false)
    (hx : ev E x = some (.pointer (some ⟨B, o, none⟩))) (hk : J cx ops Q rest ((d, .pointer (some ⟨B, o + off, none⟩)) :: E) M L) : J cx ops Q (⟨some d, .fieldAddr t x f, T, pos, af, none⟩ :: rest) E M L := j_y hn (yfa hz hx) hk
/-! reading -/
/-- of an owned block: an aggregate, a cell -/
theorem yld {t sz B o B' : Nat} {c r : List Value} (i : Nat) [TyI cx.P t true sz]  (hx : ev E x = some (.pointer (some ⟨B, o, none⟩))) (hL : L[i]? = some (.blk B B' c))
    (hr : (c.drop o).take sz = r) (hl : r.length = sz) : Y cx ⟨some d, .load t x, T, pos, af, none⟩ E M L (.agg r.toArray) := fun a w hs ho => by
    have hB : w.heap[B]? = some (.cells c.toArray B' (0, 0)) := ho.at' hL
    have : ∀ j v, r[j]? = some v → w.cell? ⟨B, o + j, none⟩ = some v := fun j v hj => by
      rw [cell_of_heap hB, ← hj, ← hr, List.getElem?_take]
      have : j < sz := by have := (List.getElem?_eq_some_iff.1 hj).1; omega
      simp [this]
    simp only [execOp, hs.ev hx, Instr.loadAt, Instr.sureAddr, Sem.run_bind, Sem.run_pure, Result.andThen_ok, run_loadVar_agg w hl this]
theorem jld {t sz B o B' : Nat} {c r : List Value} (i : Nat) [TyI cx.P t true sz] (hn : Nat.blt d cx.n = true) (hx : ev E x = some (.pointer (some ⟨B, o, none⟩))) (hL : L[i]? = some (.blk B B' c))
    (hr : (c.drop o).take sz = r) (hl : r.length = sz) (hk : J cx ops Q rest ((d, .agg r.toArray) :: E) M L) : J cx ops Q (⟨some d, .load t x, T, pos, af, none⟩ :: rest) E M L := j_y hn (yld i hx hL hr hl) hk
theorem yld1 {t sz B o B' : Nat} {c : List Value} (i : Nat) [TyI cx.P t false sz]  (hx : ev E x = some (.pointer (some ⟨B, o, none⟩))) (hL : L[i]? = some (.blk B B' c))
    (hr : c[o]? = some v) : Y cx ⟨some d, .load t x, T, pos, af, none⟩ E M L (v) := fun a w hs ho => by
    have hB : w.heap[B]? = some (.cells c.toArray B' (0, 0)) := ho.at' hL
    have : w.cell? ⟨B, o, none⟩ = some v := by rw [cell_of_heap hB]; exact hr
    simp only [execOp, hs.ev hx, Instr.loadAt, Instr.sureAddr, Sem.run_bind, Sem.run_pure, Result.andThen_ok, run_loadVar_one w this]
theorem jld1 {t sz B o B' : Nat} {c : List Value} (i : Nat) [TyI cx.P t false sz] (hn : Nat.blt d cx.n = true) (hx : ev E x = some (.pointer (some ⟨B, o, none⟩))) (hL : L[i]? = some (.blk B B' c))
    (hr : c[o]? = some v) (hk : J cx ops Q rest ((d, v) :: E) M L) : J cx ops Q (⟨some d, .load t x, T, pos, af, none⟩ :: rest) E M L := j_y hn (yld1 i hx hL hr) hk
/-- of known memory -/
theorem ylm {t sz b o : Nat} {r : List Value} [TyI cx.P t true sz]  (hx : ev E x = some (.pointer (some ⟨b, o, none⟩)))
    (hm : ∀ j v, r[j]? = some v → M ⟨b, o + j, none⟩ = some v) (hl : r.length = sz) : Y cx ⟨some d, .load t x, T, pos, af, none⟩ E M L (.agg r.toArray) := fun a w hs ho => by
    have : ∀ j v, r[j]? = some v → w.cell? ⟨b, o + j, none⟩ = some v := fun j v hj => ho.mem _ _ (hm j v hj)
    simp only [execOp, hs.ev hx, Instr.loadAt, Instr.sureAddr, Sem.run_bind, Sem.run_pure, Result.andThen_ok, run_loadVar_agg w hl this]
theorem jlm {t sz b o : Nat} {r : List Value} [TyI cx.P t true sz] (hn : Nat.blt d cx.n = true) (hx : ev E x = some (.pointer (some ⟨b, o, none⟩)))
    (hm : ∀ j v, r[j]? = some v → M ⟨b, o + j, none⟩ = some v) (hl : r.length = sz) (hk : J cx ops Q rest ((d, .agg r.toArray) :: E) M L) : J cx ops Q (⟨some d, .load t x, T, pos, af, none⟩ :: rest) E M L := j_y hn (ylm hx hm hl) hk
theorem ylm1 {t sz b o : Nat} [TyI cx.P t false sz]  (hx : ev E x = some (.pointer (some ⟨b, o, none⟩)))
    (hm : M ⟨b, o, none⟩ = some v) : Y cx ⟨some d, .load t x, T, pos, af, none⟩ E M L (v) := fun a w hs ho => by
    simp only [execOp, hs.ev hx, Instr.loadAt, Instr.sureAddr, Sem.run_bind, Sem.run_pure, Result.andThen_ok, run_loadVar_one w (ho.mem _ _ hm)]
theorem jlm1 {t sz b o : Nat} [TyI cx.P t false sz] (hn : Nat.blt d cx.n = true) (hx : ev E x = some (.pointer (some ⟨b, o, none⟩)))
    (hm : M ⟨b, o, none⟩ = some v) (hk : J cx ops Q rest ((d, v) :: E) M L) : J cx ops Q (⟨some d, .load t x, T, pos, af, none⟩ :: rest) E M L := j_y hn (ylm1 hx hm) hk
/-- of a value -/
theorem yfield {t f off ft sz : Nat} {c r : List Value} [St : StI cx.P t f off ft] [TyI cx.P ft true sz]  (hx : ev E x = some (.agg c.toArray))
    (hr : (c.drop off).take sz = r) : Y cx ⟨some d, .field t x f, T, pos, af, none⟩ E M L (.agg r.toArray) := fun a w hs ho => by
    obtain ⟨fs, F, h1, h2, h3, h4⟩ := St.h
    have : c.toArray.extract off (off + sz) = r.toArray := by apply Array.ext'; rw [← hr]; simp [List.extract_eq_take_drop]
    simp only [execOp, hs.ev hx, Instr.field, Sem.run_bind, run_underlying h1, Result.andThen_ok, h2, asAgg, Sem.run_pure, part, h4, run_isAgg, if_true, run_sz, h3, this]
theorem jfield {t f off ft sz : Nat} {c r : List Value} [St : StI cx.P t f off ft] [TyI cx.P ft true sz] (hn : Nat.blt d cx.n = true) (hx : ev E x = some (.agg c.toArray))
    (hr : (c.drop off).take sz = r) (hk : J cx ops Q rest ((d, .agg r.toArray) :: E) M L) : J cx ops Q (⟨some d, .field t x f, T, pos, af, none⟩ :: rest) E M L := j_y hn (yfield hx hr) hk
theorem yfield1 {t f off ft sz : Nat} {c : List Value} [St : StI cx.P t f off ft] [TyI cx.P ft false sz]  (hx : ev E x = some (.agg c.toArray))
    (hr : c[off]? = some v) : Y cx ⟨some d, .field t x f, T, pos, af, none⟩ E M L (v) := fun a w hs ho => by
    obtain ⟨fs, F, h1, h2, h3, h4⟩ := St.h
    simp [execOp, hs.ev hx, Instr.field, run_underlying h1, h2, asAgg, part, h4, run_isAgg, h3, hr]
theorem jfield1 {t f off ft sz : Nat} {c : List Value} [St : StI cx.P t f off ft] [TyI cx.P ft false sz] (hn : Nat.blt d cx.n = true) (hx : ev E x = some (.agg c.toArray))
    (hr : c[off]? = some v) (hk : J cx ops Q rest ((d, v) :: E) M L) : J cx ops Q (⟨some d, .field t x f, T, pos, af, none⟩ :: rest) E M L := j_y hn (yfield1 hx hr) hk
/-- an element of an array's value -/
theorem yidx {t n e sz : Nat} {k : IntKind} {i : Int} {c r : List Value} [Ar : ArI cx.P t n e] [TyI cx.P e true sz]  (hx : ev E x = some (.agg c.toArray)) (hy : ev E y = some (.int k i))
    (h0 : 0 ≤ i) (h1 : i < n) (hr : (c.drop (i.toNat * sz)).take sz = r) : Y cx ⟨some d, .index t x y, T, pos, af, none⟩ E M L (.agg r.toArray) := fun a w hs ho => by
    have : c.toArray.extract (i.toNat * sz) (i.toNat * sz + sz) = r.toArray := by apply Array.ext'; rw [← hr]; simp [List.extract_eq_take_drop]
    simp only [execOp, hs.ev hx, hs.ev hy, Instr.index, asIntOf, Sem.run_bind, Sem.run_pure, run_underlying Ar.h, Result.andThen_ok, h0, h1, and_self, if_true, run_sz, part, run_isAgg, this]
theorem jidx {t n e sz : Nat} {k : IntKind} {i : Int} {c r : List Value} [Ar : ArI cx.P t n e] [TyI cx.P e true sz] (hn : Nat.blt d cx.n = true) (hx : ev E x = some (.agg c.toArray)) (hy : ev E y = some (.int k i))
    (h0 : 0 ≤ i) (h1 : i < n) (hr : (c.drop (i.toNat * sz)).take sz = r) (hk : J cx ops Q rest ((d, .agg r.toArray) :: E) M L) : J cx ops Q (⟨some d, .index t x y, T, pos, af, none⟩ :: rest) E M L := j_y hn (yidx hx hy h0 h1 hr) hk
theorem yidx1 {t n e sz : Nat} {k : IntKind} {i : Int} {c : List Value} [Ar : ArI cx.P t n e] [Ty : TyI cx.P e false sz] (hs1 : Nat.beq sz 1 = true)  (hx : ev E x = some (.agg c.toArray)) (hy : ev E y = some (.int k i))
    (h0 : 0 ≤ i) (h1 : i < n) (hr : c[i.toNat]? = some v) : Y cx ⟨some d, .index t x y, T, pos, af, none⟩ E M L (v) := fun a w hs ho => by
    obtain rfl : sz = 1 := Nat.eq_of_beq_eq_true hs1
    simp only [execOp, hs.ev hx, hs.ev hy, Instr.index, asIntOf, Sem.run_bind, Sem.run_pure, run_underlying Ar.h, Result.andThen_ok, h0, h1, and_self, if_true, run_sz, part, run_isAgg, Nat.mul_one, Bool.false_eq_true, if_false, List.getElem?_toArray, hr]
theorem jidx1 {t n e sz : Nat} {k : IntKind} {i : Int} {c : List Value} [Ar : ArI cx.P t n e] [Ty : TyI cx.P e false sz] (hs1 : Nat.beq sz 1 = true) (hn : Nat.blt d cx.n = true) (hx : ev E x = some (.agg c.toArray)) (hy : ev E y = some (.int k i))
    (h0 : 0 ≤ i) (h1 : i < n) (hr : c[i.toNat]? = some v) (hk : J cx ops Q rest ((d, v) :: E) M L) : J cx ops Q (⟨some d, .index t x y, T, pos, af, none⟩ :: rest) E M L := j_y hn (yidx1 hs1 hx hy h0 h1 hr) hk
/-- the address of an element of an array -/
theorem yia {t n e sz B o : Nat} {ag : Bool} {k : IntKind} {i : Int} [Ar : ArI cx.P t n e] [TyI cx.P e ag sz]  (hx : ev E x = some (.pointer (some ⟨B, o, none⟩))) (hy : ev E y = some (.int k i))
    (h0 : 0 ≤ i) (h1 : i < n) : Y cx ⟨some d, .indexAddr t x y, T, pos, af, none⟩ E M L (.pointer (some ⟨B, o + i.toNat * sz, none⟩)) := fun a w hs ho => by
    simp only [execOp, hs.ev hx, hs.ev hy, Instr.indexAt, asIntOf, Sem.run_bind, Sem.run_pure, run_underlying Ar.h, Result.andThen_ok, Instr.sureAddr, h0, h1, and_self, if_true, run_sz, add_at]
theorem jia {t n e sz B o : Nat} {ag : Bool} {k : IntKind} {i : Int} [Ar : ArI cx.P t n e] [TyI cx.P e ag sz] (hn : Nat.blt d cx.n = true) (hx : ev E x = some (.pointer (some ⟨B, o, none⟩))) (hy : ev E y = some (.int k i))
    (h0 : 0 ≤ i) (h1 : i < n) (hk : J cx ops Q rest ((d, .pointer (some ⟨B, o + i.toNat * sz, none⟩)) :: E) M L) : J cx ops Q (⟨some d, .indexAddr t x y, T, pos, af, none⟩ :: rest) E M L := j_y hn (yia hx hy h0 h1) hk
/-- the address of an element of a slice -/
theorem yis {t e sz b o n cap : Nat} {ag : Bool} {k : IntKind} {i : Int} [Sl : SlI cx.P t e] [TyI cx.P e ag sz]  (hx : ev E x = some (.slice (some ⟨b, o, none⟩) n cap)) (hy : ev E y = some (.int k i))
    (h0 : 0 ≤ i) (h1 : i < n) : Y cx ⟨some d, .indexAddr t x y, T, pos, af, none⟩ E M L (.pointer (some ⟨b, o + i.toNat * sz, none⟩)) := fun a w hs ho => by
    simp only [execOp, hs.ev hx, hs.ev hy, Instr.indexAt, asIntOf, Sem.run_bind, Sem.run_pure, run_underlying Sl.h, Result.andThen_ok, h0, h1, and_self, if_true, run_sz, add_at]
theorem jis {t e sz b o n cap : Nat} {ag : Bool} {k : IntKind} {i : Int} [Sl : SlI cx.P t e] [TyI cx.P e ag sz] (hn : Nat.blt d cx.n = true) (hx : ev E x = some (.slice (some ⟨b, o, none⟩) n cap)) (hy : ev E y = some (.int k i))
    (h0 : 0 ≤ i) (h1 : i < n) (hk : J cx ops Q rest ((d, .pointer (some ⟨b, o + i.toNat * sz, none⟩)) :: E) M L) : J cx ops Q (⟨some d, .indexAddr t x y, T, pos, af, none⟩ :: rest) E M L := j_y hn (yis hx hy h0 h1) hk
theorem ylen {t e : Nat} {A : Option Addr} {n cap : Nat} [Sl : SlI cx.P t e]  (hx : ev E x = some (.slice A n cap)) : Y cx ⟨some d, .call ⟨.builtin .len, #[x], #[t]⟩, T, pos, af, none⟩ E M L (.int .i64 n) := fun a w hs ho => by simp [execOp, hs.ev hx, resolve, invoke, builtin, Builtin.len_, run_underlying Sl.h, goInt]
theorem jlen {t e : Nat} {A : Option Addr} {n cap : Nat} [Sl : SlI cx.P t e] (hn : Nat.blt d cx.n = true) (hx : ev E x = some (.slice A n cap)) (hk : J cx ops Q rest ((d, .int .i64 n) :: E) M L) : J cx ops Q (⟨some d, .call ⟨.builtin .len, #[x], #[t]⟩, T, pos, af, none⟩ :: rest) E M L := j_y hn (ylen hx) hk
theorem ymax {k : IntKind} {t1 t2 : Nat} {m n : Int}  (hx : ev E x = some (.int k m)) (hy : ev E y = some (.int k n)) : Y cx ⟨some d, .call ⟨.builtin .max, #[x, y], #[t1, t2]⟩, T, pos, af, none⟩ E M L (.int k (max m n)) := fun a w hs ho => by
    have : (if n > m then n else m) = max m n := by omega
    simp [execOp, hs.ev hx, hs.ev hy, resolve, invoke, builtin, Builtin.max_, Builtin.max2, this]
theorem jmax {k : IntKind} {t1 t2 : Nat} {m n : Int} (hn : Nat.blt d cx.n = true) (hx : ev E x = some (.int k m)) (hy : ev E y = some (.int k n)) (hk : J cx ops Q rest ((d, .int k (max m n)) :: E) M L) : J cx ops Q (⟨some d, .call ⟨.builtin .max, #[x, y], #[t1, t2]⟩, T, pos, af, none⟩ :: rest) E M L := j_y hn (ymax hx hy) hk
theorem ymin {k : IntKind} {t1 t2 : Nat} {m n : Int}  (hx : ev E x = some (.int k m)) (hy : ev E y = some (.int k n)) : Y cx ⟨some d, .call ⟨.builtin .min, #[x, y], #[t1, t2]⟩, T, pos, af, none⟩ E M L (.int k (min m n)) := fun a w hs ho => by
    have : (if n < m then n else m) = min m n := by omega
    simp [execOp, hs.ev hx, hs.ev hy, resolve, invoke, builtin, Builtin.min_, Builtin.min2, this]
theorem jmin {k : IntKind} {t1 t2 : Nat} {m n : Int} (hn : Nat.blt d cx.n = true) (hx : ev E x = some (.int k m)) (hy : ev E y = some (.int k n)) (hk : J cx ops Q rest ((d, .int k (min m n)) :: E) M L) : J cx ops Q (⟨some d, .call ⟨.builtin .min, #[x, y], #[t1, t2]⟩, T, pos, af, none⟩ :: rest) E M L := j_y hn (ymin hx hy) hk
/-! writing -/
theorem j_skip {op : Op} {M' : Mem} {L' : List Ent}
    (h : ∀ a w, Sat cx.ds cx.n E a → Own cx M w L → ∃ w', (execOp a.eval ⟨none, op, T, pos, af, none⟩).run cx.P w = .ok .skip w' ∧ Own cx M' w' L')
    (hk : J cx ops Q rest E M' L') : J cx ops Q (⟨none, op, T, pos, af, none⟩ :: rest) E M L :=
  j_op rfl fun a w hs ho K hK => by
    obtain ⟨w', h1, h2⟩ := h a w hs ho
    unfold Oper.wp
    rw [h1, Oper.upon_skip]
    exact hK _ _ (hk _ _ hs h2)
/-- an operation that gives a value in another world -/
theorem j_new {op : Op} {M' : Mem} (h : ∀ a w, Sat cx.ds cx.n E a → Own cx M w L → ∃ v w' L', (execOp a.eval ⟨some d, op, T, pos, af, none⟩).run cx.P w = .ok (.value v) w' ∧ Own cx M' w' L' ∧ J cx ops Q rest ((d, v) :: E) M' L')
    (hn : Nat.blt d cx.n = true) : J cx ops Q (⟨some d, op, T, pos, af, none⟩ :: rest) E M L :=
  j_op rfl fun a w hs ho K hK => by
    obtain ⟨v, w', L', h1, h2, h3⟩ := h a w hs ho
    unfold Oper.wp
    rw [h1, Oper.upon_value]
    exact hK _ _ (h3 _ _ (hs.put (by simpa using hn) v) h2)
theorem all_one {r : List Value} (h : r.all Value.oneCell' = true) : ∀ v ∈ r, v.oneCell' = true := fun v hv => List.all_eq_true.1 h v hv
theorem run_storeVar_at {P : Program} {w : World} {t sz B o T' : Nat} {ag : Bool} {c r : List Value} {v : Value} [TyI P t ag sz] (hB : w.heap[B]? = some (.cells c.toArray T' (0, 0))) (hv : v.cells = r.toArray) (hl : r.length = sz)
    (h1 : r.all Value.oneCell' = true) (hb : o + sz ≤ c.length) : (storeVar t ⟨B, o, none⟩ v).run P w = .ok () (w.setRow B (c.take o ++ r ++ c.drop (o + sz)).toArray) := by
  have hst := run_storeCells_at P B o T' r 0 c.toArray w hB (by simp; omega) (all_one h1)
  unfold storeVar
  simp only [Sem.run_bind, run_sz, Result.andThen_ok, hv, List.size_toArray, hl, ne_eq, not_true_eq_false, if_false, Sem.run_pure]
  simpa [hl, List.append_assoc] using hst
theorem jst {t sz B o T' : Nat} {ag : Bool} {c r c' : List Value} (i : Nat) [TyI cx.P t ag sz] (hx : ev E x = some (.pointer (some ⟨B, o, none⟩))) (hL : L[i]? = some (.blk B T' c)) (hy : ev E y = some v)
    (hv : v.cells = r.toArray) (hl : r.length = sz) (h1 : r.all Value.oneCell' = true) (hb : o + sz ≤ c.length) (hc : c.take o ++ r ++ c.drop (o + sz) = c')
    (hk : J cx ops Q rest E M (L.set i (.blk B T' c'))) : J cx ops Q (⟨none, .store t x y, T, pos, af, none⟩ :: rest) E M L :=
  j_skip (M' := M) (L' := L.set i (.blk B T' c')) (fun a w hs ho => by
    have hB : w.heap[B]? = some (.cells c.toArray T' (0, 0)) := ho.at' hL
    refine ⟨_, ?_, ho.set hL c'⟩
    rw [← hc]
    simp only [execOp, hs.ev hx, hs.ev hy, Instr.storeAt, Instr.sureAddr, Sem.run_bind, Sem.run_pure, Result.andThen_ok, run_storeVar_at hB hv hl h1 hb]) hk
/-- a whole variable -/
theorem jstw {t sz B T' : Nat} {ag : Bool} {c r : List Value} (i : Nat) [TyI cx.P t ag sz] (hx : ev E x = some (.pointer (some ⟨B, 0, none⟩))) (hL : L[i]? = some (.blk B T' c)) (hy : ev E y = some v)
    (hv : v.cells = r.toArray) (hl : r.length = sz) (h1 : r.all Value.oneCell' = true) (hb : c.length = sz)
    (hk : J cx ops Q rest E M (L.set i (.blk B T' r))) : J cx ops Q (⟨none, .store t x y, T, pos, af, none⟩ :: rest) E M L :=
  jst i hx hL hy hv hl h1 (by omega) (by simp [← hb]) hk
theorem jbox {t : Nat} {c : List Value} (hn : Nat.blt d cx.n = true) (hx : ev E x = some v) (hv : v.cells = c.toArray) (hk : ∀ B, J cx ops Q rest ((d, .pointer (some ⟨B, 0, none⟩)) :: E) M (.blk B t c :: L)) :
    J cx ops Q (⟨some d, .box t x, T, pos, af, none⟩ :: rest) E M L :=
  j_new (M' := M) (fun a w hs ho => ⟨.pointer (some ⟨w.heap.size, 0, none⟩), _, _, by simp [execOp, hs.ev hx, Instr.box, newVar, newRow, hv], ho.alloc t c, hk _⟩) hn
theorem jalloc {t : Nat} {c : List Value} [Z : ZeI cx.P t c] (hn : Nat.blt d cx.n = true) (hk : ∀ B, J cx ops Q rest ((d, .pointer (some ⟨B, 0, none⟩)) :: E) M (.blk B t c :: L)) :
    J cx ops Q (⟨some d, .alloc t, T, pos, af, none⟩ :: rest) E M L :=
  j_new (M' := M) (fun a w hs ho => by
    obtain ⟨z, hz, hc⟩ := run_zero (P := cx.P) w (T := t)
    exact ⟨.pointer (some ⟨w.heap.size, 0, none⟩), _, _, by simp [execOp, Instr.alloc, newVar, newRow, hz, hc], ho.alloc t c, hk _⟩) hn

/-! guards -/
theorem jg {j t : Nat} {want b : Bool} {dst : Option Nat} {op : Op} (hd : (ops[j]?).bind (·.dst) = some t) (hb : find E t = some (.bool b)) (hw : b = want)
    (hk : J cx ops Q (⟨dst, op, T, pos, af, none⟩ :: rest) E M L) : J cx ops Q (⟨dst, op, T, pos, af, some (j, want)⟩ :: rest) E M L := fun a w hs ho => by
  have h1 := hk a w hs ho
  have hy : yielded ops a.tmps j = some b := by unfold yielded; rw [hd]; simp [hs.g t _ hb]
  unfold wpList at h1 ⊢
  subst hw
  simp only [Region.wanted, hy, beq_self_eq_true, if_true] at h1 ⊢
  exact h1
theorem jg_off {j t : Nat} {want b : Bool} {op : Op} (hn : Nat.blt d cx.n = true) (hd : (ops[j]?).bind (·.dst) = some t) (hb : find E t = some (.bool b)) (hw : b = !want)
    (hk : J cx ops Q rest ((d, undef) :: E) M L) : J cx ops Q (⟨some d, op, T, pos, af, some (j, want)⟩ :: rest) E M L := fun a w hs ho => by
  have hy : yielded ops a.tmps j = some b := by unfold yielded; rw [hd]; simp [hs.g t _ hb]
  unfold wpList
  have : ((some b : Option Bool) == some want) = false := by subst hw; cases want <;> rfl
  simp only [Region.wanted, hy, this, Bool.false_eq_true, if_false]
  exact hk _ _ (hs.put (by simpa using hn) undef) ho
end
end Go.Proofs.YtihgpbpcbbgdiaaGreat
