/- Several texts in one. -/
import Derived.Test.YtihgpbpcbbgdiaaGreatOrd6
import Derived.ChangeKeysEq
/- Slices: what is known of them, compared with nil; rows opened and shut; elements of a constant length. -/
namespace Go.Proofs.YtihgpbpcbbgdiaaGreat
open Go.RowKit
set_option linter.unusedVariables false
set_option linter.unusedSimpArgs false
theorem sub_v {E : Env} {k : Nat} {v v' : Value} (h : find E k = some v') (e : v' = v) : find E k = some v := e ▸ h
theorem put_nest2' {c1 rs x : List Value} {o : Nat} {c' : List Value} (h : c1.take o ++ x ++ c1.drop (o + x.length) = c') (ho : o + x.length ≤ c1.length) : (c1 ++ rs).take o ++ x ++ (c1 ++ rs).drop (o + x.length) = c' ++ rs := by
  rw [List.take_append_of_le_length (by omega), List.drop_append_of_le_length (by omega), ← h]
  simp only [List.append_assoc]
@[irreducible] def ix {α : Type} (z : α) (xs : List α) (i : Nat) : α := xs.getD i z
theorem ix_get {α : Type} {xs : List α} {z : α} {i : Nat} (h : i < xs.length) : xs[i]? = some (ix z xs i) := by
  unfold ix; rw [List.getD_eq_getElem?_getD, List.getElem?_eq_getElem h]; rfl
theorem ix_eq {α : Type} {xs : List α} {z : α} {i : Nat} (h : i < xs.length) : ix z xs i = xs[i] := by
  have := ix_get (z := z) h; rw [List.getElem?_eq_getElem h] at this; exact (Option.some.inj this).symm
theorem foldl_take {α β : Type} {g : β → α → β} {b : β} {xs : List α} {z : α} {k : Nat} (h : k < xs.length) : g ((xs.take k).foldl g b) (ix z xs k) = (xs.take (k + 1)).foldl g b := by
  rw [List.take_add_one, ix_get (z := z) h, List.foldl_append]; rfl
theorem getD_get {α : Type} {xs : List α} {z : α} {i : Nat} (h : i < xs.length) : xs[i]? = some (xs.getD i z) := by
  rw [List.getD_eq_getElem?_getD, List.getElem?_eq_getElem h]; rfl
section
variable {α : Type} {f : α → List Value} {k : Nat} (hk : ∀ x, (f x).length = k)
include hk
theorem flatk_len (xs : List α) : (xs.flatMap f).length = xs.length * k := by
  induction xs with
  | nil => simp
  | cons a l ih => rw [List.flatMap_cons, List.length_append, hk, ih, List.length_cons, Nat.succ_mul]; omega
theorem flatk_part : ∀ (xs : List α) {i : Nat} {x : α}, xs[i]? = some x → ((xs.flatMap f).drop (i * k)).take k = f x
  | [], _, _, h => by cases h
  | a :: l, 0, v, h => by cases h; rw [Nat.zero_mul, List.drop_zero, List.flatMap_cons]; exact take_app (hk _)
  | a :: l, i + 1, v, h => by
    rw [List.flatMap_cons, Nat.succ_mul, Nat.add_comm, drop_drop_app (hk _)]
    exact flatk_part l h
theorem flatk_put : ∀ (xs : List α) {i : Nat} {x : α}, i < xs.length → (xs.flatMap f).take (i * k) ++ f x ++ (xs.flatMap f).drop (i * k + k) = (xs.set i x).flatMap f
  | [], _, _, h => by cases h
  | a :: l, 0, v, h => by
    rw [Nat.zero_mul, List.flatMap_cons, Nat.zero_add, drop_app (hk _)]; rfl
  | a :: l, i + 1, v, h => by
    rw [List.flatMap_cons, Nat.succ_mul, show i * k + k + k = k + (i * k + k) by omega, drop_drop_app (hk _), show i * k + k = k + i * k by omega, List.take_append, hk, List.take_of_length_le (by rw [hk]; omega), Nat.add_sub_cancel_left]
    rw [List.set_cons_succ, List.flatMap_cons, ← flatk_put l (i := i) (x := v) (by simpa using h), List.append_assoc, List.append_assoc, List.append_assoc, Nat.add_comm (i * k) k]
end
theorem flatk_get {α : Type} {f : α → List Value} {k : Nat} (hk : ∀ x, (f x).length = k) {xs : List α} {rs : List Value} {i o : Nat} {v : Value} {z : α} (hi : i < xs.length) (hv : (f (ix z xs i))[o]? = some v) : (xs.flatMap f ++ rs)[0 + i * k + o]? = some v := by
  have ho : o < k := by have := (List.getElem?_eq_some_iff.1 hv).1; rw [hk] at this; exact this
  have hlen : i * k + k ≤ (xs.flatMap f).length := by rw [flatk_len hk, ← Nat.succ_mul]; exact Nat.mul_le_mul_right _ hi
  rw [Nat.zero_add, List.getElem?_append_left (by omega)]
  have := flatk_part hk xs (ix_get (z := z) hi)
  rw [← this, List.getElem?_take] at hv
  simp [ho] at hv
  exact hv
theorem flatk_getw {α : Type} {f : α → List Value} {k : Nat} (hk : ∀ x, (f x).length = k) {xs : List α} {rs : List Value} {i : Nat} {z : α} (hi : i < xs.length) : ((xs.flatMap f ++ rs).drop (0 + i * k)).take k = f (ix z xs i) := by
  have hlen : i * k + k ≤ (xs.flatMap f).length := by rw [flatk_len hk, ← Nat.succ_mul]; exact Nat.mul_le_mul_right _ hi
  rw [Nat.zero_add, List.drop_append_of_le_length (by omega), List.take_append_of_le_length (by rw [List.length_drop]; omega)]
  exact flatk_part hk xs (ix_get (z := z) hi)
theorem flatk_put1 {α : Type} {f : α → List Value} {k : Nat} (hk : ∀ x, (f x).length = k) {xs : List α} {rs : List Value} {i o : Nat} {v : Value} {z x' : α} (hi : i < xs.length) (ho : o + 1 ≤ k) (hx : (f (ix z xs i)).take o ++ [v] ++ (f (ix z xs i)).drop (o + 1) = f x') :
    (xs.flatMap f ++ rs).take (0 + i * k + o) ++ [v] ++ (xs.flatMap f ++ rs).drop (0 + i * k + o + 1) = (xs.set i x').flatMap f ++ rs := by
  have hlen : i * k + k ≤ (xs.flatMap f).length := by rw [flatk_len hk, ← Nat.succ_mul]; exact Nat.mul_le_mul_right _ hi
  rw [Nat.zero_add]
  have hp := flatk_part hk xs (ix_get (z := z) hi)
  have e : (xs.flatMap f).take (i * k + o) ++ [v] ++ (xs.flatMap f).drop (i * k + o + 1) = (xs.set i x').flatMap f := by
    have h1 : (xs.flatMap f).take (i * k + o) = (xs.flatMap f).take (i * k) ++ (f (ix z xs i)).take o := by
      rw [← hp, List.take_take, Nat.min_eq_left (by omega), List.take_add]
    have h2 : (xs.flatMap f).drop (i * k + o + 1) = (f (ix z xs i)).drop (o + 1) ++ (xs.flatMap f).drop (i * k + k) := by
      rw [← hp, Nat.add_assoc, ← List.drop_drop, ← List.drop_drop (i := k)]
      generalize hd : (xs.flatMap f).drop (i * k) = d
      have hl : k ≤ d.length := by rw [← hd, List.length_drop]; omega
      rw [← List.drop_append_of_le_length (by rw [List.length_take]; omega), List.take_append_drop]
    rw [h1, h2, ← flatk_put hk xs hi, ← hx]
    simp only [List.append_assoc]
  exact put_nest2' (x := [v]) e (by show i * k + o + 1 ≤ _; omega)
theorem Rows.flat_eq {α : Type} {r : Rep α} {M : Mem} {f : α → List Value} (hf : ∀ x c, r.R M x c → c = f x) : ∀ {xs : List α} {c : List Value}, Rows r M xs c → c = xs.flatMap f
  | [], c, h => by have := h.len; simpa using this
  | x :: xs, c, h => by
    have h0 := h.el 0 x rfl
    rw [Nat.zero_mul, List.drop_zero] at h0
    have e0 := hf _ _ h0
    have hl := r.len h0
    have ht : Rows r M xs (c.drop r.sz) := ⟨by rw [List.length_drop, h.len, List.length_cons, Nat.succ_mul]; omega, by
      rw [List.all_eq_true]; intro v hv; exact List.all_eq_true.1 h.one v (List.mem_of_mem_drop hv), fun i y hy => by
      have := h.el (i + 1) y hy
      rw [Nat.succ_mul, Nat.add_comm, ← List.drop_drop] at this
      exact this⟩
    rw [List.flatMap_cons, ← Rows.flat_eq hf ht, ← e0, List.take_append_drop]
section
variable {cx : Cx} {Q : Post} {E : Env} {M : Mem} {L : List Ent} {ops : Array Oper} {d T : Nat} {pos : String} {af : Array Edge} {rest : List Oper} {x y z : Operand} {v u : Value}
/-- an element, whole, whose cells are told -/
theorem ylq {α : Type} {r : Rep α} {t sz cap : Nat} {A : Option Addr} {xs : List α} {i : Nat} {e : α} {q : List Value} [TyI cx.P t true sz] (hR : SlR r M A cap xs) (hi : xs[i]? = some e) (hq : ∀ c, r.R M e c → c = q) (hz : r.sz = sz)
    (hx : ev E x = some (.pointer (eptr A (i * sz)))) : Y cx ⟨some d, .load t x, T, pos, af, none⟩ E M L (.agg q.toArray) := by
  obtain ⟨c, h1, h2⟩ := yle (cx := cx) (t := t) (E := E) (x := x) (d := d) (T := T) (pos := pos) (af := af) (L := L) hR hi hz hx
  rw [← hq c h1]; exact h2
theorem jlq {α : Type} {r : Rep α} {t sz cap : Nat} {A : Option Addr} {xs : List α} {i : Nat} {e : α} {q : List Value} [TyI cx.P t true sz] (hn : Nat.blt d cx.n = true) (hR : SlR r M A cap xs) (hi : xs[i]? = some e) (hq : ∀ c, r.R M e c → c = q) (hz : r.sz = sz)
    (hx : ev E x = some (.pointer (eptr A (i * sz)))) (hk : J cx ops Q rest ((d, .agg q.toArray) :: E) M L) : J cx ops Q (⟨some d, .load t x, T, pos, af, none⟩ :: rest) E M L := j_y hn (ylq hR hi hq hz hx) hk
theorem equalIn_slnil {P : Program} {t e n cap : Nat} {A : Option Addr} (d : Nat) (hu : P.underlying t = some (.slice e)) (w : World) : (Op.equalIn (d + 1) t (.slice A n cap) (.slice none 0 0)).run P w = .ok A.isNone w := by
  unfold Op.equalIn
  rw [Sem.run_bind, run_underlying hu, Result.andThen_ok]
  cases A <;> rfl
theorem ysnil {t t' e n cap : Nat} {A : Option Addr} [Sl : SlI cx.P t e] (hx : ev E x = some (.slice A n cap)) (hy : ev E y = some (.slice none 0 0)) : Y cx ⟨some d, .binOp .eql t x y t', T, pos, af, none⟩ E M L (.bool A.isNone) := fun a w hs ho => by
    have h1 : (Op.equal t (.slice A n cap) (.slice none 0 0)).run cx.P w = .ok A.isNone w := equalIn_slnil 9999 Sl.h w
    have h2 : (eqGuard .eql t x y (.slice A n cap) (.slice none 0 0)).run cx.P w = .ok () w := rfl
    have h3 : (binOp .eql t (.slice A n cap) (.slice none 0 0)).run cx.P w = .ok (.bool A.isNone) w := by
      show (do let b ← Op.equal t (.slice A n cap) (.slice none 0 0); pure (Value.bool b) : Sem Value).run cx.P w = _
      rw [Sem.run_bind, h1]; rfl
    simp only [execOp, hs.ev hx, hs.ev hy, Sem.run_bind, h2, h3, Result.andThen_ok, Sem.run_pure]
theorem jsnil {t t' e n cap : Nat} {A : Option Addr} [Sl : SlI cx.P t e] (hn : Nat.blt d cx.n = true) (hx : ev E x = some (.slice A n cap)) (hy : ev E y = some (.slice none 0 0)) (hk : J cx ops Q rest ((d, .bool A.isNone) :: E) M L) : J cx ops Q (⟨some d, .binOp .eql t x y t', T, pos, af, none⟩ :: rest) E M L := j_y hn (ysnil hx hy) hk
/-- a row that is not empty is a block -/
theorem Own.openrow {w : World} {T' sz n : Nat} {c : List Value} (ho : Own cx M w (.row v T' sz n c :: L)) (h0 : 0 < n) : ∃ B cap rs, v = .slice (some ⟨B, 0, none⟩) n cap ∧ n ≤ cap ∧ rs.length = (cap - n) * sz ∧ c.length = n * sz ∧ Own cx M w (.blk B T' (c ++ rs) :: L) := by
  have hrow := ho.at' (i := 0) rfl
  rcases hrow.2 with ⟨rfl, A, rfl⟩ | ⟨B, cap, rs, rfl, h1, h2, h3, h4⟩
  · omega
  · exact ⟨B, cap, rs, rfl, h2, h3, hrow.1, ho.alter (by simp [Ent.bs, Nat.ne_of_gt h1]) h4⟩
theorem j_open {T' sz n : Nat} {c : List Value} (h0 : 0 < n) (hk : ∀ B cap rs, v = .slice (some ⟨B, 0, none⟩) n cap → n ≤ cap → rs.length = (cap - n) * sz → c.length = n * sz → J cx ops Q rest E M (.blk B T' (c ++ rs) :: L)) : J cx ops Q rest E M (.row v T' sz n c :: L) := fun a w hs ho =>
  let ⟨B, cap, rs, h1, h2, h3, h4, h5⟩ := ho.openrow h0
  hk B cap rs h1 h2 h3 h4 a w hs h5
theorem jc_open {cc : Code} {T' sz n : Nat} {c : List Value} (h0 : 0 < n) (hk : ∀ B cap rs, v = .slice (some ⟨B, 0, none⟩) n cap → n ≤ cap → rs.length = (cap - n) * sz → c.length = n * sz → JC cx cc Q E M (.blk B T' (c ++ rs) :: L)) : JC cx cc Q E M (.row v T' sz n c :: L) := fun a w hs ho =>
  let ⟨B, cap, rs, h1, h2, h3, h4, h5⟩ := ho.openrow h0
  hk B cap rs h1 h2 h3 h4 a w hs h5
theorem Own.shutrow {w : World} {B T' sz n cap : Nat} {c rs : List Value} (ho : Own cx M w (.blk B T' (c ++ rs) :: L)) (h0 : 0 < n) (h1 : n ≤ cap) (h2 : rs.length = (cap - n) * sz) (h3 : c.length = n * sz) : Own cx M w (.row (.slice (some ⟨B, 0, none⟩) n cap) T' sz n c :: L) :=
  ho.alter (by simp [Ent.bs]; omega) (row_of h3 (by omega) h1 h2 (ho.at' (i := 0) rfl))
theorem j_shut {B T' sz n cap : Nat} {c rs : List Value} (h0 : 0 < n) (h1 : n ≤ cap) (h2 : rs.length = (cap - n) * sz) (h3 : c.length = n * sz) (hk : J cx ops Q rest E M (.row (.slice (some ⟨B, 0, none⟩) n cap) T' sz n c :: L)) : J cx ops Q rest E M (.blk B T' (c ++ rs) :: L) := fun a w hs ho => hk a w hs (ho.shutrow h0 h1 h2 h3)
theorem jc_shut {cc : Code} {B T' sz n cap : Nat} {c rs : List Value} (h0 : 0 < n) (h1 : n ≤ cap) (h2 : rs.length = (cap - n) * sz) (h3 : c.length = n * sz) (hk : JC cx cc Q E M (.row (.slice (some ⟨B, 0, none⟩) n cap) T' sz n c :: L)) : JC cx cc Q E M (.blk B T' (c ++ rs) :: L) := fun a w hs ho => hk a w hs (ho.shutrow h0 h1 h2 h3)
theorem jp_shut {e : Exit} {B T' sz n cap : Nat} {c rs : List Value} (h0 : 0 < n) (h1 : n ≤ cap) (h2 : rs.length = (cap - n) * sz) (h3 : c.length = n * sz) (hk : JP cx Q e E M (.row (.slice (some ⟨B, 0, none⟩) n cap) T' sz n c :: L)) : JP cx Q e E M (.blk B T' (c ++ rs) :: L) := fun a w hs ho => hk a w hs (ho.shutrow h0 h1 h2 h3)
theorem jp_nilrow {e : Exit} (A : Option Addr) (T' sz : Nat) (hk : JP cx Q e E M (.row (.slice A 0 0) T' sz 0 [] :: L)) : JP cx Q e E M L := fun a w hs ho =>
  hk a w hs (ho.cons0 (by cases A <;> rfl) ⟨by simp, .inl ⟨rfl, A, rfl⟩⟩)
theorem jp_perm' {e : Exit} {L' : List Ent} (h : L.Perm L') (hk : JP cx Q e E M L') : JP cx Q e E M L := jp_perm h hk
/-- an index, in an open row -/
theorem put_nest2 {c1 rs x : List Value} {o : Nat} {c' : List Value} (h : c1.take o ++ x ++ c1.drop (o + x.length) = c') (ho : o + x.length ≤ c1.length) : (c1 ++ rs).take o ++ x ++ (c1 ++ rs).drop (o + x.length) = c' ++ rs := by
  rw [List.take_append_of_le_length (by omega), List.drop_append_of_le_length (by omega), ← h]
  simp only [List.append_assoc]
end
end Go.Proofs.YtihgpbpcbbgdiaaGreat

/- Maps that the code makes: made, written at a key that is new, read. -/
namespace Go.Proofs.YtihgpbpcbbgdiaaGreat
open Go.RowKit
set_option linter.unusedVariables false
set_option linter.unusedSimpArgs false
theorem Own.putObj {cx : Cx} {M : Mem} {w : World} {L : List Ent} (ho : Own cx M w L) {i B : Nat} {e e' : Ent} (h : L[i]? = some e) (hb : e.bs = [B]) (hb' : e'.bs = [B]) (o : Obj) (he' : e'.holds { w with heap := w.heap.setIfInBounds B o }) :
    Own cx M { w with heap := w.heap.setIfInBounds B o } (L.set i e') := by
  have hoth : ∀ k, k ≠ B → ({ w with heap := w.heap.setIfInBounds B o } : World).heap[k]? = w.heap[k]? := fun k hk => by
    simp only [Array.getElem?_setIfInBounds]
    rw [if_neg (Ne.symm hk)]
  have hbl : blks (L.set i e') = blks L := blks_set h (hb'.trans hb.symm)
  have hmB : B ∈ blks L := mem_blks h (by simp [hb])
  refine ⟨ho.os, ho.tape, ho.output, ho.dr, ?_, ?_, ?_, ho.new, ho.old, ?_, ?_, ?_, ?_⟩
  · have := ho.size; simpa using this
  · intro k hk hn
    by_cases e0 : k = B
    · subst e0
      rcases ho.brf _ hmB with hb | hb
      · exact absurd hb hn
      · omega
    · rw [hoth k e0]; exact ho.keep k hk hn
  · intro a v hv
    have h1 := ho.off a v hv
    have h2 := ho.mem a v hv
    have : a.block ≠ B := fun e => h1 (e ▸ hmB)
    rw [World.cell?_of_block (w := w) (hoth a.block this)]
    exact h2
  · intro a v hv; rw [hbl]; exact ho.off a v hv
  · intro x hx
    obtain ⟨j, hj⟩ := List.getElem?_of_mem hx
    rw [List.getElem?_set] at hj
    by_cases hij : i = j
    · subst hij
      have hlt : i < L.length := (List.getElem?_eq_some_iff.1 h).1
      simp [hlt] at hj
      subst hj
      exact he'
    · simp [hij] at hj
      have hd := nd_off ho.nd i j _ _ h hj hij B (by simp [hb])
      exact holds_of_heap (fun b hb => hoth b (fun e' => hd (e' ▸ hb))) (ho.at' hj)
  · rw [hbl]; exact ho.nd
  · rw [hbl]; exact ho.brf
theorem Own.allocMap {cx : Cx} {M : Mem} {w : World} {L : List Ent} (ho : Own cx M w L) : Own cx M (w.alloc (.map #[] 0)) (.mp w.heap.size [] :: L) := by
  have hlt := ho.lt
  have hnew : (w.alloc (.map #[] 0)).heap[w.heap.size]? = some (.map #[] 0) := heap_alloc_new _ _
  refine ⟨ho.os, ho.tape, ho.output, ho.dr, ?_, ?_, ?_, ho.new, ho.old, ?_, ?_, ?_, ?_⟩
  · have := ho.size; simp; omega
  · intro k hk hn
    have := ho.size
    rw [heap_alloc_lt _ _ _ (by omega)]; exact ho.keep k hk hn
  · intro a v hv
    have h2 := ho.mem a v hv
    rw [World.cell?_of_block (w := w) (heap_alloc_lt _ _ _ (cell_lt h2))]
    exact h2
  · intro a v hv hm
    simp only [blks, List.flatMap_cons, Ent.bs, List.singleton_append, List.mem_cons] at hm
    rcases hm with hm | hm
    · have := cell_lt (ho.mem a v hv); omega
    · exact ho.off a v hv hm
  · intro e he
    rcases List.mem_cons.1 he with rfl | he
    · exact ⟨_, _, hnew, rfl⟩
    · exact holds_of_heap (fun b hb => heap_alloc_lt _ _ _ (Ent.lt (ho.ent e he) b hb)) (ho.ent e he)
  · simp only [blks, List.flatMap_cons, Ent.bs, List.singleton_append, List.nodup_cons]
    exact ⟨fun hm => Nat.lt_irrefl _ (hlt _ hm), ho.nd⟩
  · intro b hb
    simp only [blks, List.flatMap_cons, Ent.bs, List.singleton_append, List.mem_cons] at hb
    rcases hb with rfl | hb
    · exact .inr ho.size
    · exact ho.brf b hb
/-- the keys of a map's type: how they are compared -/
class KeyI (P : Program) (t : Nat) (κ : outParam Type) [DecidableEq κ] (enc : outParam (κ → Value)) : Prop where
  check : ∀ b k w, (Instr.checkKey b 10000 t (enc k)).run P w = .ok () w
  find : ∀ (k : κ) (es : List MapEntry) (m : List (κ × Value)), es.map (fun e => (e.key, e.val)) = m.map (fun p => (enc p.1, p.2)) → ∀ w, (Instr.findKey t (enc k) es).run P w = .ok ((m.findIdx? fun p => decide (p.1 = k)).bind fun i => (m[i]?).map fun p => (i, p.2)) w
def encMap {κ : Type} (enc : κ → Value) (m : List (κ × Value)) : List (Value × Value) := m.map fun p => (enc p.1, p.2)
section
variable {cx : Cx} {Q : Post} {E : Env} {M : Mem} {L : List Ent} {ops : Array Oper} {d T : Nat} {pos : String} {af : Array Edge} {rest : List Oper} {x y z : Operand} {v u : Value}
theorem jmm {t : Nat} (hn : Nat.blt d cx.n = true) (hk : ∀ B, J cx ops Q rest ((d, .map (some B)) :: E) M (.mp B [] :: L)) : J cx ops Q (⟨some d, .makeMap t none, T, pos, af, none⟩ :: rest) E M L :=
  j_new (M' := M) (fun a w hs ho => ⟨.map (some w.heap.size), _, _, by simp [execOp, Instr.makeMap], ho.allocMap, hk _⟩) hn
theorem jmu {κ : Type} [DecidableEq κ] {enc : κ → Value} {t kt et B : Nat} {m : List (κ × Value)} {k : κ} (i : Nat) [K : KeyI cx.P kt κ enc] (hu : cx.P.underlying t = some (.map kt et)) (hx : ev E x = some (.map (some B))) (hy : ev E y = some (enc k)) (hz : ev E z = some v)
    (hL : L[i]? = some (.mp B (encMap enc m))) (hnew : ∀ p ∈ m, p.1 ≠ k) (hk : J cx ops Q rest E M (L.set i (.mp B (encMap enc (m ++ [(k, v)]))))) : J cx ops Q (⟨none, .mapUpdate t x y z, T, pos, af, none⟩ :: rest) E M L :=
  j_skip (M' := M) (L' := L.set i (.mp B (encMap enc (m ++ [(k, v)])))) (fun a w hs ho => by
    obtain ⟨es, clock, h1, h2⟩ := ho.at' hL
    refine ⟨{ w with heap := w.heap.setIfInBounds B (.map (es.push { key := enc k, val := v, born := clock }) (clock + 1)) }, ?_, ho.putObj hL rfl rfl _ ⟨es.push { key := enc k, val := v, born := clock }, clock + 1, ?_, ?_⟩⟩
    · have hf := K.find k es.toList m h2 w
      have hn : (m.findIdx? fun p => decide (p.1 = k)) = none := by
        rw [List.findIdx?_eq_none_iff]; intro p hp; simp [hnew p hp]
      rw [hn] at hf
      have hg : (getObj B).run cx.P w = .ok (.map es clock) w := by simp [getObj, Sem.run, h1]
      have hset : (setObj B (.map (es.push { key := enc k, val := v, born := clock }) (clock + 1))).run cx.P w = .ok () { w with heap := w.heap.setIfInBounds B (.map (es.push { key := enc k, val := v, born := clock }) (clock + 1)) } := by simp [setObj, Sem.run, h1]
      simp only [execOp, hs.ev hx, hs.ev hy, hs.ev hz, Instr.mapUpdate, Sem.run_bind, run_underlying hu, Result.andThen_ok, hg, K.check, hf, Option.bind_none, hset]
      rfl
    · have hlt := (Array.getElem?_eq_some_iff.1 h1).1
      simp [hlt]
    · simp [h2]; simp [encMap]) hk
theorem jmget {κ : Type} [DecidableEq κ] {enc : κ → Value} {t kt et B : Nat} {zv : Value} {m : List (κ × Value)} {k : κ} (i : Nat) [K : KeyI cx.P kt κ enc] (hn : Nat.blt d cx.n = true) (hu : cx.P.underlying t = some (.map kt et)) (hz : ∀ w, (zeroValue et).run cx.P w = .ok zv w) (hx : ev E x = some (.map (some B))) (hy : ev E y = some (enc k))
    (hL : L[i]? = some (.mp B (encMap enc m))) (hk : J cx ops Q rest ((d, .tuple #[((m.find? fun p => decide (p.1 = k)).map (·.2)).getD zv, .bool (m.find? fun p => decide (p.1 = k)).isSome]) :: E) M L) : J cx ops Q (⟨some d, .lookup t x y true, T, pos, af, none⟩ :: rest) E M L :=
  j_val _ rfl hn (fun a w hs ho => by
    obtain ⟨es, clock, h1, h2⟩ := ho.at' hL
    have hf := K.find k es.toList m h2 w
    have hg : (getObj B).run cx.P w = .ok (.map es clock) w := by simp [getObj, Sem.run, h1]
    have he : (m.find? fun p => decide (p.1 = k)) = (m.findIdx? fun p => decide (p.1 = k)).bind (m[·]?) := by
      clear hf h2 hL hk hz
      induction m with
      | nil => rfl
      | cons p m ih =>
        rw [List.find?_cons, List.findIdx?_cons]
        by_cases h : p.1 = k
        · simp [h]
        · simp only [h, decide_false, Bool.false_eq_true, if_false]
          rw [ih]
          cases (m.findIdx? fun p => decide (p.1 = k)) <;> simp
    cases hfi : (m.findIdx? fun p => decide (p.1 = k)) with
    | none =>
      rw [hfi] at hf he
      simp only [execOp, hs.ev hx, hs.ev hy, Instr.lookup, Sem.run_bind, run_underlying hu, Result.andThen_ok, hg, K.check, hf, Option.bind_none, Sem.run_pure, hz, he, Option.map_none, Option.getD_none, Option.isSome_none]
      rfl
    | some j =>
      have hj : j < m.length := (List.findIdx?_eq_some_iff_getElem.1 hfi).1
      rw [hfi] at hf he
      simp only [Option.bind_some, List.getElem?_eq_getElem hj, Option.map_some] at hf he
      simp only [execOp, hs.ev hx, hs.ev hy, Instr.lookup, Sem.run_bind, run_underlying hu, Result.andThen_ok, hg, K.check, hf, Sem.run_pure, he, Option.map_some, Option.getD_some, Option.isSome_some]
      rfl) hk
end
end Go.Proofs.YtihgpbpcbbgdiaaGreat

/- Keys that are pairs of ints, ints, strings. -/
namespace Go.Proofs.YtihgpbpcbbgdiaaGreat
open Go.RowKit
set_option linter.unusedVariables false
set_option linter.unusedSimpArgs false
theorem eq_int {P : Program} {e : Nat} (he : P.underlying e = some (.int .i64)) (d : Nat) (a b : Int) (w : World) : (Op.equalIn (d + 1) e (.int .i64 a) (.int .i64 b)).run P w = .ok (a == b) w := by
  unfold Op.equalIn
  rw [Sem.run_bind, run_underlying he, Result.andThen_ok]
  rfl
theorem eq_pair {P : Program} {t e : Nat} [Ar : ArI P t 2 e] [Ty : TyI P e false 1] (he : P.underlying e = some (.int .i64)) (d : Nat) (a b a' b' : Int) (w : World) :
    (Op.equalIn (d + 2) t (.agg [.int .i64 a, .int .i64 b].toArray) (.agg [.int .i64 a', .int .i64 b'].toArray)).run P w = .ok (decide ((a, b) = (a', b'))) w := by
  unfold Op.equalIn
  rw [Sem.run_bind, run_underlying Ar.h, Result.andThen_ok]
  simp [Sem.run_bind, run_sz, part, run_isAgg, eq_int he, Std.Legacy.Range.forIn_eq_forIn_range']
  rw [show List.range' 0 2 = [0, 1] from rfl]
  by_cases h : a = a' <;> by_cases h' : b = b' <;> simp [List.forIn_cons, Sem.run_bind, run_sz, run_isAgg, eq_int he, h, h']
theorem check_leaf {P : Program} {e : Nat} {x : Int} (he : P.underlying e = some (.int .i64)) (b : Bool) (n : Nat) (w : World) : (Instr.checkKey b (n + 1) e (.int .i64 x)).run P w = .ok () w := by
  unfold Instr.checkKey
  rw [Sem.run_bind, run_underlying he, Result.andThen_ok]
  rfl
theorem check_pair {P : Program} {t e : Nat} [Ar : ArI P t 2 e] [Ty : TyI P e false 1] (he : P.underlying e = some (.int .i64)) (em : Bool) (n : Nat) (a b : Int) (w : World) : (Instr.checkKey em (n + 2) t (.agg [.int .i64 a, .int .i64 b].toArray)).run P w = .ok () w := by
  unfold Instr.checkKey
  rw [Sem.run_bind, run_underlying Ar.h, Result.andThen_ok]
  simp [Sem.run_bind, run_sz, part, run_isAgg, check_leaf he, Std.Legacy.Range.forIn_eq_forIn_range']
  rw [show List.range' 0 2 = [0, 1] from rfl]
  simp [List.forIn_cons, Sem.run_bind, run_sz, run_isAgg, check_leaf he]
abbrev encPair (p : Int × Int) : Value := .agg [.int .i64 p.1, .int .i64 p.2].toArray
theorem find_asking {P : Program} {κ : Type} [DecidableEq κ] {enc : κ → Value} {t : Nat} (heq : ∀ (a b : κ) w, (Op.equal t (enc a) (enc b)).run P w = .ok (decide (a = b)) w) (k : κ) (w : World) : ∀ (es : List MapEntry) (m : List (κ × Value)) (i : Nat),
    es.map (fun e => (e.key, e.val)) = m.map (fun p => (enc p.1, p.2)) → (Instr.findAsking t (enc k) es i).run P w = .ok ((m.findIdx? fun p => decide (p.1 = k)).bind fun j => (m[j]?).map fun p => (i + j, p.2)) w
  | [], [], i, _ => rfl
  | [], _ :: _, i, h => by cases h
  | _ :: _, [], i, h => by cases h
  | e :: es, p :: m, i, h => by
    simp only [List.map_cons, List.cons.injEq, Prod.mk.injEq] at h
    obtain ⟨⟨h1, h2⟩, h3⟩ := h
    have ih := find_asking heq k w es m (i + 1) h3
    simp only [Instr.findAsking, Sem.run_bind, h1, heq, Result.andThen_ok, List.findIdx?_cons]
    by_cases hk : p.1 = k
    · have hk' : k = p.1 := hk.symm
      simp [hk', h2]
    · have hk' : ¬ k = p.1 := fun e => hk e.symm
      simp only [hk', decide_false, Bool.false_eq_true, if_false, hk]
      rw [ih]
      cases (m.findIdx? fun p => decide (p.1 = k)) with
      | none => rfl
      | some j => simp [Nat.add_assoc, Nat.add_comm 1 j]
theorem KeyI.pair {P : Program} {t e : Nat} [Ar : ArI P t 2 e] [Ty : TyI P e false 1] (he : P.underlying e = some (.int .i64)) : KeyI P t (Int × Int) encPair where
  check := fun b k w => check_pair he b 9998 k.1 k.2 w
  find := fun k es m h w => by
    have hq : ∀ (a b : Int × Int) w, (Op.equal t (encPair a) (encPair b)).run P w = .ok (decide (a = b)) w := fun a b w => eq_pair he 9998 a.1 a.2 b.1 b.2 w
    have hfa := find_asking hq k w es m 0 h
    unfold Instr.findKey
    rw [Sem.run_bind, run_underlying Ar.h, Result.andThen_ok]
    cases es with
    | nil =>
      cases m with
      | nil => rfl
      | cons p m => cases h
    | cons e0 es =>
      have : Instr.findNow (.array 2 e) (encPair k) (e0 :: es) 0 = none := rfl
      rw [this]
      simpa using hfa
section
variable {cx : Cx} {Q : Post} {E : Env} {M : Mem} {L : List Ent} {ops : Array Oper} {d T : Nat} {pos : String} {af : Array Edge} {rest : List Oper} {x y z : Operand} {v u : Value}
/-- a call that hands a slice that is known then -/
theorem jcalls {f : FuncId} {args tys : Array _} {fi ca vs : List Value} {p : Option Addr → Nat → Mem → Prop} {r : Option Addr → Nat → Value} [FnI cx.P f] (hn : Nat.blt d cx.n = true)
    (hx : ev E x = some (.func (.func f) fi.toArray ca.toArray)) (ha : evL E args.toList = some vs) (hc : Ctr cx.P f (fi ++ vs ++ ca) M [] (fun v M' _ => ∃ A cap, p A cap M' ∧ v = r A cap))
    (hk : ∀ A cap M', MLe M M' → p A cap M' → J cx ops Q rest ((d, r A cap) :: E) M' L) : J cx ops Q (⟨some d, .call ⟨.value x, args, tys⟩, T, pos, af, none⟩ :: rest) E M L :=
  jcall (Lb := []) (Lr := L) hn hx ha rfl hc (fun v M' L' hm h => by
    obtain ⟨A, cap, hp, rfl⟩ := h
    intro a w hs ho
    exact hk A cap M' hm hp a w hs ho.drop)
end
end Go.Proofs.YtihgpbpcbbgdiaaGreat
