/- Slices: what is known of them, compared with nil; rows opened and shut; elements of a constant length. -/
import Derived.Test.YtihgpbpcbbgdiaaGreatCore11
import Derived.Test.YtihgpbpcbbgdiaaGreatEnc
namespace Go.Proofs.YtihgpbpcbbgdiaaGreat
open Go.RowKit
set_option linter.unusedVariables false
set_option linter.unusedSimpArgs false
theorem sub_v {E : Env} {k : Nat} {v v' : Value} (h : find E k = some v') (e : v' = v) : find E k = some v := e ▸ h
theorem put_nest2' {c1 rs x : List Value} {o : Nat} {c' : List Value} (h : c1.take o ++ x ++ c1.drop (o + x.length) = c') (ho : o + x.length ≤ c1.length) : (c1 ++ rs).take o ++ x ++ (c1 ++ rs).drop (o + x.length) = c' ++ rs := by
  rw [List.take_append_of_le_length (by omega), List.drop_append_of_le_length (by omega), ← h]
  simp only [List.append_assoc]
@[irreducible] def ix {α : Type} (z : α) (xs : List α) (i : Nat) : α := xs.getD i z
theorem ix_get {α : Type} {xs : List α} {z : α} {i : Nat} (h : i < xs.length) : xs[i]? = some (ix z xs i) := by
  unfold ix; rw [List.getD_eq_getElem?_getD, List.getElem?_eq_getElem h]; rfl
theorem ix_eq {α : Type} {xs : List α} {z : α} {i : Nat} (h : i < xs.length) : ix z xs i = xs[i] := by
  have := ix_get (z := z) h; rw [List.getElem?_eq_getElem h] at this; exact (Option.some.inj this).symm
theorem foldl_take {α β : Type} {g : β → α → β} {b : β} {xs : List α} {z : α} {k : Nat} (h : k < xs.length) : g ((xs.take k).foldl g b) (ix z xs k) = (xs.take (k + 1)).foldl g b := by
  rw [List.take_add_one, ix_get (z := z) h, List.foldl_append]; rfl
theorem getD_get {α : Type} {xs : List α} {z : α} {i : Nat} (h : i < xs.length) : xs[i]? = some (xs.getD i z) := by
  rw [List.getD_eq_getElem?_getD, List.getElem?_eq_getElem h]; rfl
section
variable {α : Type} {f : α → List Value} {k : Nat} (hk : ∀ x, (f x).length = k)
include hk
theorem flatk_len (xs : List α) : (xs.flatMap f).length = xs.length * k := by
  induction xs with
  | nil => simp
  | cons a l ih => rw [List.flatMap_cons, List.length_append, hk, ih, List.length_cons, Nat.succ_mul]; omega
theorem flatk_part : ∀ (xs : List α) {i : Nat} {x : α}, xs[i]? = some x → ((xs.flatMap f).drop (i * k)).take k = f x
  | [], _, _, h => by cases h
  | a :: l, 0, v, h => by cases h; rw [Nat.zero_mul, List.drop_zero, List.flatMap_cons]; exact take_app (hk _)
  | a :: l, i + 1, v, h => by
    rw [List.flatMap_cons, Nat.succ_mul, Nat.add_comm, drop_drop_app (hk _)]
    exact flatk_part l h
theorem flatk_put : ∀ (xs : List α) {i : Nat} {x : α}, i < xs.length → (xs.flatMap f).take (i * k) ++ f x ++ (xs.flatMap f).drop (i * k + k) = (xs.set i x).flatMap f
  | [], _, _, h => by cases h
  | a :: l, 0, v, h => by
    rw [Nat.zero_mul, List.flatMap_cons, Nat.zero_add, drop_app (hk _)]; rfl
  | a :: l, i + 1, v, h => by
    rw [List.flatMap_cons, Nat.succ_mul, show i * k + k + k = k + (i * k + k) by omega, drop_drop_app (hk _), show i * k + k = k + i * k by omega, List.take_append, hk, List.take_of_length_le (by rw [hk]; omega), Nat.add_sub_cancel_left]
    rw [List.set_cons_succ, List.flatMap_cons, ← flatk_put l (i := i) (x := v) (by simpa using h), List.append_assoc, List.append_assoc, List.append_assoc, Nat.add_comm (i * k) k]
end
theorem flatk_get {α : Type} {f : α → List Value} {k : Nat} (hk : ∀ x, (f x).length = k) {xs : List α} {rs : List Value} {i o : Nat} {v : Value} {z : α} (hi : i < xs.length) (hv : (f (ix z xs i))[o]? = some v) : (xs.flatMap f ++ rs)[0 + i * k + o]? = some v := by
  have ho : o < k := by have := (List.getElem?_eq_some_iff.1 hv).1; rw [hk] at this; exact this
  have hlen : i * k + k ≤ (xs.flatMap f).length := by rw [flatk_len hk, ← Nat.succ_mul]; exact Nat.mul_le_mul_right _ hi
  rw [Nat.zero_add, List.getElem?_append_left (by omega)]
  have := flatk_part hk xs (ix_get (z := z) hi)
  rw [← this, List.getElem?_take] at hv
  simp [ho] at hv
  exact hv
theorem flatk_getw {α : Type} {f : α → List Value} {k : Nat} (hk : ∀ x, (f x).length = k) {xs : List α} {rs : List Value} {i : Nat} {z : α} (hi : i < xs.length) : ((xs.flatMap f ++ rs).drop (0 + i * k)).take k = f (ix z xs i) := by
  have hlen : i * k + k ≤ (xs.flatMap f).length := by rw [flatk_len hk, ← Nat.succ_mul]; exact Nat.mul_le_mul_right _ hi
  rw [Nat.zero_add, List.drop_append_of_le_length (by omega), List.take_append_of_le_length (by rw [List.length_drop]; omega)]
  exact flatk_part hk xs (ix_get (z := z) hi)
theorem flatk_put1 {α : Type} {f : α → List Value} {k : Nat} (hk : ∀ x, (f x).length = k) {xs : List α} {rs : List Value} {i o : Nat} {v : Value} {z x' : α} (hi : i < xs.length) (ho : o + 1 ≤ k) (hx : (f (ix z xs i)).take o ++ [v] ++ (f (ix z xs i)).drop (o + 1) = f x') :
    (xs.flatMap f ++ rs).take (0 + i * k + o) ++ [v] ++ (xs.flatMap f ++ rs).drop (0 + i * k + o + 1) = (xs.set i x').flatMap f ++ rs := by
  have hlen : i * k + k ≤ (xs.flatMap f).length := by rw [flatk_len hk, ← Nat.succ_mul]; exact Nat.mul_le_mul_right _ hi
  rw [Nat.zero_add]
  have hp := flatk_part hk xs (ix_get (z := z) hi)
  have e : (xs.flatMap f).take (i * k + o) ++ [v] ++ (xs.flatMap f).drop (i * k + o + 1) = (xs.set i x').flatMap f := by
    have h1 : (xs.flatMap f).take (i * k + o) = (xs.flatMap f).take (i * k) ++ (f (ix z xs i)).take o := by
      rw [← hp, List.take_take, Nat.min_eq_left (by omega), List.take_add]
    have h2 : (xs.flatMap f).drop (i * k + o + 1) = (f (ix z xs i)).drop (o + 1) ++ (xs.flatMap f).drop (i * k + k) := by
      rw [← hp, Nat.add_assoc, ← List.drop_drop, ← List.drop_drop (i := k)]
      generalize hd : (xs.flatMap f).drop (i * k) = d
      have hl : k ≤ d.length := by rw [← hd, List.length_drop]; omega
      rw [← List.drop_append_of_le_length (by rw [List.length_take]; omega), List.take_append_drop]
    rw [h1, h2, ← flatk_put hk xs hi, ← hx]
    simp only [List.append_assoc]
  exact put_nest2' (x := [v]) e (by show i * k + o + 1 ≤ _; omega)
theorem Rows.flat_eq {α : Type} {r : Rep α} {M : Mem} {f : α → List Value} (hf : ∀ x c, r.R M x c → c = f x) : ∀ {xs : List α} {c : List Value}, Rows r M xs c → c = xs.flatMap f
  | [], c, h => by have := h.len; simpa using this
  | x :: xs, c, h => by
    have h0 := h.el 0 x rfl
    rw [Nat.zero_mul, List.drop_zero] at h0
    have e0 := hf _ _ h0
    have hl := r.len h0
    have ht : Rows r M xs (c.drop r.sz) := ⟨by rw [List.length_drop, h.len, List.length_cons, Nat.succ_mul]; omega, by
      rw [List.all_eq_true]; intro v hv; exact List.all_eq_true.1 h.one v (List.mem_of_mem_drop hv), fun i y hy => by
      have := h.el (i + 1) y hy
      rw [Nat.succ_mul, Nat.add_comm, ← List.drop_drop] at this
      exact this⟩
    rw [List.flatMap_cons, ← Rows.flat_eq hf ht, ← e0, List.take_append_drop]
section
variable {cx : Cx} {Q : Post} {E : Env} {M : Mem} {L : List Ent} {ops : Array Oper} {d T : Nat} {pos : String} {af : Array Edge} {rest : List Oper} {x y z : Operand} {v u : Value}
/-- an element, whole, whose cells are told -/
theorem ylq {α : Type} {r : Rep α} {t sz cap : Nat} {A : Option Addr} {xs : List α} {i : Nat} {e : α} {q : List Value} [TyI cx.P t true sz] (hR : SlR r M A cap xs) (hi : xs[i]? = some e) (hq : ∀ c, r.R M e c → c = q) (hz : r.sz = sz)
    (hx : ev E x = some (.pointer (eptr A (i * sz)))) : Y cx ⟨some d, .load t x, T, pos, af, none⟩ E M L (.agg q.toArray) := by
  obtain ⟨c, h1, h2⟩ := yle (cx := cx) (t := t) (E := E) (x := x) (d := d) (T := T) (pos := pos) (af := af) (L := L) hR hi hz hx
  rw [← hq c h1]; exact h2
theorem jlq {α : Type} {r : Rep α} {t sz cap : Nat} {A : Option Addr} {xs : List α} {i : Nat} {e : α} {q : List Value} [TyI cx.P t true sz] (hn : Nat.blt d cx.n = true) (hR : SlR r M A cap xs) (hi : xs[i]? = some e) (hq : ∀ c, r.R M e c → c = q) (hz : r.sz = sz)
    (hx : ev E x = some (.pointer (eptr A (i * sz)))) (hk : J cx ops Q rest ((d, .agg q.toArray) :: E) M L) : J cx ops Q (⟨some d, .load t x, T, pos, af, none⟩ :: rest) E M L := j_y hn (ylq hR hi hq hz hx) hk
theorem equalIn_slnil {P : Program} {t e n cap : Nat} {A : Option Addr} (d : Nat) (hu : P.underlying t = some (.slice e)) (w : World) : (Op.equalIn (d + 1) t (.slice A n cap) (.slice none 0 0)).run P w = .ok A.isNone w := by
  unfold Op.equalIn
  rw [Sem.run_bind, run_underlying hu, Result.andThen_ok]
  cases A <;> rfl
theorem ysnil {t t' e n cap : Nat} {A : Option Addr} [Sl : SlI cx.P t e] (hx : ev E x = some (.slice A n cap)) (hy : ev E y = some (.slice none 0 0)) : Y cx ⟨some d, .binOp .eql t x y t', T, pos, af, none⟩ E M L (.bool A.isNone) := fun a w hs ho => by
    have h1 : (Op.equal t (.slice A n cap) (.slice none 0 0)).run cx.P w = .ok A.isNone w := equalIn_slnil 9999 Sl.h w
    have h2 : (eqGuard .eql t x y (.slice A n cap) (.slice none 0 0)).run cx.P w = .ok () w := rfl
    have h3 : (binOp .eql t (.slice A n cap) (.slice none 0 0)).run cx.P w = .ok (.bool A.isNone) w := by
      show (do let b ← Op.equal t (.slice A n cap) (.slice none 0 0); pure (Value.bool b) : Sem Value).run cx.P w = _
      rw [Sem.run_bind, h1]; rfl
    simp only [execOp, hs.ev hx, hs.ev hy, Sem.run_bind, h2, h3, Result.andThen_ok, Sem.run_pure]
theorem jsnil {t t' e n cap : Nat} {A : Option Addr} [Sl : SlI cx.P t e] (hn : Nat.blt d cx.n = true) (hx : ev E x = some (.slice A n cap)) (hy : ev E y = some (.slice none 0 0)) (hk : J cx ops Q rest ((d, .bool A.isNone) :: E) M L) : J cx ops Q (⟨some d, .binOp .eql t x y t', T, pos, af, none⟩ :: rest) E M L := j_y hn (ysnil hx hy) hk
/-- a row that is not empty is a block -/
theorem Own.openrow {w : World} {T' sz n : Nat} {c : List Value} (ho : Own cx M w (.row v T' sz n c :: L)) (h0 : 0 < n) : ∃ B cap rs, v = .slice (some ⟨B, 0, none⟩) n cap ∧ n ≤ cap ∧ rs.length = (cap - n) * sz ∧ c.length = n * sz ∧ Own cx M w (.blk B T' (c ++ rs) :: L) := by
  have hrow := ho.at' (i := 0) rfl
  rcases hrow.2 with ⟨rfl, A, rfl⟩ | ⟨B, cap, rs, rfl, h1, h2, h3, h4⟩
  · omega
  · exact ⟨B, cap, rs, rfl, h2, h3, hrow.1, ho.alter (by simp [Ent.bs, Nat.ne_of_gt h1]) h4⟩
theorem j_open {T' sz n : Nat} {c : List Value} (h0 : 0 < n) (hk : ∀ B cap rs, v = .slice (some ⟨B, 0, none⟩) n cap → n ≤ cap → rs.length = (cap - n) * sz → c.length = n * sz → J cx ops Q rest E M (.blk B T' (c ++ rs) :: L)) : J cx ops Q rest E M (.row v T' sz n c :: L) := fun a w hs ho =>
  let ⟨B, cap, rs, h1, h2, h3, h4, h5⟩ := ho.openrow h0
  hk B cap rs h1 h2 h3 h4 a w hs h5
theorem jc_open {cc : Code} {T' sz n : Nat} {c : List Value} (h0 : 0 < n) (hk : ∀ B cap rs, v = .slice (some ⟨B, 0, none⟩) n cap → n ≤ cap → rs.length = (cap - n) * sz → c.length = n * sz → JC cx cc Q E M (.blk B T' (c ++ rs) :: L)) : JC cx cc Q E M (.row v T' sz n c :: L) := fun a w hs ho =>
  let ⟨B, cap, rs, h1, h2, h3, h4, h5⟩ := ho.openrow h0
  hk B cap rs h1 h2 h3 h4 a w hs h5
theorem Own.shutrow {w : World} {B T' sz n cap : Nat} {c rs : List Value} (ho : Own cx M w (.blk B T' (c ++ rs) :: L)) (h0 : 0 < n) (h1 : n ≤ cap) (h2 : rs.length = (cap - n) * sz) (h3 : c.length = n * sz) : Own cx M w (.row (.slice (some ⟨B, 0, none⟩) n cap) T' sz n c :: L) :=
  ho.alter (by simp [Ent.bs]; omega) (row_of h3 (by omega) h1 h2 (ho.at' (i := 0) rfl))
theorem j_shut {B T' sz n cap : Nat} {c rs : List Value} (h0 : 0 < n) (h1 : n ≤ cap) (h2 : rs.length = (cap - n) * sz) (h3 : c.length = n * sz) (hk : J cx ops Q rest E M (.row (.slice (some ⟨B, 0, none⟩) n cap) T' sz n c :: L)) : J cx ops Q rest E M (.blk B T' (c ++ rs) :: L) := fun a w hs ho => hk a w hs (ho.shutrow h0 h1 h2 h3)
theorem jc_shut {cc : Code} {B T' sz n cap : Nat} {c rs : List Value} (h0 : 0 < n) (h1 : n ≤ cap) (h2 : rs.length = (cap - n) * sz) (h3 : c.length = n * sz) (hk : JC cx cc Q E M (.row (.slice (some ⟨B, 0, none⟩) n cap) T' sz n c :: L)) : JC cx cc Q E M (.blk B T' (c ++ rs) :: L) := fun a w hs ho => hk a w hs (ho.shutrow h0 h1 h2 h3)
theorem jp_shut {e : Exit} {B T' sz n cap : Nat} {c rs : List Value} (h0 : 0 < n) (h1 : n ≤ cap) (h2 : rs.length = (cap - n) * sz) (h3 : c.length = n * sz) (hk : JP cx Q e E M (.row (.slice (some ⟨B, 0, none⟩) n cap) T' sz n c :: L)) : JP cx Q e E M (.blk B T' (c ++ rs) :: L) := fun a w hs ho => hk a w hs (ho.shutrow h0 h1 h2 h3)
theorem jp_nilrow {e : Exit} (A : Option Addr) (T' sz : Nat) (hk : JP cx Q e E M (.row (.slice A 0 0) T' sz 0 [] :: L)) : JP cx Q e E M L := fun a w hs ho =>
  hk a w hs (ho.cons0 (by cases A <;> rfl) ⟨by simp, .inl ⟨rfl, A, rfl⟩⟩)
theorem jp_perm' {e : Exit} {L' : List Ent} (h : L.Perm L') (hk : JP cx Q e E M L') : JP cx Q e E M L := jp_perm h hk
/-- an index, in an open row -/
theorem put_nest2 {c1 rs x : List Value} {o : Nat} {c' : List Value} (h : c1.take o ++ x ++ c1.drop (o + x.length) = c') (ho : o + x.length ≤ c1.length) : (c1 ++ rs).take o ++ x ++ (c1 ++ rs).drop (o + x.length) = c' ++ rs := by
  rw [List.take_append_of_le_length (by omega), List.drop_append_of_le_length (by omega), ← h]
  simp only [List.append_assoc]
end
end Go.Proofs.YtihgpbpcbbgdiaaGreat
