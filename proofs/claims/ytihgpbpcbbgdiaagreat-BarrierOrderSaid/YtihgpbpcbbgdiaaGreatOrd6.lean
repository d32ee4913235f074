/- Several texts in one. -/
import Derived.Test.YtihgpbpcbbgdiaaGreatOrd5
import Derived.LoopN
import Derived.Test.YtihgpbpcbbgdiaaGreatOrd4
/- Structs and arrays that are built; arrays that are sliced. -/
namespace Go.Proofs.YtihgpbpcbbgdiaaGreat
open Go.RowKit
set_option linter.unusedVariables false
set_option linter.unusedSimpArgs false

/-- the fields' places -/
class BuI (P : Program) (T : Nat) (ps : outParam (List (Nat × Nat))) : Prop where
  h : ∃ fs, P.underlying T = some (.struct fs) ∧ (fs.toList.map fun f => (P.info? f.type).map fun i => (f.offset, i.size)) = ps.map some
theorem run_places {P : Program} (w : World) : ∀ (fs : List Go.Field) (ps : List (Nat × Nat)), (fs.map fun f => (P.info? f.type).map fun i => (f.offset, i.size)) = ps.map some →
    (fs.mapM (fun f => (do pure (f.offset, ← sizeOf f.type) : Sem (Nat × Nat)))).run P w = .ok ps w
  | [], ps, h => by cases ps <;> simp_all
  | f :: fs, [], h => by simp at h
  | f :: fs, p :: ps, h => by
    simp only [List.map_cons, List.cons.injEq] at h
    have ih := run_places w fs ps h.2
    cases hi : P.info? f.type with
    | none => simp [hi] at h
    | some i =>
      have hp : p = (f.offset, i.size) := by have := h.1; simp [hi] at this; exact this.symm
      subst hp
      have h1 : (sizeOf f.type).run P w = .ok i.size w := by simp [sizeOf, typeInfo, hi]
      simp only [List.mapM_cons, Sem.run_bind, h1, Result.andThen_ok, Sem.run_pure, ih]
theorem run_build_struct {P : Program} {T : Nat} {ps : List (Nat × Nat)} {zc c : List Value} {pv : List (Nat × Value)} [B : BuI P T ps] [Z : ZeI P T zc] (hf : Instr.fill (ps.toArray[·]?) zc.toArray pv = some c.toArray) (w : World) (parts : Array (Nat × Value)) (hp : parts.toList = pv) :
    (Instr.build T parts).run P w = .ok (.agg c.toArray) w := by
  obtain ⟨fs, h1, h2⟩ := B.h
  obtain ⟨z, hz, hzz⟩ := run_zero (P := P) w (T := T)
  have h3 := run_places w fs.toList ps h2
  have h4 : (Array.mapM (fun f => (do pure (f.offset, ← sizeOf f.type) : Sem (Nat × Nat))) fs).run P w = .ok ps.toArray w := by
    rw [Array.mapM_eq_mapM_toList, map_eq_pure_bind, Sem.run_bind, h3]; rfl
  unfold Instr.build
  simp only [Sem.run_bind, hz, Result.andThen_ok, run_underlying h1, h4, hzz, hp, hf]
  rfl
theorem run_build_array {P : Program} {T n e sz : Nat} {ag : Bool} {zc c : List Value} {pv : List (Nat × Value)} [Ar : ArI P T n e] [TyI P e ag sz] [Z : ZeI P T zc] (hf : Instr.fill (fun i => some (i * sz, sz)) zc.toArray pv = some c.toArray) (w : World) (parts : Array (Nat × Value)) (hp : parts.toList = pv) :
    (Instr.build T parts).run P w = .ok (.agg c.toArray) w := by
  obtain ⟨z, hz, hzz⟩ := run_zero (P := P) w (T := T)
  unfold Instr.build
  simp only [Sem.run_bind, hz, Result.andThen_ok, run_underlying Ar.h, run_sz, hzz, hp, hf]
  rfl
theorem evPs {ds : List Deferred} {n : Nat} {E : Env} : ∀ {l : List (Nat × Operand)} {r : List (Nat × Value)}, evP E l = some r → ∀ {a : Act}, Sat ds n E a → l.map (fun p => (p.1, a.eval p.2)) = r
  | [], r, h, a, hs => by simp [evP] at h; simp [h]
  | (i, o) :: l, r, h, a, hs => by
    simp only [evP] at h
    cases hv : ev E o with
    | none => simp [hv] at h
    | some v =>
      cases hl : evP E l with
      | none => simp [hv, hl] at h
      | some vs => simp [hv, hl] at h; subst h; simp [hs.ev hv, evPs hl hs]
section
variable {cx : Cx} {Q : Post} {E : Env} {M : Mem} {L : List Ent} {ops : Array Oper} {d T : Nat} {pos : String} {af : Array Edge} {rest : List Oper} {x y z : Operand} {v u : Value}
theorem ybu {t : Nat} {ps : List (Nat × Nat)} {zc c : List Value} {pv : List (Nat × Value)} {parts : Array (Nat × Operand)} [BuI cx.P t ps] [ZeI cx.P t zc] (hp : evP E parts.toList = some pv) (hf : Instr.fill (ps.toArray[·]?) zc.toArray pv = some c.toArray) :
    Y cx ⟨some d, .build t parts, T, pos, af, none⟩ E M L (.agg c.toArray) := fun a w hs ho => by
  have := run_build_struct (P := cx.P) (T := t) hf w (parts.map fun (i, x) => (i, a.eval x)) (by have := evPs hp hs; simpa using this)
  simp only [execOp, Sem.run_bind, this, Result.andThen_ok, Sem.run_pure]
theorem jbu {t : Nat} {ps : List (Nat × Nat)} {zc c : List Value} {pv : List (Nat × Value)} {parts : Array (Nat × Operand)} [BuI cx.P t ps] [ZeI cx.P t zc] (hn : Nat.blt d cx.n = true) (hp : evP E parts.toList = some pv) (hf : Instr.fill (ps.toArray[·]?) zc.toArray pv = some c.toArray)
    (hk : J cx ops Q rest ((d, .agg c.toArray) :: E) M L) : J cx ops Q (⟨some d, .build t parts, T, pos, af, none⟩ :: rest) E M L := j_y hn (ybu hp hf) hk
/-- the zero value of a struct, of an array -/
theorem ybu0 {t : Nat} {ps : List (Nat × Nat)} {zc : List Value} [BuI cx.P t ps] [ZeI cx.P t zc] : Y cx ⟨some d, .build t #[], T, pos, af, none⟩ E M L (.agg zc.toArray) := ybu (pv := []) rfl rfl
theorem jbu0 {t : Nat} {ps : List (Nat × Nat)} {zc : List Value} [BuI cx.P t ps] [ZeI cx.P t zc] (hn : Nat.blt d cx.n = true) (hk : J cx ops Q rest ((d, .agg zc.toArray) :: E) M L) : J cx ops Q (⟨some d, .build t #[], T, pos, af, none⟩ :: rest) E M L := j_y hn ybu0 hk
theorem ybua {t n e sz : Nat} {ag : Bool} {zc c : List Value} {pv : List (Nat × Value)} {parts : Array (Nat × Operand)} [ArI cx.P t n e] [TyI cx.P e ag sz] [ZeI cx.P t zc] (hp : evP E parts.toList = some pv) (hf : Instr.fill (fun i => some (i * sz, sz)) zc.toArray pv = some c.toArray) :
    Y cx ⟨some d, .build t parts, T, pos, af, none⟩ E M L (.agg c.toArray) := fun a w hs ho => by
  have := run_build_array (P := cx.P) (T := t) hf w (parts.map fun (i, x) => (i, a.eval x)) (by have := evPs hp hs; simpa using this)
  simp only [execOp, Sem.run_bind, this, Result.andThen_ok, Sem.run_pure]
theorem jbua {t n e sz : Nat} {ag : Bool} {zc c : List Value} {pv : List (Nat × Value)} {parts : Array (Nat × Operand)} [ArI cx.P t n e] [TyI cx.P e ag sz] [ZeI cx.P t zc] (hn : Nat.blt d cx.n = true) (hp : evP E parts.toList = some pv) (hf : Instr.fill (fun i => some (i * sz, sz)) zc.toArray pv = some c.toArray)
    (hk : J cx ops Q rest ((d, .agg c.toArray) :: E) M L) : J cx ops Q (⟨some d, .build t parts, T, pos, af, none⟩ :: rest) E M L := j_y hn (ybua hp hf) hk
theorem jbua0 {t n e sz : Nat} {ag : Bool} {zc : List Value} [ArI cx.P t n e] [TyI cx.P e ag sz] [ZeI cx.P t zc] (hn : Nat.blt d cx.n = true) (hk : J cx ops Q rest ((d, .agg zc.toArray) :: E) M L) : J cx ops Q (⟨some d, .build t #[], T, pos, af, none⟩ :: rest) E M L := jbua (pv := []) hn rfl rfl hk
/-- an array, sliced whole -/
theorem ysa {t n e sz B o : Nat} {ag : Bool} [Ar : ArI cx.P t n e] [TyI cx.P e ag sz] (hx : ev E x = some (.pointer (some ⟨B, o, none⟩))) : Y cx ⟨some d, .slice t x none none none, T, pos, af, none⟩ E M L (.slice (some ⟨B, o, none⟩) n n) := fun a w hs ho => by
  have h0 : (⟨B, o, none⟩ : Addr).add (0 * sz) = ⟨B, o, none⟩ := by rw [Nat.zero_mul]; rfl
  simp only [execOp, hs.ev hx, Instr.sliceAt, Sem.run_bind, run_underlying Ar.h, Result.andThen_ok, Instr.sureAddr, Sem.run_pure, Instr.sliceBounds, Option.map_none, run_sz, h0, ite_self, Nat.sub_zero]
theorem jsa {t n e sz B o : Nat} {ag : Bool} [Ar : ArI cx.P t n e] [TyI cx.P e ag sz] (hn : Nat.blt d cx.n = true) (hx : ev E x = some (.pointer (some ⟨B, o, none⟩))) (hk : J cx ops Q rest ((d, .slice (some ⟨B, o, none⟩) n n) :: E) M L) :
    J cx ops Q (⟨some d, .slice t x none none none, T, pos, af, none⟩ :: rest) E M L := j_y hn (ysa hx) hk
/-- nil is an empty row -/
theorem jc_nilrow {c : Code} (A : Option Addr) (T sz : Nat) (hk : JC cx c Q E M (.row (.slice A 0 0) T sz 0 [] :: L)) : JC cx c Q E M L := fun a w hs ho =>
  hk a w hs (ho.cons0 (by cases A <;> rfl) ⟨by simp, .inl ⟨rfl, A, rfl⟩⟩)
theorem j_nilrow (A : Option Addr) (T sz : Nat) (hk : J cx ops Q rest E M (.row (.slice A 0 0) T sz 0 [] :: L)) : J cx ops Q rest E M L := fun a w hs ho =>
  hk a w hs (ho.cons0 (by cases A <;> rfl) ⟨by simp, .inl ⟨rfl, A, rfl⟩⟩)
/-- a slice written out is a row -/
theorem j_blkrow {B T sz n : Nat} {c : List Value} (hc : c.length = n * sz) (h0 : 0 < n) (hk : J cx ops Q rest E M (.row (.slice (some ⟨B, 0, none⟩) n n) T sz n c :: L)) : J cx ops Q rest E M (.blk B T c :: L) := fun a w hs ho =>
  hk a w hs (ho.alter (by simp [Ent.bs]; omega) (row_of (rest := []) hc h0 (Nat.le_refl _) (by simp) (by have := ho.at' (i := 0) rfl; simpa [Ent.holds] using this)))
theorem jp_drop1 {e : Exit} {x : Ent} (hk : JP cx Q e E M L) : JP cx Q e E M (x :: L) := fun a w hs ho => hk a w hs ho.tail
/-- a row's length -/
theorem jrlen {t e sz n Tr : Nat} {c : List Value} (i : Nat) [Sl : SlI cx.P t e] (hn : Nat.blt d cx.n = true) (hx : ev E x = some v) (hL : L[i]? = some (.row v Tr sz n c)) (hk : J cx ops Q rest ((d, .int .i64 n) :: E) M L) :
    J cx ops Q (⟨some d, .call ⟨.builtin .len, #[x], #[t]⟩, T, pos, af, none⟩ :: rest) E M L :=
  j_val _ rfl hn (fun a w hs ho => by
    obtain ⟨A, cap, hv⟩ := len_of_row (ho.at' hL)
    have hx' := hs.ev hx
    rw [hv] at hx'
    simp [execOp, hx', resolve, invoke, builtin, Builtin.len_, run_underlying Sl.h, goInt]) hk
end
end Go.Proofs.YtihgpbpcbbgdiaaGreat

/- Blocks put in another order, lent to calls, kept at a return. -/
namespace Go.Proofs.YtihgpbpcbbgdiaaGreat
open Go.RowKit
set_option linter.unusedVariables false
set_option linter.unusedSimpArgs false
theorem fr_0 {e : Ent} {L : List Ent} : (e :: L).Perm (e :: L) := .refl _
theorem fr_s {a e : Ent} {L L' : List Ent} (h : L.Perm (e :: L')) : (a :: L).Perm (e :: a :: L') := (h.cons a).trans (.swap ..)
def Ap (A B C : List Ent) : Prop := A ++ B = C
theorem Src.part {M : Mem} {L : List Ent} {i B T sz m cap o : Nat} {c r : List Value} (h : L[i]? = some (.blk B T c)) (hr : (c.drop o).take (m * sz) = r) (hl : r.length = m * sz) : Src M L (.slice (some ⟨B, o, none⟩) m cap) sz m r :=
  ⟨hl, _, _, rfl, (by intro h; cases h), fun cx w ho a ha j u hu => by
    cases ha
    have hB : w.heap[B]? = some (Obj.cells c.toArray T (0, 0)) := ho.at' h
    rw [add_at, cell_of_heap hB]
    rw [← hr, List.getElem?_take] at hu
    split at hu
    · simpa using hu
    · cases hu⟩
theorem ap_0 {L : List Ent} : Ap [] L L := rfl
theorem ap_s {e : Ent} {A B C : List Ent} (h : Ap A B C) : Ap (e :: A) B (e :: C) := congrArg (e :: ·) h
theorem fill_put {place : Nat → Option (Nat × Nat)} {off sz : Nat} {v : Value} {c X X' : List Value} {i : Nat} {rest : List (Nat × Value)} {r : Array Value} (hp : place i = some (off, sz)) (hc : v.cells = c.toArray) (hl : c.length = sz) (hX : off + sz ≤ X.length)
    (he : X.take off ++ c ++ X.drop (off + sz) = X') (h : Instr.fill place X'.toArray rest = some r) : Instr.fill place X.toArray ((i, v) :: rest) = some r := by
  have h2 : v.cells.zipIdx.foldl (fun (a : Array Value) (p : Value × Nat) => a.setIfInBounds (off + p.2) p.1) X.toArray = X'.toArray := by
    have := foldl_set c X off 0 (by omega)
    simp only [Nat.add_zero, hl] at this
    rw [← he, ← this, hc]
    simp [List.mapIdx_eq_zipIdx_map]
  rw [Instr.fill]
  simp only [hp]
  have h3 : (if v.cells.size ≠ sz || off + v.cells.size > X.toArray.size then (none : Option (Array Value)) else Instr.fill place (v.cells.zipIdx.foldl (fun cs x => cs.setIfInBounds (off + x.2) x.1) X.toArray) rest) = some r := by
    rw [if_neg (by rw [hc]; simp [hl]; omega), h2, h]
  exact h3
theorem fill_end {place : Nat → Option (Nat × Nat)} {X : List Value} : Instr.fill place X.toArray [] = some X.toArray := rfl
/-! cells that are a list's -/
structure Rows {α : Type} (r : Rep α) (M : Mem) (xs : List α) (c : List Value) : Prop where
  len : c.length = xs.length * r.sz
  one : c.all Value.oneCell' = true
  el : ∀ (i : Nat) x, xs[i]? = some x → r.R M x ((c.drop (i * r.sz)).take r.sz)
theorem Rows.mono {α : Type} {r : Rep α} {M M' : Mem} {xs : List α} {c : List Value} (hm : MLe M M') (h : Rows r M xs c) : Rows r M' xs c := ⟨h.len, h.one, fun i x hx => r.mono hm (h.el i x hx)⟩
theorem Rows.nil {α : Type} {r : Rep α} {M : Mem} : Rows r M ([] : List α) [] := ⟨by simp, rfl, fun i x hx => by simp at hx⟩
theorem Rows.single {α : Type} {r : Rep α} {M : Mem} {x : α} {c : List Value} (h : r.R M x c) : Rows r M [x] c :=
  ⟨by simp [r.len h], r.one h, fun i y hy => by
    cases i with
    | zero => simp at hy; subst hy; rw [Nat.zero_mul, List.drop_zero, ← r.len h, List.take_length]; exact h
    | succ i => simp at hy⟩
theorem Rows.app {α : Type} {r : Rep α} {M : Mem} {xs ys : List α} {c d : List Value} (h : Rows r M xs c) (h' : Rows r M ys d) : Rows r M (xs ++ ys) (c ++ d) :=
  ⟨by rw [List.length_append, List.length_append, h.len, h'.len, Nat.add_mul], by rw [List.all_append, h.one, h'.one]; rfl, fun i x hx => by
    by_cases hi : i < xs.length
    · rw [List.getElem?_append_left hi] at hx
      have h1 : i * r.sz + r.sz ≤ c.length := by rw [h.len, ← Nat.succ_mul]; exact Nat.mul_le_mul_right _ hi
      have := h.el i x hx
      rw [List.drop_append_of_le_length (by omega), List.take_append_of_le_length (by rw [List.length_drop]; omega)]
      exact this
    · rw [List.getElem?_append_right (by omega)] at hx
      have := h'.el _ x hx
      have e : i * r.sz = c.length + (i - xs.length) * r.sz := by rw [h.len, ← Nat.add_mul]; congr 1; omega
      rw [e, ← List.drop_drop, List.drop_left]
      exact this⟩
theorem Rows.map {α : Type} {r : Rep α} {M : Mem} {f : α → Value} (hsz : r.sz = 1) (hf : ∀ x, r.R M x [f x]) : ∀ (xs : List α), Rows r M xs (xs.map f)
  | [] => Rows.nil
  | x :: xs => Rows.app (Rows.single (hf x)) (Rows.map hsz hf xs)
theorem Rows.flat {α : Type} {r : Rep α} {M : Mem} {f : α → List Value} (hf : ∀ x, r.R M x (f x)) : ∀ (xs : List α), Rows r M xs (xs.flatMap f)
  | [] => Rows.nil
  | x :: xs => Rows.app (Rows.single (hf x)) (Rows.flat hf xs)
theorem Rows.ints {M : Mem} (xs : List Int) : Rows rInt M xs (xs.map fun n => .int .i64 n) := Rows.map rfl (fun _ => rfl) xs
theorem frz {α : Type} {r : Rep α} {M' : Mem} {xs : List α} {n sz : Nat} {v : Value} {c : List Value} (hz : ∃ A cap, v = .slice A n cap ∧ n ≤ cap ∧ c.length = n * sz ∧ (0 < n → ∃ b o, A = some ⟨b, o, none⟩ ∧ ∀ j u, c[j]? = some u → M' ⟨b, o + j, none⟩ = some u))
    (hR : Rows r M' xs c) (hn : n = xs.length) : ∃ A cap, v = .slice A xs.length cap ∧ SlR r M' A cap xs := by
  subst hn
  obtain ⟨A, cap, rfl, h1, h2, h3⟩ := hz
  exact ⟨A, cap, rfl, SlR.frozen h1 h3 hR.el⟩
theorem frzS {α : Type} {r : Rep α} {M' : Mem} {xs : List α} {n sz cap0 : Nat} {A0 : Option Addr} {c : List Value} (hz : ∃ A cap, Value.slice A0 n cap0 = .slice A n cap ∧ n ≤ cap ∧ c.length = n * sz ∧ (0 < n → ∃ b o, A = some ⟨b, o, none⟩ ∧ ∀ j u, c[j]? = some u → M' ⟨b, o + j, none⟩ = some u))
    (hR : Rows r M' xs c) (hn : n = xs.length) : SlR r M' A0 cap0 xs := by
  subst hn
  obtain ⟨A, cap, he, h1, h2, h3⟩ := hz
  cases he
  exact SlR.frozen h1 h3 hR.el
theorem SlR.srcs {α : Type} {r : Rep α} {M : Mem} {A : Option Addr} {cap : Nat} {xs : List α} (h : SlR r M A cap xs) :
    ∃ cs, (∀ L, Src M L (.slice A xs.length cap) r.sz xs.length cs) ∧ Rows r M xs cs := by
  obtain ⟨cs, h1, h2, h3⟩ := h.src []
  refine ⟨cs, fun L => ?_, h1.1, h2, h3⟩
  obtain ⟨g1, B, k, g2, g3, g4⟩ := h1
  exact ⟨g1, B, k, g2, g3, fun cx w ho => g4 cx w (Own.drop (L := L) (by rw [List.append_nil]; exact ho))⟩
section
variable {cx : Cx} {Q : Post} {E : Env} {M : Mem} {L : List Ent} {ops : Array Oper} {d T : Nat} {pos : String} {af : Array Edge} {rest : List Oper} {x y z : Operand} {v u : Value}
theorem jc_blkrow {cc : Code} {B T sz n : Nat} {c : List Value} (hc : c.length = n * sz) (h0 : 0 < n) (hk : JC cx cc Q E M (.row (.slice (some ⟨B, 0, none⟩) n n) T sz n c :: L)) : JC cx cc Q E M (.blk B T c :: L) := fun a w hs ho =>
  hk a w hs (ho.alter (by simp [Ent.bs]; omega) (row_of (rest := []) hc h0 (Nat.le_refl _) (by simp) (by have := ho.at' (i := 0) rfl; simpa [Ent.holds] using this)))
/-- the first of them are kept -/
theorem jp_tk {e : Exit} {L1 L2 : List Ent} (h : Ap L1 L2 L) (hk : JP cx Q e E M L1) : JP cx Q e E M L := by
  cases h
  exact fun a w hs ho => hk a w hs (Own.drop (L := L2) (ho.perm List.perm_append_comm))
/-- a call that is lent the first blocks; what is told, and owned then, hangs on some x -/
theorem jcallx {X : Type} {f : FuncId} {args tys : Array _} {fi ca vs : List Value} {Lb Lr : List Ent} {p : X → Prop} {r : X → Value} {Lo L2 : X → List Ent} [FnI cx.P f]
    (hn : Nat.blt d cx.n = true)
    (hx : ev E x = some (.func (.func f) fi.toArray ca.toArray)) (ha : evL E args.toList = some vs) (hL : Ap Lb Lr L) (hc : Ctr cx.P f (fi ++ vs ++ ca) M Lb (fun v _ L' => ∃ i, p i ∧ v = r i ∧ L' = Lo i)) (hL2 : ∀ i, Ap (Lo i) Lr (L2 i))
    (hk : ∀ i, p i → J cx ops Q rest ((d, r i) :: E) M (L2 i)) : J cx ops Q (⟨some d, .call ⟨.value x, args, tys⟩, T, pos, af, none⟩ :: rest) E M L :=
  j_op rfl fun a w hs ho K hK => by
    have hargs : args.map a.eval = vs.toArray := by apply Array.ext'; simpa using evs ha hs
    have hrun : (execOp a.eval ⟨some d, .call ⟨.value x, args, tys⟩, T, pos, af, none⟩).run cx.P w = .ok (.enter f (fi ++ vs ++ ca).toArray) w := by
      simp [execOp, resolve, hargs, hs.ev hx, Deferred.ofValue, invoke, run_callFunc]
    unfold Oper.wp
    rw [hrun, Oper.upon_enter]
    have ho' : Own cx M w (Lb ++ Lr) := by rw [show Lb ++ Lr = L from hL]; exact ho
    refine (hc w ho'.lend).mono ?_
    rintro e w' ⟨_, M', _, rfl, ⟨i, hp, rfl, rfl⟩, h2⟩
    have h3 := ho'.call h2
    rw [show Lo i ++ Lr = L2 i from hL2 i] at h3
    exact hK _ _ (hk i hp _ _ (hs.put (by simpa using hn) _) (h3.less (fun a u hu => h2.old a u hu) ho.old))
theorem jcallb {f : FuncId} {args tys : Array _} {fi ca vs : List Value} {Lb Lr : List Ent} {r : Value} {Lo L2 : List Ent} [FnI cx.P f]
    (hn : Nat.blt d cx.n = true)
    (hx : ev E x = some (.func (.func f) fi.toArray ca.toArray)) (ha : evL E args.toList = some vs) (hL : Ap Lb Lr L) (hc : Ctr cx.P f (fi ++ vs ++ ca) M Lb (fun v _ L' => v = r ∧ L' = Lo)) (hL2 : Ap Lo Lr L2)
    (hk : J cx ops Q rest ((d, r) :: E) M L2) : J cx ops Q (⟨some d, .call ⟨.value x, args, tys⟩, T, pos, af, none⟩ :: rest) E M L :=
  jcallx (X := Unit) (p := fun _ => True) (r := fun _ => r) (Lo := fun _ => Lo) (L2 := fun _ => L2) hn hx ha hL (hc.mono fun _ _ _ h => ⟨(), trivial, h.1, h.2⟩) (fun _ => hL2) (fun _ _ => hk)
/-- a call that hands a row -/
theorem jcallr {f : FuncId} {args tys : Array _} {fi ca vs : List Value} {Lb Lr : List Ent} {Lo L2 : Value → List Ent} [FnI cx.P f]
    (hn : Nat.blt d cx.n = true)
    (hx : ev E x = some (.func (.func f) fi.toArray ca.toArray)) (ha : evL E args.toList = some vs) (hL : Ap Lb Lr L) (hc : Ctr cx.P f (fi ++ vs ++ ca) M Lb (fun v _ L' => L' = Lo v)) (hL2 : ∀ v, Ap (Lo v) Lr (L2 v))
    (hk : ∀ v, J cx ops Q rest ((d, v) :: E) M (L2 v)) : J cx ops Q (⟨some d, .call ⟨.value x, args, tys⟩, T, pos, af, none⟩ :: rest) E M L :=
  jcallx (X := Value) (p := fun _ => True) (r := fun v => v) (Lo := Lo) (L2 := L2) hn hx ha hL (hc.mono fun v _ _ h => ⟨v, trivial, rfl, h⟩) hL2 (fun v _ => hk v)
/-- a row's cells are known, and no more owned -/
theorem jp_freeze {e : Exit} {T sz n : Nat} {c : List Value} (hk : ∀ M', MLe M M' → (∃ A cap, v = .slice A n cap ∧ n ≤ cap ∧ c.length = n * sz ∧ (0 < n → ∃ b o, A = some ⟨b, o, none⟩ ∧ ∀ j u, c[j]? = some u → M' ⟨b, o + j, none⟩ = some u)) → JP cx Q e E M' L) :
    JP cx Q e E M (.row v T sz n c :: L) := fun a w hs ho => by
  let ops0 : Array Oper := #[]
  have h := j_freeze (ops := ops0) (rest := []) (Q := fun e' a' w' => e' = .normal → Q e a' w') (cx := cx) (E := E) (M := M) (L := L) (v := v) (e := T) (sz := sz) (n := n) (c := c) (fun M' hm hx a' w' hs' ho' => by
    have := hk M' hm hx a' w' hs' ho'
    simp only [wpList]
    exact fun _ => this) a w hs ho
  simp only [wpList] at h
  exact h trivial
end
/-! in a drawn region: what looks at no memory -/
section
variable {cx : Cx} {Q : Post} {E : Env} {M : Mem} {L : List Ent} {ops : Array Oper} {d T : Nat} {pos : String} {af : Array Edge} {rest : List Oper} {x y z : Operand} {v u : Value}
def Z (cx : Cx) (o : Oper) (E : Env) (v : Value) : Prop := ∀ a w, Sat cx.ds cx.n E a → (execOp a.eval o).run cx.P w = .ok (.value v) w
theorem zm (hx : ev E x = some v) : Z cx ⟨some d, .move x, T, pos, af, none⟩ E v := fun a w hs => by simp [execOp, hs.ev hx]
theorem za (hx : ev E x = some v) : Z cx ⟨some d, .assign x, T, pos, af, none⟩ E v := fun a w hs => by simp [execOp, hs.ev hx]
theorem zext {vs : Array Value} {i : Nat}  (hx : ev E x = some (.tuple vs)) (hv : vs[i]? = some v) : Z cx ⟨some d, .extract x i, T, pos, af, none⟩ E (v) := fun a w hs => by simp [execOp, hs.ev hx, Instr.extract, hv]
theorem znil {ad : Addr}  (hx : ev E x = some (.pointer (some ad))) : Z cx ⟨some d, .nilCheck x, T, pos, af, none⟩ E (.pointer (some ad)) := fun a w hs => by simp [execOp, hs.ev hx]
theorem zfa {t f B o off ft : Nat} {ag : Bool} {sz : Nat} [St : StI cx.P t f off ft] [Ty : TyI cx.P ft ag sz]  (hz : Nat.beq sz 0 = false)
    (hx : ev E x = some (.pointer (some ⟨B, o, none⟩))) : Z cx ⟨some d, .fieldAddr t x f, T, pos, af, none⟩ E (.pointer (some ⟨B, o + off, none⟩)) := fun a w hs => by
    obtain ⟨fs, F, h1, h2, h3, h4⟩ := St.h
    have hz' : ¬ sz = 0 := fun e => by subst e; simp at hz
    simp only [execOp, hs.ev hx, Instr.fieldAt, Sem.run_bind, run_underlying h1, Result.andThen_ok, h2, Instr.sureAddr, Sem.run_pure, fieldPlace, h4, run_sz, h3, hz', if_false, add_at]
theorem zia {t n e sz B o : Nat} {ag : Bool} {k : IntKind} {i : Int} [Ar : ArI cx.P t n e] [TyI cx.P e ag sz]  (hx : ev E x = some (.pointer (some ⟨B, o, none⟩))) (hy : ev E y = some (.int k i))
    (h0 : 0 ≤ i) (h1 : i < n) : Z cx ⟨some d, .indexAddr t x y, T, pos, af, none⟩ E (.pointer (some ⟨B, o + i.toNat * sz, none⟩)) := fun a w hs => by
    simp only [execOp, hs.ev hx, hs.ev hy, Instr.indexAt, asIntOf, Sem.run_bind, Sem.run_pure, run_underlying Ar.h, Result.andThen_ok, Instr.sureAddr, h0, h1, and_self, if_true, run_sz, add_at]
theorem zsa {t n e sz B o : Nat} {ag : Bool} [Ar : ArI cx.P t n e] [TyI cx.P e ag sz] (hx : ev E x = some (.pointer (some ⟨B, o, none⟩))) : Z cx ⟨some d, .slice t x none none none, T, pos, af, none⟩ E (.slice (some ⟨B, o, none⟩) n n) := fun a w hs => by
  have h0 : (⟨B, o, none⟩ : Addr).add (0 * sz) = ⟨B, o, none⟩ := by rw [Nat.zero_mul]; rfl
  simp only [execOp, hs.ev hx, Instr.sliceAt, Sem.run_bind, run_underlying Ar.h, Result.andThen_ok, Instr.sureAddr, Sem.run_pure, Instr.sliceBounds, Option.map_none, run_sz, h0, ite_self, Nat.sub_zero]
theorem c_drawL {i : Nat} {l : List Oper} (R : List Nat) {Lx Lr : List Ent} (hm : cx.P.follows .mixedOrders = true) (hL : Ap Lx Lr L) (h : JD cx l.toArray R M Lr Q l.length (Array.replicate l.length false) E M L) : JC cx (.region i l.toArray true) Q E M L := fun a w hs ho =>
  wp_region_any hm (by
    have := wpAny_of_C _ _ _ _ (h a w.drew hs ho.drew)
    simpa using this)
/-- what hangs on what was not wanted itself -/
theorem jg_u {j t : Nat} {want : Bool} {op : Op} (hn : Nat.blt d cx.n = true) (hd : (ops[j]?).bind (·.dst) = some t) (hb : find E t = some undef)
    (hk : J cx ops Q rest ((d, undef) :: E) M L) : J cx ops Q (⟨some d, op, T, pos, af, some (j, want)⟩ :: rest) E M L := fun a w hs ho => by
  have hy : yielded ops a.tmps j = none := by unfold yielded; rw [hd]; simp [hs.g t _ hb]; rfl
  unfold wpList
  have : ((none : Option Bool) == some want) = false := by cases want <;> rfl
  simp only [Region.wanted, hy, this, Bool.false_eq_true, if_false]
  exact hk _ _ (hs.put (by simpa using hn) undef) ho
theorem jd_u [PI Q] {R : List Nat} {Mr : Mem} {Lr : List Ent} {fuel : Nat} {listed : Array Bool} {i j t : Nat} {want : Bool} {op : Op} {l' : Array Bool} (hi : ops[i]? = some ⟨some d, op, T, pos, af, some (j, want)⟩) (hn : Nat.blt d cx.n = true) (hsel : Region.noSelect ops = true)
    (hr : (Region.ready .any ops listed).contains i = true) (hf : freeB ops i listed = true) (hcl : closedB ops listed = true) (hl : listed.setIfInBounds i true = l') (hd : (ops[j]?).bind (·.dst) = some t) (hb : find E t = some undef)
    (h : JD cx ops R Mr Lr Q fuel l' ((d, undef) :: E) M L) : JD cx ops R Mr Lr Q (fuel + 1) listed E M L := fun a w hs ho => by
  refine wpAnyC_first (D := fun _ => True) hi (sel_spec hsel) (fun _ _ _ _ _ _ _ _ _ => trivial) fuel listed a w (freeB_spec hi hf) (closedB_spec hcl) (by simpa using hr) (.inr ⟨?_, rfl⟩) trivial ?_
  · have hy : yielded ops a.tmps j = none := by unfold yielded; rw [hd]; simp [hs.g t _ hb]; rfl
    unfold Region.wanted
    simp only [hy]
    cases want <;> rfl
  · rw [hl]; exact h _ w (hs.put (by simpa using hn) undef) ho
/-- a loop whose rounds are counted -/
def rq (cx : Cx) (c : Code) (Q : Post) (n : Nat) : Post := Exit.then (Code.rounds cx.P c Q n) Q
instance {c : Code} {Q : Post} {n : Nat} [h : PI Q] : PI (rq cx c Q n) := ⟨fun ch a d v w hq => h.h ch a d v w hq⟩
theorem c_unr {c : Code} (n : Nat) (h : JC cx c (rq cx c Q n) E M L) : JC cx (.loop c) Q E M L := fun a w hs ho => wp_loop_rounds (n + 1) (h a w hs ho)
theorem p_rq {c : Code} {n : Nat} (h : JC cx c (rq cx c Q n) E M L) : JP cx (rq cx c Q (n + 1)) .normal E M L := fun a w hs ho => h a w hs ho
theorem p_rq_ret {c : Code} {n : Nat} (h : JP cx Q .ret E M L) : JP cx (rq cx c Q n) .ret E M L := h
theorem p_rq_exit {c : Code} {n i : Nat} (h : JP cx Q (.exit i) E M L) : JP cx (rq cx c Q n) (.exit i) E M L := h
theorem p_rq_pan {c : Code} {n : Nat} {ch : List PanicEntry} (h : JP cx Q (.panic ch) E M L) : JP cx (rq cx c Q n) (.panic ch) E M L := h
/-- a call that is lent the blocks behind the first ones, whatever these are -/
theorem jcallo {f : FuncId} {args tys : Array _} {fi ca vs : List Value} {Lx Lb Lo L2 : List Ent} {r : Value} [FnI cx.P f] (hn : Nat.blt d cx.n = true)
    (hx : ev E x = some (.func (.func f) fi.toArray ca.toArray)) (ha : evL E args.toList = some vs) (hL : Ap Lx Lb L) (hc : Ctr cx.P f (fi ++ vs ++ ca) M Lb (fun v _ L' => v = r ∧ L' = Lo)) (hL2 : Ap Lx Lo L2)
    (hk : J cx ops Q rest ((d, r) :: E) M L2) : J cx ops Q (⟨some d, .call ⟨.value x, args, tys⟩, T, pos, af, none⟩ :: rest) E M L := by
  cases hL; cases hL2
  refine j_perm List.perm_append_comm (jcallb hn hx ha rfl hc rfl (j_perm List.perm_append_comm hk))
/-- the first of them are dropped -/
theorem jp_dr {e : Exit} {L1 L2 : List Ent} (h : Ap L1 L2 L) (hk : JP cx Q e E M L2) : JP cx Q e E M L := by
  cases h; exact jp_drop hk
theorem p_retK {fn : Func} {Ps : Value → Mem → List Ent → Prop} {rs : List ResultVar} {vs : List Value} {L1 L2 : List Ent} (hA : Ap L1 L2 L) (hds : cx.ds = []) (hr : fn.results = rs.toArray) (h : Res cx.P E L rs vs) (hp : Ps (outv vs) M L1) : JP cx (bq cx fn Ps) .ret E M L :=
  p_ret hds hr h fun w ho => ⟨M, L1, hp, by cases hA; exact Own.drop (L := L2) (ho.perm List.perm_append_comm)⟩
theorem p_endK {fn : Func} {Ps : Value → Mem → List Ent → Prop} {rs : List ResultVar} {vs : List Value} {L1 L2 : List Ent} (hA : Ap L1 L2 L) (hds : cx.ds = []) (hr : fn.results = rs.toArray) (h : Res cx.P E L rs vs) (hp : Ps (outv vs) M L1) : JP cx (bq cx fn Ps) .normal E M L :=
  p_end hds hr h fun w ho => ⟨M, L1, hp, by cases hA; exact Own.drop (L := L2) (ho.perm List.perm_append_comm)⟩
theorem p_retD {fn : Func} {Ps : Value → Mem → List Ent → Prop} {rs : List ResultVar} {vs : List Value} {L1 L2 : List Ent} (hA : Ap L1 L2 L) (hds : cx.ds = []) (hr : fn.results = rs.toArray) (h : Res cx.P E L rs vs) (hp : Ps (outv vs) M L2) : JP cx (bq cx fn Ps) .ret E M L :=
  p_ret hds hr h fun w ho => ⟨M, L2, hp, by cases hA; exact Own.drop ho⟩
theorem p_endD {fn : Func} {Ps : Value → Mem → List Ent → Prop} {rs : List ResultVar} {vs : List Value} {L1 L2 : List Ent} (hA : Ap L1 L2 L) (hds : cx.ds = []) (hr : fn.results = rs.toArray) (h : Res cx.P E L rs vs) (hp : Ps (outv vs) M L2) : JP cx (bq cx fn Ps) .normal E M L :=
  p_end hds hr h fun w ho => ⟨M, L2, hp, by cases hA; exact Own.drop ho⟩
theorem jd_z [PI Q] {R : List Nat} {Mr : Mem} {Lr : List Ent} {fuel : Nat} {listed : Array Bool} {i : Nat} {op : Op} {l' : Array Bool} (hi : ops[i]? = some ⟨some d, op, T, pos, af, none⟩) (hn : Nat.blt d cx.n = true) (hsel : Region.noSelect ops = true)
    (hr : (Region.ready .any ops listed).contains i = true) (hf : freeB ops i listed = true) (hcl : closedB ops listed = true) (hl : listed.setIfInBounds i true = l') (hy : Z cx ⟨some d, op, T, pos, af, none⟩ E v)
    (h : JD cx ops R Mr Lr Q fuel l' ((d, v) :: E) M L) : JD cx ops R Mr Lr Q (fuel + 1) listed E M L := jd_pure hi hn hsel hr hf hcl hl hy h
end
end Go.Proofs.YtihgpbpcbbgdiaaGreat

/- The program's data as Lean's, and how they lie in cells. -/
namespace Go.Proofs.YtihgpbpcbbgdiaaGreat
open Go.RowKit
set_option linter.unusedVariables false
set_option linter.unusedSimpArgs false

abbrev Vec := Vector Int 16
structure Rights where
  given : Vec
  used : Vec
  moved : Vector Vec 16
deriving DecidableEq
structure Counter where
  init : Int
  low : Int
  high : Int
  down : Rights
  up : Rights
deriving DecidableEq
structure Lock where
  seq : Int
  ver : Int
  holder : Int
  value : Int
deriving DecidableEq
structure Hold where
  replica : Int
  number : Int
  amount : Int
  due : Int
  state : Int
deriving DecidableEq
structure Plan where
  kind : Int
  name : ByteArray
  other : ByteArray
  a : Int
  b : Int
deriving DecidableEq
structure Field where
  name : ByteArray
  kind : Int
  epoch : Int
  counter : Counter
  lock : Lock
  holds : List Hold
deriving DecidableEq

abbrev vi (n : Int) : Value := .int .i64 n
def encVec (v : Vec) : List Value := v.toList.map vi
def encMoved (m : Vector Vec 16) : List Value := m.toList.flatMap encVec
def encRights (r : Rights) : List Value := encVec r.given ++ (encVec r.used ++ encMoved r.moved)
def encCounter (c : Counter) : List Value := vi c.init :: vi c.low :: vi c.high :: (encRights c.down ++ encRights c.up)
def encLock (l : Lock) : List Value := [vi l.seq, vi l.ver, vi l.holder, vi l.value]
def encHold (h : Hold) : List Value := [vi h.replica, vi h.number, vi h.amount, vi h.due, vi h.state]
def encPlan (p : Plan) : List Value := [vi p.kind, .string p.name, .string p.other, vi p.a, vi p.b]
def encF (f : Field) (A : Option Addr) (cap : Nat) : List Value := .string f.name :: vi f.kind :: vi f.epoch :: (encCounter f.counter ++ (encLock f.lock ++ [.slice A f.holds.length cap]))

theorem len_vec (v : Vec) : (encVec v).length = 16 := by simp [encVec]
theorem len_flat (l : List Vec) : (l.flatMap encVec).length = l.length * 16 := by
  induction l with
  | nil => rfl
  | cons a l ih => simp only [List.flatMap_cons, List.length_append, len_vec, ih, List.length_cons]; omega
theorem len_moved (m : Vector Vec 16) : (encMoved m).length = 256 := by
  unfold encMoved
  rw [len_flat, Vector.length_toList]
theorem len_rights (r : Rights) : (encRights r).length = 288 := by simp [encRights, len_vec, len_moved]
theorem len_counter (c : Counter) : (encCounter c).length = 579 := by simp [encCounter, len_rights]
theorem len_lock (l : Lock) : (encLock l).length = 4 := rfl
theorem len_hold (l : Hold) : (encHold l).length = 5 := rfl
theorem len_plan (l : Plan) : (encPlan l).length = 5 := rfl
theorem len_F (f : Field) (A : Option Addr) (cap : Nat) : (encF f A cap).length = 587 := by simp [encF, len_counter, encLock]
theorem one_vec (v : Vec) : (encVec v).all Value.oneCell' = true := by simp [encVec, Value.oneCell']
theorem one_moved (m : Vector Vec 16) : (encMoved m).all Value.oneCell' = true := by
  rw [List.all_eq_true]; intro x hx
  obtain ⟨v, _, hv⟩ := List.mem_flatMap.1 hx
  exact List.all_eq_true.1 (one_vec v) x hv
theorem one_rights (r : Rights) : (encRights r).all Value.oneCell' = true := by simp [encRights, one_vec, one_moved, List.all_append, -List.all_eq_true]
theorem one_counter (c : Counter) : (encCounter c).all Value.oneCell' = true := by simp [encCounter, one_rights, List.all_append, List.all_cons, Value.oneCell', -List.all_eq_true]
theorem one_lock (l : Lock) : (encLock l).all Value.oneCell' = true := rfl
theorem one_hold (l : Hold) : (encHold l).all Value.oneCell' = true := rfl
theorem one_plan (l : Plan) : (encPlan l).all Value.oneCell' = true := rfl
theorem one_F (f : Field) (A : Option Addr) (cap : Nat) : (encF f A cap).all Value.oneCell' = true := by
  simp [encF, one_counter, one_lock, List.all_append, List.all_cons, Value.oneCell', -List.all_eq_true]

/-! parts -/
theorem take_app {a b : List Value} {n : Nat} (h : a.length = n) : (a ++ b).take n = a := by rw [← h, List.take_left]
theorem drop_app {a b : List Value} {n : Nat} (h : a.length = n) : (a ++ b).drop n = b := by rw [← h, List.drop_left]
theorem drop_drop_app {a b : List Value} {n m : Nat} (h : a.length = n) : (a ++ b).drop (n + m) = b.drop m := by rw [← List.drop_drop, drop_app h]
theorem get_app {a b : List Value} {n m : Nat} (h : a.length = n) : (a ++ b)[n + m]? = b[m]? := by rw [List.getElem?_append_right (by omega)]; congr 1; omega
section
variable (v : Vec) (r : Rights) (c : Counter) (f : Field) (A : Option Addr) (cap : Nat)
theorem pR_given : ((encRights r).drop 0).take 16 = encVec r.given := take_app (len_vec _)
theorem pR_used : ((encRights r).drop 16).take 16 = encVec r.used := by
  unfold encRights; rw [drop_app (len_vec _), take_app (len_vec _)]
theorem pR_moved : ((encRights r).drop 32).take 256 = encMoved r.moved := by
  unfold encRights
  rw [show 32 = 16 + 16 from rfl, drop_drop_app (len_vec _), drop_app (len_vec _), ← len_moved r.moved, List.take_length]
theorem pC_down : ((encCounter c).drop 3).take 288 = encRights c.down := take_app (len_rights _)
theorem pC_up : ((encCounter c).drop 291).take 288 = encRights c.up := by
  unfold encCounter
  simp only [List.drop_succ_cons]
  rw [drop_app (len_rights _), ← len_rights c.up, List.take_length]
theorem pC_dgiven : ((encCounter c).drop 3).take 16 = encVec c.down.given := by
  unfold encCounter encRights; simp only [List.drop_succ_cons, List.drop_zero, List.append_assoc]; exact take_app (len_vec _)
theorem pC_dused : ((encCounter c).drop 19).take 16 = encVec c.down.used := by
  unfold encCounter encRights; simp only [List.drop_succ_cons, List.append_assoc]; rw [drop_app (len_vec _), take_app (len_vec _)]
theorem pC_uused : ((encCounter c).drop 307).take 16 = encVec c.up.used := by
  unfold encCounter
  simp only [List.drop_succ_cons]
  rw [show 304 = 288 + 16 from rfl, drop_drop_app (len_rights _)]
  unfold encRights
  rw [drop_app (len_vec _), take_app (len_vec _)]
theorem pC_ugiven : ((encCounter c).drop 291).take 16 = encVec c.up.given := by
  unfold encCounter
  simp only [List.drop_succ_cons]
  rw [drop_app (len_rights _)]
  exact take_app (len_vec _)
theorem pF_counter : ((encF f A cap).drop 3).take 579 = encCounter f.counter := take_app (len_counter _)
theorem pF_lock : ((encF f A cap).drop 582).take 4 = encLock f.lock := by
  unfold encF; simp only [List.drop_succ_cons]; rw [drop_app (len_counter _), take_app (len_lock _)]
theorem gF (k : Nat) : (encF f A cap)[582 + k]? = (encLock f.lock ++ [.slice A f.holds.length cap])[k]? := by
  unfold encF
  rw [show 582 + k = (579 + k) + 1 + 1 + 1 by omega]
  simp only [List.getElem?_cons_succ]
  exact get_app (len_counter _)
theorem pF_holds : (encF f A cap)[586]? = some (.slice A f.holds.length cap) := gF f A cap 4
theorem pF_value : (encF f A cap)[585]? = some (vi f.lock.value) := gF f A cap 3
theorem pF_low : (encF f A cap)[4]? = some (vi f.counter.low) := rfl
theorem pF_high : (encF f A cap)[5]? = some (vi f.counter.high) := rfl
/-! parts put -/
theorem uF_kind (n : Int) : (encF f A cap).take 1 ++ [vi n] ++ (encF f A cap).drop (1 + 1) = encF { f with kind := n } A cap := rfl
theorem uF_epoch (n : Int) : (encF f A cap).take 2 ++ [vi n] ++ (encF f A cap).drop (2 + 1) = encF { f with epoch := n } A cap := rfl
theorem uF_counter (d : Counter) : (encF f A cap).take 3 ++ encCounter d ++ (encF f A cap).drop (3 + 579) = encF { f with counter := d } A cap := by
  unfold encF
  simp only [List.drop_succ_cons, List.take_succ_cons, List.take_zero, List.cons_append, List.nil_append]
  rw [drop_app (len_counter _)]
theorem uF_lock (d : Lock) : (encF f A cap).take 582 ++ encLock d ++ (encF f A cap).drop (582 + 4) = encF { f with lock := d } A cap := by
  unfold encF
  simp only [List.drop_succ_cons, List.take_succ_cons, List.cons_append, List.append_assoc]
  rw [take_app (len_counter _), show 579 + 4 = 579 + 4 from rfl, drop_drop_app (len_counter _), drop_app (len_lock _)]
theorem uF_holds (hs : List Hold) (B : Option Addr) (k : Nat) : (encF f A cap).take 586 ++ [.slice B hs.length k] ++ (encF f A cap).drop (586 + 1) = encF { f with holds := hs } B k := by
  unfold encF
  simp only [List.drop_succ_cons, List.take_succ_cons, List.cons_append, List.append_assoc]
  rw [show (583 : Nat) = 579 + 4 from rfl, List.take_append, len_counter, List.take_of_length_le (by rw [len_counter]; omega)]
  rw [show (579 + 4 - 579 : Nat) = 4 from rfl, take_app (len_lock _), show 584 = 579 + 5 from rfl, drop_drop_app (len_counter _)]
  rw [show (5 : Nat) = 4 + 1 from rfl, drop_drop_app (len_lock _)]
  simp
end
def rVec : Rep Vec := Rep.enc 16 encVec len_vec one_vec
def rHold : Rep Hold := Rep.enc 5 encHold len_hold one_hold
def rPlan : Rep Plan := Rep.enc 5 encPlan len_plan one_plan
def rField : Rep Field where
  sz := 587
  R := fun M f c => ∃ A cap, c = encF f A cap ∧ SlR rHold M A cap f.holds
  len := fun ⟨A, cap, h, _⟩ => h ▸ len_F _ _ _
  mono := fun hm ⟨A, cap, h, hr⟩ => ⟨A, cap, h, hr.mono hm⟩
  one := fun ⟨A, cap, h, _⟩ => h ▸ one_F _ _ _
end Go.Proofs.YtihgpbpcbbgdiaaGreat
