/- Structs and arrays that are built; arrays that are sliced. -/
import Derived.Test.YtihgpbpcbbgdiaaGreatCore9
namespace Go.Proofs.YtihgpbpcbbgdiaaGreat
open Go.RowKit
set_option linter.unusedVariables false
set_option linter.unusedSimpArgs false

/-- the fields' places -/
class BuI (P : Program) (T : Nat) (ps : outParam (List (Nat × Nat))) : Prop where
  h : ∃ fs, P.underlying T = some (.struct fs) ∧ (fs.toList.map fun f => (P.info? f.type).map fun i => (f.offset, i.size)) = ps.map some
theorem run_places {P : Program} (w : World) : ∀ (fs : List Go.Field) (ps : List (Nat × Nat)), (fs.map fun f => (P.info? f.type).map fun i => (f.offset, i.size)) = ps.map some →
    (fs.mapM (fun f => (do pure (f.offset, ← sizeOf f.type) : Sem (Nat × Nat)))).run P w = .ok ps w
  | [], ps, h => by cases ps <;> simp_all
  | f :: fs, [], h => by simp at h
  | f :: fs, p :: ps, h => by
    simp only [List.map_cons, List.cons.injEq] at h
    have ih := run_places w fs ps h.2
    cases hi : P.info? f.type with
    | none => simp [hi] at h
    | some i =>
      have hp : p = (f.offset, i.size) := by have := h.1; simp [hi] at this; exact this.symm
      subst hp
      have h1 : (sizeOf f.type).run P w = .ok i.size w := by simp [sizeOf, typeInfo, hi]
      simp only [List.mapM_cons, Sem.run_bind, h1, Result.andThen_ok, Sem.run_pure, ih]
theorem run_build_struct {P : Program} {T : Nat} {ps : List (Nat × Nat)} {zc c : List Value} {pv : List (Nat × Value)} [B : BuI P T ps] [Z : ZeI P T zc] (hf : Instr.fill (ps.toArray[·]?) zc.toArray pv = some c.toArray) (w : World) (parts : Array (Nat × Value)) (hp : parts.toList = pv) :
    (Instr.build T parts).run P w = .ok (.agg c.toArray) w := by
  obtain ⟨fs, h1, h2⟩ := B.h
  obtain ⟨z, hz, hzz⟩ := run_zero (P := P) w (T := T)
  have h3 := run_places w fs.toList ps h2
  have h4 : (Array.mapM (fun f => (do pure (f.offset, ← sizeOf f.type) : Sem (Nat × Nat))) fs).run P w = .ok ps.toArray w := by
    rw [Array.mapM_eq_mapM_toList, map_eq_pure_bind, Sem.run_bind, h3]; rfl
  unfold Instr.build
  simp only [Sem.run_bind, hz, Result.andThen_ok, run_underlying h1, h4, hzz, hp, hf]
  rfl
theorem run_build_array {P : Program} {T n e sz : Nat} {ag : Bool} {zc c : List Value} {pv : List (Nat × Value)} [Ar : ArI P T n e] [TyI P e ag sz] [Z : ZeI P T zc] (hf : Instr.fill (fun i => some (i * sz, sz)) zc.toArray pv = some c.toArray) (w : World) (parts : Array (Nat × Value)) (hp : parts.toList = pv) :
    (Instr.build T parts).run P w = .ok (.agg c.toArray) w := by
  obtain ⟨z, hz, hzz⟩ := run_zero (P := P) w (T := T)
  unfold Instr.build
  simp only [Sem.run_bind, hz, Result.andThen_ok, run_underlying Ar.h, run_sz, hzz, hp, hf]
  rfl
theorem evPs {ds : List Deferred} {n : Nat} {E : Env} : ∀ {l : List (Nat × Operand)} {r : List (Nat × Value)}, evP E l = some r → ∀ {a : Act}, Sat ds n E a → l.map (fun p => (p.1, a.eval p.2)) = r
  | [], r, h, a, hs => by simp [evP] at h; simp [h]
  | (i, o) :: l, r, h, a, hs => by
    simp only [evP] at h
    cases hv : ev E o with
    | none => simp [hv] at h
    | some v =>
      cases hl : evP E l with
      | none => simp [hv, hl] at h
      | some vs => simp [hv, hl] at h; subst h; simp [hs.ev hv, evPs hl hs]
section
variable {cx : Cx} {Q : Post} {E : Env} {M : Mem} {L : List Ent} {ops : Array Oper} {d T : Nat} {pos : String} {af : Array Edge} {rest : List Oper} {x y z : Operand} {v u : Value}
theorem ybu {t : Nat} {ps : List (Nat × Nat)} {zc c : List Value} {pv : List (Nat × Value)} {parts : Array (Nat × Operand)} [BuI cx.P t ps] [ZeI cx.P t zc] (hp : evP E parts.toList = some pv) (hf : Instr.fill (ps.toArray[·]?) zc.toArray pv = some c.toArray) :
    Y cx ⟨some d, .build t parts, T, pos, af, none⟩ E M L (.agg c.toArray) := fun a w hs ho => by
  have := run_build_struct (P := cx.P) (T := t) hf w (parts.map fun (i, x) => (i, a.eval x)) (by have := evPs hp hs; simpa using this)
  simp only [execOp, Sem.run_bind, this, Result.andThen_ok, Sem.run_pure]
theorem jbu {t : Nat} {ps : List (Nat × Nat)} {zc c : List Value} {pv : List (Nat × Value)} {parts : Array (Nat × Operand)} [BuI cx.P t ps] [ZeI cx.P t zc] (hn : Nat.blt d cx.n = true) (hp : evP E parts.toList = some pv) (hf : Instr.fill (ps.toArray[·]?) zc.toArray pv = some c.toArray)
    (hk : J cx ops Q rest ((d, .agg c.toArray) :: E) M L) : J cx ops Q (⟨some d, .build t parts, T, pos, af, none⟩ :: rest) E M L := j_y hn (ybu hp hf) hk
/-- the zero value of a struct, of an array -/
theorem ybu0 {t : Nat} {ps : List (Nat × Nat)} {zc : List Value} [BuI cx.P t ps] [ZeI cx.P t zc] : Y cx ⟨some d, .build t #[], T, pos, af, none⟩ E M L (.agg zc.toArray) := ybu (pv := []) rfl rfl
theorem jbu0 {t : Nat} {ps : List (Nat × Nat)} {zc : List Value} [BuI cx.P t ps] [ZeI cx.P t zc] (hn : Nat.blt d cx.n = true) (hk : J cx ops Q rest ((d, .agg zc.toArray) :: E) M L) : J cx ops Q (⟨some d, .build t #[], T, pos, af, none⟩ :: rest) E M L := j_y hn ybu0 hk
theorem ybua {t n e sz : Nat} {ag : Bool} {zc c : List Value} {pv : List (Nat × Value)} {parts : Array (Nat × Operand)} [ArI cx.P t n e] [TyI cx.P e ag sz] [ZeI cx.P t zc] (hp : evP E parts.toList = some pv) (hf : Instr.fill (fun i => some (i * sz, sz)) zc.toArray pv = some c.toArray) :
    Y cx ⟨some d, .build t parts, T, pos, af, none⟩ E M L (.agg c.toArray) := fun a w hs ho => by
  have := run_build_array (P := cx.P) (T := t) hf w (parts.map fun (i, x) => (i, a.eval x)) (by have := evPs hp hs; simpa using this)
  simp only [execOp, Sem.run_bind, this, Result.andThen_ok, Sem.run_pure]
theorem jbua {t n e sz : Nat} {ag : Bool} {zc c : List Value} {pv : List (Nat × Value)} {parts : Array (Nat × Operand)} [ArI cx.P t n e] [TyI cx.P e ag sz] [ZeI cx.P t zc] (hn : Nat.blt d cx.n = true) (hp : evP E parts.toList = some pv) (hf : Instr.fill (fun i => some (i * sz, sz)) zc.toArray pv = some c.toArray)
    (hk : J cx ops Q rest ((d, .agg c.toArray) :: E) M L) : J cx ops Q (⟨some d, .build t parts, T, pos, af, none⟩ :: rest) E M L := j_y hn (ybua hp hf) hk
theorem jbua0 {t n e sz : Nat} {ag : Bool} {zc : List Value} [ArI cx.P t n e] [TyI cx.P e ag sz] [ZeI cx.P t zc] (hn : Nat.blt d cx.n = true) (hk : J cx ops Q rest ((d, .agg zc.toArray) :: E) M L) : J cx ops Q (⟨some d, .build t #[], T, pos, af, none⟩ :: rest) E M L := jbua (pv := []) hn rfl rfl hk
/-- an array, sliced whole -/
theorem ysa {t n e sz B o : Nat} {ag : Bool} [Ar : ArI cx.P t n e] [TyI cx.P e ag sz] (hx : ev E x = some (.pointer (some ⟨B, o, none⟩))) : Y cx ⟨some d, .slice t x none none none, T, pos, af, none⟩ E M L (.slice (some ⟨B, o, none⟩) n n) := fun a w hs ho => by
  have h0 : (⟨B, o, none⟩ : Addr).add (0 * sz) = ⟨B, o, none⟩ := by rw [Nat.zero_mul]; rfl
  simp only [execOp, hs.ev hx, Instr.sliceAt, Sem.run_bind, run_underlying Ar.h, Result.andThen_ok, Instr.sureAddr, Sem.run_pure, Instr.sliceBounds, Option.map_none, run_sz, h0, ite_self, Nat.sub_zero]
theorem jsa {t n e sz B o : Nat} {ag : Bool} [Ar : ArI cx.P t n e] [TyI cx.P e ag sz] (hn : Nat.blt d cx.n = true) (hx : ev E x = some (.pointer (some ⟨B, o, none⟩))) (hk : J cx ops Q rest ((d, .slice (some ⟨B, o, none⟩) n n) :: E) M L) :
    J cx ops Q (⟨some d, .slice t x none none none, T, pos, af, none⟩ :: rest) E M L := j_y hn (ysa hx) hk
/-- nil is an empty row -/
theorem jc_nilrow {c : Code} (A : Option Addr) (T sz : Nat) (hk : JC cx c Q E M (.row (.slice A 0 0) T sz 0 [] :: L)) : JC cx c Q E M L := fun a w hs ho =>
  hk a w hs (ho.cons0 (by cases A <;> rfl) ⟨by simp, .inl ⟨rfl, A, rfl⟩⟩)
theorem j_nilrow (A : Option Addr) (T sz : Nat) (hk : J cx ops Q rest E M (.row (.slice A 0 0) T sz 0 [] :: L)) : J cx ops Q rest E M L := fun a w hs ho =>
  hk a w hs (ho.cons0 (by cases A <;> rfl) ⟨by simp, .inl ⟨rfl, A, rfl⟩⟩)
/-- a slice written out is a row -/
theorem j_blkrow {B T sz n : Nat} {c : List Value} (hc : c.length = n * sz) (h0 : 0 < n) (hk : J cx ops Q rest E M (.row (.slice (some ⟨B, 0, none⟩) n n) T sz n c :: L)) : J cx ops Q rest E M (.blk B T c :: L) := fun a w hs ho =>
  hk a w hs (ho.alter (by simp [Ent.bs]; omega) (row_of (rest := []) hc h0 (Nat.le_refl _) (by simp) (by have := ho.at' (i := 0) rfl; simpa [Ent.holds] using this)))
theorem jp_drop1 {e : Exit} {x : Ent} (hk : JP cx Q e E M L) : JP cx Q e E M (x :: L) := fun a w hs ho => hk a w hs ho.tail
/-- a row's length -/
theorem jrlen {t e sz n Tr : Nat} {c : List Value} (i : Nat) [Sl : SlI cx.P t e] (hn : Nat.blt d cx.n = true) (hx : ev E x = some v) (hL : L[i]? = some (.row v Tr sz n c)) (hk : J cx ops Q rest ((d, .int .i64 n) :: E) M L) :
    J cx ops Q (⟨some d, .call ⟨.builtin .len, #[x], #[t]⟩, T, pos, af, none⟩ :: rest) E M L :=
  j_val _ rfl hn (fun a w hs ho => by
    obtain ⟨A, cap, hv⟩ := len_of_row (ho.at' hL)
    have hx' := hs.ev hx
    rw [hv] at hx'
    simp [execOp, hx', resolve, invoke, builtin, Builtin.len_, run_underlying Sl.h, goInt]) hk
end
end Go.Proofs.YtihgpbpcbbgdiaaGreat
