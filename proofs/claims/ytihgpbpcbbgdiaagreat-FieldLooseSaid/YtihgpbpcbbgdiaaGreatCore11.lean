/- Blocks put in another order, lent to calls, kept at a return. -/
import Derived.Test.YtihgpbpcbbgdiaaGreatCore10
import Derived.LoopN
namespace Go.Proofs.YtihgpbpcbbgdiaaGreat
open Go.RowKit
set_option linter.unusedVariables false
set_option linter.unusedSimpArgs false
theorem fr_0 {e : Ent} {L : List Ent} : (e :: L).Perm (e :: L) := .refl _
theorem fr_s {a e : Ent} {L L' : List Ent} (h : L.Perm (e :: L')) : (a :: L).Perm (e :: a :: L') := (h.cons a).trans (.swap ..)
def Ap (A B C : List Ent) : Prop := A ++ B = C
theorem Src.part {M : Mem} {L : List Ent} {i B T sz m cap o : Nat} {c r : List Value} (h : L[i]? = some (.blk B T c)) (hr : (c.drop o).take (m * sz) = r) (hl : r.length = m * sz) : Src M L (.slice (some ⟨B, o, none⟩) m cap) sz m r :=
  ⟨hl, _, _, rfl, (by intro h; cases h), fun cx w ho a ha j u hu => by
    cases ha
    have hB : w.heap[B]? = some (Obj.cells c.toArray T (0, 0)) := ho.at' h
    rw [add_at, cell_of_heap hB]
    rw [← hr, List.getElem?_take] at hu
    split at hu
    · simpa using hu
    · cases hu⟩
theorem ap_0 {L : List Ent} : Ap [] L L := rfl
theorem ap_s {e : Ent} {A B C : List Ent} (h : Ap A B C) : Ap (e :: A) B (e :: C) := congrArg (e :: ·) h
theorem fill_put {place : Nat → Option (Nat × Nat)} {off sz : Nat} {v : Value} {c X X' : List Value} {i : Nat} {rest : List (Nat × Value)} {r : Array Value} (hp : place i = some (off, sz)) (hc : v.cells = c.toArray) (hl : c.length = sz) (hX : off + sz ≤ X.length)
    (he : X.take off ++ c ++ X.drop (off + sz) = X') (h : Instr.fill place X'.toArray rest = some r) : Instr.fill place X.toArray ((i, v) :: rest) = some r := by
  have h2 : v.cells.zipIdx.foldl (fun (a : Array Value) (p : Value × Nat) => a.setIfInBounds (off + p.2) p.1) X.toArray = X'.toArray := by
    have := foldl_set c X off 0 (by omega)
    simp only [Nat.add_zero, hl] at this
    rw [← he, ← this, hc]
    simp [List.mapIdx_eq_zipIdx_map]
  rw [Instr.fill]
  simp only [hp]
  have h3 : (if v.cells.size ≠ sz || off + v.cells.size > X.toArray.size then (none : Option (Array Value)) else Instr.fill place (v.cells.zipIdx.foldl (fun cs x => cs.setIfInBounds (off + x.2) x.1) X.toArray) rest) = some r := by
    rw [if_neg (by rw [hc]; simp [hl]; omega), h2, h]
  exact h3
theorem fill_end {place : Nat → Option (Nat × Nat)} {X : List Value} : Instr.fill place X.toArray [] = some X.toArray := rfl
/-! cells that are a list's -/
structure Rows {α : Type} (r : Rep α) (M : Mem) (xs : List α) (c : List Value) : Prop where
  len : c.length = xs.length * r.sz
  one : c.all Value.oneCell' = true
  el : ∀ (i : Nat) x, xs[i]? = some x → r.R M x ((c.drop (i * r.sz)).take r.sz)
theorem Rows.mono {α : Type} {r : Rep α} {M M' : Mem} {xs : List α} {c : List Value} (hm : MLe M M') (h : Rows r M xs c) : Rows r M' xs c := ⟨h.len, h.one, fun i x hx => r.mono hm (h.el i x hx)⟩
theorem Rows.nil {α : Type} {r : Rep α} {M : Mem} : Rows r M ([] : List α) [] := ⟨by simp, rfl, fun i x hx => by simp at hx⟩
theorem Rows.single {α : Type} {r : Rep α} {M : Mem} {x : α} {c : List Value} (h : r.R M x c) : Rows r M [x] c :=
  ⟨by simp [r.len h], r.one h, fun i y hy => by
    cases i with
    | zero => simp at hy; subst hy; rw [Nat.zero_mul, List.drop_zero, ← r.len h, List.take_length]; exact h
    | succ i => simp at hy⟩
theorem Rows.app {α : Type} {r : Rep α} {M : Mem} {xs ys : List α} {c d : List Value} (h : Rows r M xs c) (h' : Rows r M ys d) : Rows r M (xs ++ ys) (c ++ d) :=
  ⟨by rw [List.length_append, List.length_append, h.len, h'.len, Nat.add_mul], by rw [List.all_append, h.one, h'.one]; rfl, fun i x hx => by
    by_cases hi : i < xs.length
    · rw [List.getElem?_append_left hi] at hx
      have h1 : i * r.sz + r.sz ≤ c.length := by rw [h.len, ← Nat.succ_mul]; exact Nat.mul_le_mul_right _ hi
      have := h.el i x hx
      rw [List.drop_append_of_le_length (by omega), List.take_append_of_le_length (by rw [List.length_drop]; omega)]
      exact this
    · rw [List.getElem?_append_right (by omega)] at hx
      have := h'.el _ x hx
      have e : i * r.sz = c.length + (i - xs.length) * r.sz := by rw [h.len, ← Nat.add_mul]; congr 1; omega
      rw [e, ← List.drop_drop, List.drop_left]
      exact this⟩
theorem Rows.map {α : Type} {r : Rep α} {M : Mem} {f : α → Value} (hsz : r.sz = 1) (hf : ∀ x, r.R M x [f x]) : ∀ (xs : List α), Rows r M xs (xs.map f)
  | [] => Rows.nil
  | x :: xs => Rows.app (Rows.single (hf x)) (Rows.map hsz hf xs)
theorem Rows.flat {α : Type} {r : Rep α} {M : Mem} {f : α → List Value} (hf : ∀ x, r.R M x (f x)) : ∀ (xs : List α), Rows r M xs (xs.flatMap f)
  | [] => Rows.nil
  | x :: xs => Rows.app (Rows.single (hf x)) (Rows.flat hf xs)
theorem Rows.ints {M : Mem} (xs : List Int) : Rows rInt M xs (xs.map fun n => .int .i64 n) := Rows.map rfl (fun _ => rfl) xs
theorem frz {α : Type} {r : Rep α} {M' : Mem} {xs : List α} {n sz : Nat} {v : Value} {c : List Value} (hz : ∃ A cap, v = .slice A n cap ∧ n ≤ cap ∧ c.length = n * sz ∧ (0 < n → ∃ b o, A = some ⟨b, o, none⟩ ∧ ∀ j u, c[j]? = some u → M' ⟨b, o + j, none⟩ = some u))
    (hR : Rows r M' xs c) (hn : n = xs.length) : ∃ A cap, v = .slice A xs.length cap ∧ SlR r M' A cap xs := by
  subst hn
  obtain ⟨A, cap, rfl, h1, h2, h3⟩ := hz
  exact ⟨A, cap, rfl, SlR.frozen h1 h3 hR.el⟩
theorem frzS {α : Type} {r : Rep α} {M' : Mem} {xs : List α} {n sz cap0 : Nat} {A0 : Option Addr} {c : List Value} (hz : ∃ A cap, Value.slice A0 n cap0 = .slice A n cap ∧ n ≤ cap ∧ c.length = n * sz ∧ (0 < n → ∃ b o, A = some ⟨b, o, none⟩ ∧ ∀ j u, c[j]? = some u → M' ⟨b, o + j, none⟩ = some u))
    (hR : Rows r M' xs c) (hn : n = xs.length) : SlR r M' A0 cap0 xs := by
  subst hn
  obtain ⟨A, cap, he, h1, h2, h3⟩ := hz
  cases he
  exact SlR.frozen h1 h3 hR.el
theorem SlR.srcs {α : Type} {r : Rep α} {M : Mem} {A : Option Addr} {cap : Nat} {xs : List α} (h : SlR r M A cap xs) :
    ∃ cs, (∀ L, Src M L (.slice A xs.length cap) r.sz xs.length cs) ∧ Rows r M xs cs := by
  obtain ⟨cs, h1, h2, h3⟩ := h.src []
  refine ⟨cs, fun L => ?_, h1.1, h2, h3⟩
  obtain ⟨g1, B, k, g2, g3, g4⟩ := h1
  exact ⟨g1, B, k, g2, g3, fun cx w ho => g4 cx w (Own.drop (L := L) (by rw [List.append_nil]; exact ho))⟩
section
variable {cx : Cx} {Q : Post} {E : Env} {M : Mem} {L : List Ent} {ops : Array Oper} {d T : Nat} {pos : String} {af : Array Edge} {rest : List Oper} {x y z : Operand} {v u : Value}
theorem jc_blkrow {cc : Code} {B T sz n : Nat} {c : List Value} (hc : c.length = n * sz) (h0 : 0 < n) (hk : JC cx cc Q E M (.row (.slice (some ⟨B, 0, none⟩) n n) T sz n c :: L)) : JC cx cc Q E M (.blk B T c :: L) := fun a w hs ho =>
  hk a w hs (ho.alter (by simp [Ent.bs]; omega) (row_of (rest := []) hc h0 (Nat.le_refl _) (by simp) (by have := ho.at' (i := 0) rfl; simpa [Ent.holds] using this)))
/-- the first of them are kept -/
theorem jp_tk {e : Exit} {L1 L2 : List Ent} (h : Ap L1 L2 L) (hk : JP cx Q e E M L1) : JP cx Q e E M L := by
  cases h
  exact fun a w hs ho => hk a w hs (Own.drop (L := L2) (ho.perm List.perm_append_comm))
/-- a call that is lent the first blocks; what is told, and owned then, hangs on some x -/
theorem jcallx {X : Type} {f : FuncId} {args tys : Array _} {fi ca vs : List Value} {Lb Lr : List Ent} {p : X → Prop} {r : X → Value} {Lo L2 : X → List Ent} [FnI cx.P f]
    (hn : Nat.blt d cx.n = true)
    (hx : ev E x = some (.func (.func f) fi.toArray ca.toArray)) (ha : evL E args.toList = some vs) (hL : Ap Lb Lr L) (hc : Ctr cx.P f (fi ++ vs ++ ca) M Lb (fun v _ L' => ∃ i, p i ∧ v = r i ∧ L' = Lo i)) (hL2 : ∀ i, Ap (Lo i) Lr (L2 i))
    (hk : ∀ i, p i → J cx ops Q rest ((d, r i) :: E) M (L2 i)) : J cx ops Q (⟨some d, .call ⟨.value x, args, tys⟩, T, pos, af, none⟩ :: rest) E M L :=
  j_op rfl fun a w hs ho K hK => by
    have hargs : args.map a.eval = vs.toArray := by apply Array.ext'; simpa using evs ha hs
    have hrun : (execOp a.eval ⟨some d, .call ⟨.value x, args, tys⟩, T, pos, af, none⟩).run cx.P w = .ok (.enter f (fi ++ vs ++ ca).toArray) w := by
      simp [execOp, resolve, hargs, hs.ev hx, Deferred.ofValue, invoke, run_callFunc]
    unfold Oper.wp
    rw [hrun, Oper.upon_enter]
    have ho' : Own cx M w (Lb ++ Lr) := by rw [show Lb ++ Lr = L from hL]; exact ho
    refine (hc w ho'.lend).mono ?_
    rintro e w' ⟨_, M', _, rfl, ⟨i, hp, rfl, rfl⟩, h2⟩
    have h3 := ho'.call h2
    rw [show Lo i ++ Lr = L2 i from hL2 i] at h3
    exact hK _ _ (hk i hp _ _ (hs.put (by simpa using hn) _) (h3.less (fun a u hu => h2.old a u hu) ho.old))
theorem jcallb {f : FuncId} {args tys : Array _} {fi ca vs : List Value} {Lb Lr : List Ent} {r : Value} {Lo L2 : List Ent} [FnI cx.P f]
    (hn : Nat.blt d cx.n = true)
    (hx : ev E x = some (.func (.func f) fi.toArray ca.toArray)) (ha : evL E args.toList = some vs) (hL : Ap Lb Lr L) (hc : Ctr cx.P f (fi ++ vs ++ ca) M Lb (fun v _ L' => v = r ∧ L' = Lo)) (hL2 : Ap Lo Lr L2)
    (hk : J cx ops Q rest ((d, r) :: E) M L2) : J cx ops Q (⟨some d, .call ⟨.value x, args, tys⟩, T, pos, af, none⟩ :: rest) E M L :=
  jcallx (X := Unit) (p := fun _ => True) (r := fun _ => r) (Lo := fun _ => Lo) (L2 := fun _ => L2) hn hx ha hL (hc.mono fun _ _ _ h => ⟨(), trivial, h.1, h.2⟩) (fun _ => hL2) (fun _ _ => hk)
/-- a call that hands a row -/
theorem jcallr {f : FuncId} {args tys : Array _} {fi ca vs : List Value} {Lb Lr : List Ent} {Lo L2 : Value → List Ent} [FnI cx.P f]
    (hn : Nat.blt d cx.n = true)
    (hx : ev E x = some (.func (.func f) fi.toArray ca.toArray)) (ha : evL E args.toList = some vs) (hL : Ap Lb Lr L) (hc : Ctr cx.P f (fi ++ vs ++ ca) M Lb (fun v _ L' => L' = Lo v)) (hL2 : ∀ v, Ap (Lo v) Lr (L2 v))
    (hk : ∀ v, J cx ops Q rest ((d, v) :: E) M (L2 v)) : J cx ops Q (⟨some d, .call ⟨.value x, args, tys⟩, T, pos, af, none⟩ :: rest) E M L :=
  jcallx (X := Value) (p := fun _ => True) (r := fun v => v) (Lo := Lo) (L2 := L2) hn hx ha hL (hc.mono fun v _ _ h => ⟨v, trivial, rfl, h⟩) hL2 (fun v _ => hk v)
/-- a row's cells are known, and no more owned -/
theorem jp_freeze {e : Exit} {T sz n : Nat} {c : List Value} (hk : ∀ M', MLe M M' → (∃ A cap, v = .slice A n cap ∧ n ≤ cap ∧ c.length = n * sz ∧ (0 < n → ∃ b o, A = some ⟨b, o, none⟩ ∧ ∀ j u, c[j]? = some u → M' ⟨b, o + j, none⟩ = some u)) → JP cx Q e E M' L) :
    JP cx Q e E M (.row v T sz n c :: L) := fun a w hs ho => by
  let ops0 : Array Oper := #[]
  have h := j_freeze (ops := ops0) (rest := []) (Q := fun e' a' w' => e' = .normal → Q e a' w') (cx := cx) (E := E) (M := M) (L := L) (v := v) (e := T) (sz := sz) (n := n) (c := c) (fun M' hm hx a' w' hs' ho' => by
    have := hk M' hm hx a' w' hs' ho'
    simp only [wpList]
    exact fun _ => this) a w hs ho
  simp only [wpList] at h
  exact h trivial
end
/-! in a drawn region: what looks at no memory -/
section
variable {cx : Cx} {Q : Post} {E : Env} {M : Mem} {L : List Ent} {ops : Array Oper} {d T : Nat} {pos : String} {af : Array Edge} {rest : List Oper} {x y z : Operand} {v u : Value}
def Z (cx : Cx) (o : Oper) (E : Env) (v : Value) : Prop := ∀ a w, Sat cx.ds cx.n E a → (execOp a.eval o).run cx.P w = .ok (.value v) w
theorem zm (hx : ev E x = some v) : Z cx ⟨some d, .move x, T, pos, af, none⟩ E v := fun a w hs => by simp [execOp, hs.ev hx]
theorem za (hx : ev E x = some v) : Z cx ⟨some d, .assign x, T, pos, af, none⟩ E v := fun a w hs => by simp [execOp, hs.ev hx]
theorem zext {vs : Array Value} {i : Nat}  (hx : ev E x = some (.tuple vs)) (hv : vs[i]? = some v) : Z cx ⟨some d, .extract x i, T, pos, af, none⟩ E (v) := fun a w hs => by simp [execOp, hs.ev hx, Instr.extract, hv]
theorem znil {ad : Addr}  (hx : ev E x = some (.pointer (some ad))) : Z cx ⟨some d, .nilCheck x, T, pos, af, none⟩ E (.pointer (some ad)) := fun a w hs => by simp [execOp, hs.ev hx]
theorem zfa {t f B o off ft : Nat} {ag : Bool} {sz : Nat} [St : StI cx.P t f off ft] [Ty : TyI cx.P ft ag sz]  (hz : Nat.beq sz 0 = false)
    (hx : ev E x = some (.pointer (some ⟨B, o, none⟩))) : Z cx ⟨some d, .fieldAddr t x f, T, pos, af, none⟩ E (.pointer (some ⟨B, o + off, none⟩)) := fun a w hs => by
    obtain ⟨fs, F, h1, h2, h3, h4⟩ := St.h
    have hz' : ¬ sz = 0 := fun e => by subst e; simp at hz
    simp only [execOp, hs.ev hx, Instr.fieldAt, Sem.run_bind, run_underlying h1, Result.andThen_ok, h2, Instr.sureAddr, Sem.run_pure, fieldPlace, h4, run_sz, h3, hz', if_false, add_at]
theorem zia {t n e sz B o : Nat} {ag : Bool} {k : IntKind} {i : Int} [Ar : ArI cx.P t n e] [TyI cx.P e ag sz]  (hx : ev E x = some (.pointer (some ⟨B, o, none⟩))) (hy : ev E y = some (.int k i))
    (h0 : 0 ≤ i) (h1 : i < n) : Z cx ⟨some d, .indexAddr t x y, T, pos, af, none⟩ E (.pointer (some ⟨B, o + i.toNat * sz, none⟩)) := fun a w hs => by
    simp only [execOp, hs.ev hx, hs.ev hy, Instr.indexAt, asIntOf, Sem.run_bind, Sem.run_pure, run_underlying Ar.h, Result.andThen_ok, Instr.sureAddr, h0, h1, and_self, if_true, run_sz, add_at]
theorem zsa {t n e sz B o : Nat} {ag : Bool} [Ar : ArI cx.P t n e] [TyI cx.P e ag sz] (hx : ev E x = some (.pointer (some ⟨B, o, none⟩))) : Z cx ⟨some d, .slice t x none none none, T, pos, af, none⟩ E (.slice (some ⟨B, o, none⟩) n n) := fun a w hs => by
  have h0 : (⟨B, o, none⟩ : Addr).add (0 * sz) = ⟨B, o, none⟩ := by rw [Nat.zero_mul]; rfl
  simp only [execOp, hs.ev hx, Instr.sliceAt, Sem.run_bind, run_underlying Ar.h, Result.andThen_ok, Instr.sureAddr, Sem.run_pure, Instr.sliceBounds, Option.map_none, run_sz, h0, ite_self, Nat.sub_zero]
theorem c_drawL {i : Nat} {l : List Oper} (R : List Nat) {Lx Lr : List Ent} (hm : cx.P.follows .mixedOrders = true) (hL : Ap Lx Lr L) (h : JD cx l.toArray R M Lr Q l.length (Array.replicate l.length false) E M L) : JC cx (.region i l.toArray true) Q E M L := fun a w hs ho =>
  wp_region_any hm (by
    have := wpAny_of_C _ _ _ _ (h a w.drew hs ho.drew)
    simpa using this)
/-- what hangs on what was not wanted itself -/
theorem jg_u {j t : Nat} {want : Bool} {op : Op} (hn : Nat.blt d cx.n = true) (hd : (ops[j]?).bind (·.dst) = some t) (hb : find E t = some undef)
    (hk : J cx ops Q rest ((d, undef) :: E) M L) : J cx ops Q (⟨some d, op, T, pos, af, some (j, want)⟩ :: rest) E M L := fun a w hs ho => by
  have hy : yielded ops a.tmps j = none := by unfold yielded; rw [hd]; simp [hs.g t _ hb]; rfl
  unfold wpList
  have : ((none : Option Bool) == some want) = false := by cases want <;> rfl
  simp only [Region.wanted, hy, this, Bool.false_eq_true, if_false]
  exact hk _ _ (hs.put (by simpa using hn) undef) ho
theorem jd_u [PI Q] {R : List Nat} {Mr : Mem} {Lr : List Ent} {fuel : Nat} {listed : Array Bool} {i j t : Nat} {want : Bool} {op : Op} {l' : Array Bool} (hi : ops[i]? = some ⟨some d, op, T, pos, af, some (j, want)⟩) (hn : Nat.blt d cx.n = true) (hsel : Region.noSelect ops = true)
    (hr : (Region.ready .any ops listed).contains i = true) (hf : freeB ops i listed = true) (hcl : closedB ops listed = true) (hl : listed.setIfInBounds i true = l') (hd : (ops[j]?).bind (·.dst) = some t) (hb : find E t = some undef)
    (h : JD cx ops R Mr Lr Q fuel l' ((d, undef) :: E) M L) : JD cx ops R Mr Lr Q (fuel + 1) listed E M L := fun a w hs ho => by
  refine wpAnyC_first (D := fun _ => True) hi (sel_spec hsel) (fun _ _ _ _ _ _ _ _ _ => trivial) fuel listed a w (freeB_spec hi hf) (closedB_spec hcl) (by simpa using hr) (.inr ⟨?_, rfl⟩) trivial ?_
  · have hy : yielded ops a.tmps j = none := by unfold yielded; rw [hd]; simp [hs.g t _ hb]; rfl
    unfold Region.wanted
    simp only [hy]
    cases want <;> rfl
  · rw [hl]; exact h _ w (hs.put (by simpa using hn) undef) ho
/-- a loop whose rounds are counted -/
def rq (cx : Cx) (c : Code) (Q : Post) (n : Nat) : Post := Exit.then (Code.rounds cx.P c Q n) Q
instance {c : Code} {Q : Post} {n : Nat} [h : PI Q] : PI (rq cx c Q n) := ⟨fun ch a d v w hq => h.h ch a d v w hq⟩
theorem c_unr {c : Code} (n : Nat) (h : JC cx c (rq cx c Q n) E M L) : JC cx (.loop c) Q E M L := fun a w hs ho => wp_loop_rounds (n + 1) (h a w hs ho)
theorem p_rq {c : Code} {n : Nat} (h : JC cx c (rq cx c Q n) E M L) : JP cx (rq cx c Q (n + 1)) .normal E M L := fun a w hs ho => h a w hs ho
theorem p_rq_ret {c : Code} {n : Nat} (h : JP cx Q .ret E M L) : JP cx (rq cx c Q n) .ret E M L := h
theorem p_rq_exit {c : Code} {n i : Nat} (h : JP cx Q (.exit i) E M L) : JP cx (rq cx c Q n) (.exit i) E M L := h
theorem p_rq_pan {c : Code} {n : Nat} {ch : List PanicEntry} (h : JP cx Q (.panic ch) E M L) : JP cx (rq cx c Q n) (.panic ch) E M L := h
/-- a call that is lent the blocks behind the first ones, whatever these are -/
theorem jcallo {f : FuncId} {args tys : Array _} {fi ca vs : List Value} {Lx Lb Lo L2 : List Ent} {r : Value} [FnI cx.P f] (hn : Nat.blt d cx.n = true)
    (hx : ev E x = some (.func (.func f) fi.toArray ca.toArray)) (ha : evL E args.toList = some vs) (hL : Ap Lx Lb L) (hc : Ctr cx.P f (fi ++ vs ++ ca) M Lb (fun v _ L' => v = r ∧ L' = Lo)) (hL2 : Ap Lx Lo L2)
    (hk : J cx ops Q rest ((d, r) :: E) M L2) : J cx ops Q (⟨some d, .call ⟨.value x, args, tys⟩, T, pos, af, none⟩ :: rest) E M L := by
  cases hL; cases hL2
  refine j_perm List.perm_append_comm (jcallb hn hx ha rfl hc rfl (j_perm List.perm_append_comm hk))
/-- the first of them are dropped -/
theorem jp_dr {e : Exit} {L1 L2 : List Ent} (h : Ap L1 L2 L) (hk : JP cx Q e E M L2) : JP cx Q e E M L := by
  cases h; exact jp_drop hk
theorem p_retK {fn : Func} {Ps : Value → Mem → List Ent → Prop} {rs : List ResultVar} {vs : List Value} {L1 L2 : List Ent} (hA : Ap L1 L2 L) (hds : cx.ds = []) (hr : fn.results = rs.toArray) (h : Res cx.P E L rs vs) (hp : Ps (outv vs) M L1) : JP cx (bq cx fn Ps) .ret E M L :=
  p_ret hds hr h fun w ho => ⟨M, L1, hp, by cases hA; exact Own.drop (L := L2) (ho.perm List.perm_append_comm)⟩
theorem p_endK {fn : Func} {Ps : Value → Mem → List Ent → Prop} {rs : List ResultVar} {vs : List Value} {L1 L2 : List Ent} (hA : Ap L1 L2 L) (hds : cx.ds = []) (hr : fn.results = rs.toArray) (h : Res cx.P E L rs vs) (hp : Ps (outv vs) M L1) : JP cx (bq cx fn Ps) .normal E M L :=
  p_end hds hr h fun w ho => ⟨M, L1, hp, by cases hA; exact Own.drop (L := L2) (ho.perm List.perm_append_comm)⟩
theorem p_retD {fn : Func} {Ps : Value → Mem → List Ent → Prop} {rs : List ResultVar} {vs : List Value} {L1 L2 : List Ent} (hA : Ap L1 L2 L) (hds : cx.ds = []) (hr : fn.results = rs.toArray) (h : Res cx.P E L rs vs) (hp : Ps (outv vs) M L2) : JP cx (bq cx fn Ps) .ret E M L :=
  p_ret hds hr h fun w ho => ⟨M, L2, hp, by cases hA; exact Own.drop ho⟩
theorem p_endD {fn : Func} {Ps : Value → Mem → List Ent → Prop} {rs : List ResultVar} {vs : List Value} {L1 L2 : List Ent} (hA : Ap L1 L2 L) (hds : cx.ds = []) (hr : fn.results = rs.toArray) (h : Res cx.P E L rs vs) (hp : Ps (outv vs) M L2) : JP cx (bq cx fn Ps) .normal E M L :=
  p_end hds hr h fun w ho => ⟨M, L2, hp, by cases hA; exact Own.drop ho⟩
theorem jd_z [PI Q] {R : List Nat} {Mr : Mem} {Lr : List Ent} {fuel : Nat} {listed : Array Bool} {i : Nat} {op : Op} {l' : Array Bool} (hi : ops[i]? = some ⟨some d, op, T, pos, af, none⟩) (hn : Nat.blt d cx.n = true) (hsel : Region.noSelect ops = true)
    (hr : (Region.ready .any ops listed).contains i = true) (hf : freeB ops i listed = true) (hcl : closedB ops listed = true) (hl : listed.setIfInBounds i true = l') (hy : Z cx ⟨some d, op, T, pos, af, none⟩ E v)
    (h : JD cx ops R Mr Lr Q fuel l' ((d, v) :: E) M L) : JD cx ops R Mr Lr Q (fuel + 1) listed E M L := jd_pure hi hn hsel hr hf hcl hl hy h
end
end Go.Proofs.YtihgpbpcbbgdiaaGreat
