/- Several texts in one. -/
import Derived.Test.YtihgpbpcbbgdiaaGreatOrd4
import Derived.Recover
/- Panics, and contracts of what may panic; deferred calls. -/
namespace Go.Proofs.YtihgpbpcbbgdiaaGreat
open Go.RowKit
set_option linter.unusedVariables false
set_option linter.unusedSimpArgs false

def CtrE (P : Program) (f : FuncId) (args : List Value) (M : Mem) (Lb : List Ent) (Ps : Ending → Mem → List Ent → Prop) : Prop :=
  ∀ w, Own ⟨P, 0, w, blks Lb, M, []⟩ M w Lb → Calls P f args.toArray w (fun e w' => ∃ M' L', Ps e M' L' ∧ Own ⟨P, 0, w, blks Lb, M, []⟩ M' w' L')
def bqE (cx : Cx) (fn : Func) (Ps : Ending → Mem → List Ent → Prop) : Post :=
  bodyPost cx.P fn (fun e w' => ∃ M' L', Ps e M' L' ∧ Own cx M' w' L')
theorem ctrE {P : Program} {f : FuncId} {fn : Func} {c : Code} {n : Nat} {args : List Value} {M : Mem} {Lb : List Ent} {Ps : Ending → Mem → List Ent → Prop}
    (hf : P.funcs[f]? = some fn) (hb : fn.body = some c) (hn : fn.ntmps = n) (ha : Nat.ble args.length n = true)
    (h : ∀ w, JC ⟨P, n, w, blks Lb, M, []⟩ c (bqE ⟨P, n, w, blks Lb, M, []⟩ fn Ps) (mkE 0 args) M Lb) : CtrE P f args M Lb Ps := fun w ho => by
  refine calls_of_wp hf hb ?_
  have hle : args.length ≤ n := Nat.le_of_ble_eq_true ha
  refine wp_mono (h w _ w ⟨rfl, by simp [hn]; omega, ?_⟩ ho.cxn) ?_
  · intro t v ht
    obtain ⟨_, h2⟩ := mkE_find _ _ _ _ ht
    simp only [Nat.sub_zero] at h2
    have hl := (List.getElem?_eq_some_iff.1 h2).1
    rw [Array.getElem?_append_left (by simpa using hl)]
    simpa using h2
  · have key : ∀ {e' : Ending} {w' : World}, (∃ M' L', Ps e' M' L' ∧ Own ⟨P, n, w, blks Lb, M, []⟩ M' w' L') → ∃ M' L', Ps e' M' L' ∧ Own ⟨P, 0, w, blks Lb, M, []⟩ M' w' L' :=
      fun ⟨M', L', h2, h3⟩ => ⟨M', L', h2, h3.cxn⟩
    intro e a w' hq
    cases e <;> simp only [bqE, bodyPost] at hq ⊢
    · exact ⟨hq.1, hq.2.imp fun v h => ⟨h.1, key h.2⟩⟩
    · exact ⟨hq.1, hq.2.imp fun v h => ⟨h.1, key h.2⟩⟩
    · exact ⟨hq.1, key hq.2⟩
    · exact key hq
theorem equalIn_nil {P : Program} {t i : Nat} {v : Value} {ms : Array (String × TypeId)} (d : Nat) (hu : P.underlying t = some (.interface ms)) (w : World) : (Op.equalIn (d + 1) t (.iface i v) .nilIface).run P w = .ok false w := by
  unfold Op.equalIn
  rw [Sem.run_bind, run_underlying hu, Result.andThen_ok]
  rfl
section
variable {cx : Cx} {Q : Post} {E : Env} {M : Mem} {L : List Ent} {ops : Array Oper} {d T : Nat} {pos : String} {af : Array Edge} {rest : List Oper} {x y z : Operand} {v u : Value}
theorem pE_ret {fn : Func} {Ps : Ending → Mem → List Ent → Prop} {rs : List ResultVar} {vs : List Value} (hds : cx.ds = []) (hr : fn.results = rs.toArray) (h : Res cx.P E L rs vs) (hp : Ps (.returned (outv vs)) M L) :
    JP cx (bqE cx fn Ps) .ret E M L := fun a w hs ho => ⟨hs.d.trans hds, _, run_results hs ho hr h, M, L, hp, ho⟩
theorem pE_end {fn : Func} {Ps : Ending → Mem → List Ent → Prop} {rs : List ResultVar} {vs : List Value} (hds : cx.ds = []) (hr : fn.results = rs.toArray) (h : Res cx.P E L rs vs) (hp : Ps (.returned (outv vs)) M L) :
    JP cx (bqE cx fn Ps) .normal E M L := fun a w hs ho => ⟨hs.d.trans hds, _, run_results hs ho hr h, M, L, hp, ho⟩
theorem pE_pan {fn : Func} {Ps : Ending → Mem → List Ent → Prop} {ch : List PanicEntry} (hds : cx.ds = []) (hp : Ps (.panicked ch) M L) :
    JP cx (bqE cx fn Ps) (.panic ch) E M L := fun a w hs ho => ⟨hs.d.trans hds, M, L, hp, ho⟩
theorem p_thn_pan {c : Code} {ch : List PanicEntry} (h : JP cx Q (.panic ch) E M L) : JP cx (thn cx c Q) (.panic ch) E M L := h
theorem p_inb_pan {i : Nat} {ch : List PanicEntry} (h : JP cx Q (.panic ch) E M L) : JP cx (inb i Q) (.panic ch) E M L := h
theorem p_lp_pan {X : Type} {I : X → Prop} {μ : X → Nat} {m : Nat} {E' : X → Env} {M' : X → Mem} {L' : X → List Ent} {ch : List PanicEntry} (h : JP cx Q (.panic ch) E M L) :
    JP cx (lpQ cx I μ m E' M' L' Q) (.panic ch) E M L := h
theorem yiface {t : Nat} {D : TypeDesc}  (hu : cx.P.underlying t = some D) (hD : (match D with | .interface _ => true | _ => false) = false) (hx : ev E x = some v) : Y cx ⟨some d, .makeInterface t x, T, pos, af, none⟩ E M L (.iface t v) := fun a w hs ho => by
    simp only [execOp, hs.ev hx, Instr.makeInterface, Sem.run_bind, run_underlying hu, Result.andThen_ok]
    cases D <;> simp_all
theorem jiface {t : Nat} {D : TypeDesc} (hn : Nat.blt d cx.n = true) (hu : cx.P.underlying t = some D) (hD : (match D with | .interface _ => true | _ => false) = false) (hx : ev E x = some v) (hk : J cx ops Q rest ((d, .iface t v) :: E) M L) : J cx ops Q (⟨some d, .makeInterface t x, T, pos, af, none⟩ :: rest) E M L := j_y hn (yiface hu hD hx) hk
theorem jpanic {t : Nat} (hx : ev E x = some (.iface t v)) (hk : JP cx Q (.panic [{ v := .iface t v, recovered := false }]) E M L) : J cx ops Q (⟨none, .panic x, T, pos, af, none⟩ :: rest) E M L :=
  j_op rfl fun a w hs ho K hK => by
    unfold Oper.wp
    have : (execOp a.eval ⟨none, .panic x, T, pos, af, none⟩).run cx.P w = .halt (.panic (.iface t v)) w := by
      simp [execOp, hs.ev hx, Instr.panic, goPanic, Sem.run]
    rw [this, Oper.upon_panic]
    exact hk a w hs ho
theorem yineq {t : Nat} {ms : Array (String × TypeId)} {t' i : Nat}  (hu : cx.P.underlying t = some (.interface ms)) (hx : ev E x = some (.iface i v)) (hy : ev E y = some .nilIface) : Y cx ⟨some d, .binOp .neq t x y t', T, pos, af, none⟩ E M L (.bool true) := fun a w hs ho => by
    have h1 : (Op.equal t (.iface i v) .nilIface).run cx.P w = .ok false w := equalIn_nil 9999 hu w
    have h2 : (eqGuard .neq t x y (.iface i v) .nilIface).run cx.P w = .ok () w := rfl
    have h3 : (binOp .neq t (.iface i v) .nilIface).run cx.P w = .ok (.bool true) w := by
      show (do let b ← Op.equal t (.iface i v) .nilIface; pure (Value.bool !b) : Sem Value).run cx.P w = _
      rw [Sem.run_bind, h1]; rfl
    simp only [execOp, hs.ev hx, hs.ev hy, Sem.run_bind, h2, h3, Result.andThen_ok, Sem.run_pure]
theorem jineq {t : Nat} {ms : Array (String × TypeId)} {t' i : Nat} (hn : Nat.blt d cx.n = true) (hu : cx.P.underlying t = some (.interface ms)) (hx : ev E x = some (.iface i v)) (hy : ev E y = some .nilIface) (hk : J cx ops Q rest ((d, .bool true) :: E) M L) : J cx ops Q (⟨some d, .binOp .neq t x y t', T, pos, af, none⟩ :: rest) E M L := j_y hn (yineq hu hx hy) hk
theorem equalIn_nil2 {P : Program} {t : Nat} {ms : Array (String × TypeId)} (d : Nat) (hu : P.underlying t = some (.interface ms)) (w : World) : (Op.equalIn (d + 1) t .nilIface .nilIface).run P w = .ok true w := by
  unfold Op.equalIn
  rw [Sem.run_bind, run_underlying hu, Result.andThen_ok]
  rfl
theorem yineq0 {t t' : Nat} {ms : Array (String × TypeId)}  (hu : cx.P.underlying t = some (.interface ms)) (hx : ev E x = some .nilIface) : Y cx ⟨some d, .binOp .neq t x (.const .nilIface) t', T, pos, af, none⟩ E M L (.bool false) := fun a w hs ho => by
    have h1 : (Op.equal t .nilIface .nilIface).run cx.P w = .ok true w := equalIn_nil2 9999 hu w
    have h2 : (eqGuard .neq t x (.const .nilIface) .nilIface .nilIface).run cx.P w = .ok () w := by unfold eqGuard; simp
    have h3 : (binOp .neq t .nilIface .nilIface).run cx.P w = .ok (.bool false) w := by
      show (do let b ← Op.equal t .nilIface .nilIface; pure (Value.bool !b) : Sem Value).run cx.P w = _
      rw [Sem.run_bind, h1]; rfl
    have h4 : a.eval (.const .nilIface) = .nilIface := rfl
    simp only [execOp, hs.ev hx, h4, Sem.run_bind, h2, h3, Result.andThen_ok, Sem.run_pure]
theorem jineq0 {t t' : Nat} {ms : Array (String × TypeId)} (hn : Nat.blt d cx.n = true) (hu : cx.P.underlying t = some (.interface ms)) (hx : ev E x = some .nilIface) (hk : J cx ops Q rest ((d, .bool false) :: E) M L) : J cx ops Q (⟨some d, .binOp .neq t x (.const .nilIface) t', T, pos, af, none⟩ :: rest) E M L := j_y hn (yineq0 hu hx) hk
theorem equalIn_func {P : Program} {t : Nat} {fn : Fn} {fi ca : Array Value} {ps rs : Array TypeId} {vr : Bool} (d : Nat) (hu : P.underlying t = some (.func ps rs vr)) (w : World) : (Op.equalIn (d + 1) t (.func fn fi ca) .nilFunc).run P w = .ok false w := by
  unfold Op.equalIn
  rw [Sem.run_bind, run_underlying hu, Result.andThen_ok]
  rfl
theorem yfeq {t t' : Nat} {fn : Fn} {fi ca : Array Value} {ps rs : Array TypeId} {vr : Bool}  (hu : cx.P.underlying t = some (.func ps rs vr)) (hx : ev E x = some (.func fn fi ca)) (hy : ev E y = some .nilFunc) : Y cx ⟨some d, .binOp .eql t x y t', T, pos, af, none⟩ E M L (.bool false) := fun a w hs ho => by
    have h1 : (Op.equal t (.func fn fi ca) .nilFunc).run cx.P w = .ok false w := equalIn_func 9999 hu w
    have h2 : (eqGuard .eql t x y (.func fn fi ca) .nilFunc).run cx.P w = .ok () w := rfl
    have h3 : (binOp .eql t (.func fn fi ca) .nilFunc).run cx.P w = .ok (.bool false) w := by
      show (do let b ← Op.equal t (.func fn fi ca) .nilFunc; pure (Value.bool b) : Sem Value).run cx.P w = _
      rw [Sem.run_bind, h1]; rfl
    simp only [execOp, hs.ev hx, hs.ev hy, Sem.run_bind, h2, h3, Result.andThen_ok, Sem.run_pure]
theorem jfeq {t t' : Nat} {fn : Fn} {fi ca : Array Value} {ps rs : Array TypeId} {vr : Bool} (hn : Nat.blt d cx.n = true) (hu : cx.P.underlying t = some (.func ps rs vr)) (hx : ev E x = some (.func fn fi ca)) (hy : ev E y = some .nilFunc) (hk : J cx ops Q rest ((d, .bool false) :: E) M L) : J cx ops Q (⟨some d, .binOp .eql t x y t', T, pos, af, none⟩ :: rest) E M L := j_y hn (yfeq hu hx hy) hk
theorem yta {t i : Nat} {D : TypeDesc}  (hu : cx.P.underlying i = some D) (hD : (match D with | .interface _ => true | _ => false) = false) (hx : ev E x = some (.iface i v)) : Y cx ⟨some d, .typeAssert x t i true, T, pos, af, none⟩ E M L (.tuple #[v, .bool true]) := fun a w hs ho => by
    simp only [execOp, hs.ev hx, Instr.typeAssert, Sem.run_bind, run_underlying hu, Result.andThen_ok]
    cases D <;> simp_all
theorem jta {t i : Nat} {D : TypeDesc} (hn : Nat.blt d cx.n = true) (hu : cx.P.underlying i = some D) (hD : (match D with | .interface _ => true | _ => false) = false) (hx : ev E x = some (.iface i v)) (hk : J cx ops Q rest ((d, .tuple #[v, .bool true]) :: E) M L) : J cx ops Q (⟨some d, .typeAssert x t i true, T, pos, af, none⟩ :: rest) E M L := j_y hn (yta hu hD hx) hk
/-- a call that may panic -/
theorem jcallE {f : FuncId} {args tys : Array _} {fi ca vs : List Value} {Ps : Ending → Mem → List Ent → Prop} [FnI cx.P f] (hn : Nat.blt d cx.n = true)
    (hx : ev E x = some (.func (.func f) fi.toArray ca.toArray)) (ha : evL E args.toList = some vs) (hc : CtrE cx.P f (fi ++ vs ++ ca) M [] Ps) (hout : ∀ M L, ¬ Ps .outgrown M L)
    (hk : ∀ v M' L', Ps (.returned v) M' L' → J cx ops Q rest ((d, v) :: E) M L) (hp : ∀ ch M' L', Ps (.panicked ch) M' L' → JP cx Q (.panic ch) E M L) : J cx ops Q (⟨some d, .call ⟨.value x, args, tys⟩, T, pos, af, none⟩ :: rest) E M L :=
  j_op rfl fun a w hs ho K hK => by
    have hargs : args.map a.eval = vs.toArray := by apply Array.ext'; simpa using evs ha hs
    have hrun : (execOp a.eval ⟨some d, .call ⟨.value x, args, tys⟩, T, pos, af, none⟩).run cx.P w = .ok (.enter f (fi ++ vs ++ ca).toArray) w := by
      simp [execOp, resolve, hargs, hs.ev hx, Deferred.ofValue, invoke, run_callFunc]
    unfold Oper.wp
    rw [hrun, Oper.upon_enter]
    have ho' : Own cx M w ([] ++ L) := ho
    refine (hc w ho'.lend).mono ?_
    rintro e w' ⟨M', L', h1, h2⟩
    have h3 : Own cx M w' L := (ho'.call h2).drop.less (fun a u hu => h2.old a u hu) ho.old
    cases e with
    | returned v => exact hK _ _ (hk v M' L' h1 _ _ (hs.put (by simpa using hn) _) h3)
    | panicked ch => exact hp ch M' L' h1 a w' hs h3
    | outgrown => exact absurd h1 (hout _ _)
/-- a deferred call is laid aside -/
theorem jdefer {f : FuncId} {fi ca : List Value} {args tys : Array _} {vs : List Value} (hx : ev E x = some (.func (.func f) fi.toArray ca.toArray)) (ha : evL E args.toList = some vs)
    (hk : J { cx with ds := { target := .fn (.func f) ca.toArray, args := (fi ++ vs).toArray } :: cx.ds } ops Q rest E M L) : J cx ops Q (⟨none, .defer ⟨.value x, args, tys⟩, T, pos, af, none⟩ :: rest) E M L :=
  j_op rfl fun a w hs ho K hK => by
    have hargs : args.map a.eval = vs.toArray := by apply Array.ext'; simpa using evs ha hs
    have hrun : (execOp a.eval ⟨none, .defer ⟨.value x, args, tys⟩, T, pos, af, none⟩).run cx.P w = .ok (.defer { target := .fn (.func f) ca.toArray, args := (fi ++ vs).toArray }) w := by
      simp [execOp, resolve, hargs, hs.ev hx, Deferred.ofValue]
    unfold Oper.wp
    rw [hrun, Oper.upon_defer]
    refine hK _ _ (hk _ _ ⟨?_, hs.s, hs.g⟩ ⟨ho.os, ho.tape, ho.output, ho.dr, ho.size, ho.keep, ho.mem, ho.new, ho.old, ho.off, ho.ent, ho.nd, ho.brf⟩)
    show _ :: a.defers = _
    rw [hs.d]
/-- an owned block becomes known -/
theorem j_known {B t : Nat} {c : List Value} (hk : ∀ M', MLe M M' → (∀ j u, c[j]? = some u → M' ⟨B, j, none⟩ = some u) → J cx ops Q rest E M' L) :
    J cx ops Q rest E M (.blk B t c :: L) := fun a w hs ho => by
  have hB : w.heap[B]? = some (Obj.cells c.toArray t (0, 0)) := ho.at' (i := 0) rfl
  let M' : Mem := fun p => if p.block = B ∧ p.spot = none then c[p.off]? else M p
  have hBn : B ∉ blks L := by
    have := ho.nd
    rw [blks_cons] at this
    exact (List.nodup_cons.1 this).1
  have hBm : B ∈ blks (Ent.blk B t c :: L) := by rw [blks_cons]; simp [Ent.bs]
  have hle : MLe M M' := fun p q hq => by
    have : p.block ≠ B := fun e => ho.off p q hq (e ▸ hBm)
    simp [M', this, hq]
  have ht := ho.tail
  refine hk M' hle (fun j u hu => by simp [M', hu]) a w hs ⟨ht.os, ht.tape, ht.output, ht.dr, ht.size, ht.keep, ?_, ?_, fun p q hq => hle p q (ho.old p q hq), ?_, ht.ent, ht.nd, ht.brf⟩
  · intro p q hq
    by_cases hp : p.block = B ∧ p.spot = none
    · obtain ⟨b, o, s⟩ := p
      simp only at hp
      obtain ⟨rfl, rfl⟩ := hp
      simp [M'] at hq
      rw [cell_of_heap hB]; exact hq
    · simp only [M', hp, if_false] at hq; exact ho.mem p q hq
  · intro p q hq
    by_cases hp : p.block = B ∧ p.spot = none
    · exact .inr (hp.1 ▸ ho.brf B hBm)
    · simp only [M', hp, if_false] at hq; exact ho.new p q hq
  · intro p q hq
    by_cases hp : p.block = B ∧ p.spot = none
    · rw [hp.1]; exact hBn
    · simp only [M', hp, if_false] at hq; exact ht.off p q hq
end
theorem setRow_cell {w : World} {B T : Nat} {v : Value} (h : w.heap[B]? = some (.cells [v].toArray T (0, 0))) (u : Value) : w.setCell ⟨B, 0, none⟩ u = w.setRow B [u].toArray := by
  rw [setCell_eq_setRow w B 0 _ T _ u h]; rfl
end Go.Proofs.YtihgpbpcbbgdiaaGreat

/- Regions that draw their order: what reads is taken first; what acts is taken in every order that is left. -/
namespace Go.Proofs.YtihgpbpcbbgdiaaGreat
open Go.RowKit
set_option linter.unusedVariables false
set_option linter.unusedSimpArgs false

/-- what is asked behind a panic looks at no temporary -/
class PI (Q : Post) : Prop where
  h : ∀ c (a : Act) d v w, Q (.panic c) (a.put d v) w → Q (.panic c) a w
theorem put_defers (a : Act) (d : Option Nat) (v : Value) : (a.put d v).defers = a.defers := by cases d <;> rfl
instance {cx : Cx} {fn : Func} {Ps : Value → Mem → List Ent → Prop} : PI (bq cx fn Ps) := ⟨fun c a d v w h => ⟨(put_defers a d v) ▸ h.1, h.2⟩⟩
instance {cx : Cx} {fn : Func} {Ps : Ending → Mem → List Ent → Prop} : PI (bqE cx fn Ps) := ⟨fun c a d v w h => ⟨(put_defers a d v) ▸ h.1, h.2⟩⟩
instance {cx : Cx} {c : Code} {Q : Post} [h : PI Q] : PI (thn cx c Q) := ⟨fun ch a d v w hq => h.h ch a d v w hq⟩
instance {i : Nat} {Q : Post} [h : PI Q] : PI (inb i Q) := ⟨fun ch a d v w hq => h.h ch a d v w hq⟩
instance {N : Act → World → Prop} {Q : Post} [h : PI Q] : PI (Exit.then N Q) := ⟨fun ch a d v w hq => h.h ch a d v w hq⟩
instance {cx : Cx} {X : Type} {I : X → Prop} {μ : X → Nat} {m : Nat} {E' : X → Env} {M' : X → Mem} {L' : X → List Ent} {Q : Post} [h : PI Q] : PI (lpQ cx I μ m E' M' L' Q) := ⟨fun ch a d v w hq => h.h ch a d v w hq⟩

section
variable {P : Program} {ops : Array Oper} {Q : Post} {C : World → Prop} {R : List Nat}
/-- it waits for that one itself -/
def waits (ops : Array Oper) (m r : Nat) : Bool :=
  match ops[m]? with
  | some o => o.after.any fun e => Region.binds .any e && e.on == r
  | none => false
def waits2 (ops : Array Oper) (m r : Nat) : Bool :=
  waits ops m r || match ops[m]? with
  | some o => o.after.any fun e => Region.binds .any e && waits ops e.on r
  | none => false
/-- it waits for each of these, itself or over one other, or two -/
def lateB (ops : Array Oper) (R : List Nat) (i : Nat) : Bool :=
  match ops[i]? with
  | some o => R.all fun r => waits2 ops i r || o.after.any fun e => Region.binds .any e && waits2 ops e.on r
  | none => true
/-- what waited has come up behind what it waited for -/
def Closed (ops : Array Oper) (ls : Array Bool) : Prop := ∀ m r, waits ops m r = true → ls.getD m true = true → ls.getD r true = true
def closedB (ops : Array Oper) (ls : Array Bool) : Bool :=
  (List.range ops.size).all fun m => !ls.getD m true || (match ops[m]? with
    | some o => o.after.all fun e => !Region.binds .any e || ls.getD e.on true
    | none => true)
theorem Closed.two {ops : Array Oper} {ls : Array Bool} (h : Closed ops ls) {m r : Nat} (hw : waits2 ops m r = true) (hm : ls.getD m true = true) : ls.getD r true = true := by
  unfold waits2 at hw
  rcases Bool.or_eq_true_iff.1 hw with h1 | h1
  · exact h m r h1 hm
  · cases ho : ops[m]? with
    | none => rw [ho] at h1; cases h1
    | some o =>
      rw [ho] at h1
      obtain ⟨k, hk, hb⟩ := Array.any_eq_true.1 h1
      simp only [Bool.and_eq_true] at hb
      refine h _ r hb.2 (h m _ ?_ hm)
      unfold waits
      rw [ho]
      exact Array.any_eq_true.2 ⟨k, hk, by simp [hb.1]⟩
theorem closedB_spec {ops : Array Oper} {ls : Array Bool} (h : closedB ops ls = true) : Closed ops ls := by
  intro m r hw hm
  unfold waits at hw
  cases ho : ops[m]? with
  | none => rw [ho] at hw; cases hw
  | some o =>
    simp only [ho] at hw
    obtain ⟨k, hk, he⟩ := Array.any_eq_true.1 hw
    simp only [Bool.and_eq_true, beq_iff_eq] at he
    have := List.all_eq_true.1 h m (List.mem_range.2 (Array.getElem?_eq_some_iff.1 ho).1)
    simp only [ho, hm, Bool.not_true, Bool.false_or] at this
    have h2 := Array.all_eq_true.1 this k hk
    rw [he.1, he.2] at h2
    simpa using h2
theorem Closed.step {ops : Array Oper} {ls : Array Bool} {j : Nat} (h : Closed ops ls) (hj : ∀ r, waits ops j r = true → ls.getD r true = true) : Closed ops (ls.setIfInBounds j true) := by
  have up : ∀ r, ls.getD r true = true → (ls.setIfInBounds j true).getD r true = true := by
    intro r hr
    by_cases e : j = r
    · subst e
      by_cases hb : j < ls.size <;> simp_all
    · rw [getD_set_ne true e]; exact hr
  intro m r hw hm
  by_cases e : j = m
  · subst e; exact up r (hj r hw)
  · rw [getD_set_ne true e] at hm; exact up r (h m r hw hm)
def wpAnyC (P : Program) (ops : Array Oper) (C : World → Prop) (R : List Nat) (Q : Post) : Nat → Array Bool → Act → World → Prop
  | 0, listed, a, w => Region.ready .any ops listed = [] ∧ Q .normal a w
  | fuel + 1, listed, a, w => (Region.ready .any ops listed = [] → Q .normal a w) ∧
    ∀ i ∈ Region.ready .any ops listed, wpOp P ops Q i (fun a' w' => (lateB ops R i = false → C w → C w') ∧ wpAnyC P ops C R Q fuel (listed.setIfInBounds i true) a' w') a w
theorem wpAny_of_C : ∀ (fuel : Nat) (listed : Array Bool) (a : Act) (w : World), wpAnyC P ops C R Q fuel listed a w → wpAny P .any ops Q fuel listed a w
  | 0, _, _, _, h => h
  | fuel + 1, listed, a, w, h => ⟨h.1, fun i hi => wpOp_mono (fun a' w' hk => wpAny_of_C fuel _ a' w' hk.2) (h.2 i hi)⟩
/-- in every world of the class it leaves this value (or is not wanted) -/
def YD (P : Program) (ops : Array Oper) (D : World → Prop) (o : Oper) (v : Value) (a : Act) : Prop :=
  (Region.wanted o (yielded ops a.tmps) = true ∧ ∀ w, D w → (execOp a.eval o).run P w = .ok (.value v) w) ∨ (Region.wanted o (yielded ops a.tmps) = false ∧ v = undef)
theorem YD.same {D : World → Prop} {o : Oper} {v : Value} {a a' : Act} (h : YD P ops D o v a) (he : execOp a'.eval o = execOp a.eval o) (hw : Region.wanted o (yielded ops a'.tmps) = Region.wanted o (yielded ops a.tmps)) : YD P ops D o v a' := by
  unfold YD at *; rw [he, hw]; exact h
theorem YD.op {D : World → Prop} {i : Nat} {o : Oper} {v : Value} {a : Act} {w : World} {K : Act → World → Prop} (hi : ops[i]? = some o) (h : YD P ops D o v a) (hw : D w) (hk : K (a.put o.dst v) w) : wpOp P ops Q i K a w := by
  unfold wpOp
  simp only [hi]
  rcases h with ⟨h1, h2⟩ | ⟨h1, rfl⟩
  · rw [if_pos h1]; left; unfold Oper.wp; rw [h2 w hw, Oper.upon_value]; exact hk
  · simp only [h1, Bool.false_eq_true, if_false]; exact hk
/-- another operation, apart from it, may come ahead of it -/
theorem wpOp_swap {D : World → Prop} {j : Nat} {oi oj : Oper} {v : Value} (hj : ops[j]? = some oj) (hap : oi.apart ops oj = true) (hsi : ∀ cs b, oi.op ≠ .select cs b) (hsj : ∀ cs b, oj.op ≠ .select cs b) [hQ : PI Q]
    {K : Act → World → Prop} {a : Act} {w : World} (hy : YD P ops D oi v a) (h : wpOp P ops Q j K (a.put oi.dst v) w) : wpOp P ops Q j (fun a' w' => YD P ops D oi v a' ∧ K (a'.put oi.dst v) w') a w := by
  obtain ⟨s1, s2, s3⟩ := Oper.apart_spec hap
  have keep : ∀ (b : Act), YD P ops D oi v b → ∀ u, YD P ops D oi v (b.put oj.dst u) := fun b hb u => hb.same (execOp_put oi hsi b oj.dst u s3) (wanted_put oi b oj.dst u s3)
  have comm : ∀ (b : Act) u, (b.put oi.dst v).put oj.dst u = (b.put oj.dst u).put oi.dst v := fun b u => Act.put_comm b v u s2
  have hex : execOp (a.put oi.dst v).eval oj = execOp a.eval oj := execOp_put oj hsj a oi.dst v s1
  have hwa : Region.wanted oj (yielded ops (a.put oi.dst v).tmps) = Region.wanted oj (yielded ops a.tmps) := wanted_put oj a oi.dst v s1
  unfold wpOp at h ⊢
  simp only [hj] at h ⊢
  rw [hwa] at h
  by_cases hw : Region.wanted oj (yielded ops a.tmps) = true
  · rw [if_pos hw] at h ⊢
    refine h.imp (fun h => ?_) (fun h => ⟨by have := h.1; unfold Oper.asks at *; rw [hex] at this; exact this, h.2⟩)
    unfold Oper.wp at *
    rw [hex] at h
    generalize (execOp a.eval oj).run P w = r at *
    cases r with
    | halt x w' =>
      cases x with
      | panic u => exact hQ.h _ _ _ _ _ h
      | _ => exact h
    | ok n w' =>
      cases n with
      | value u => exact ⟨keep a hy u, by have := h; simp only [Oper.upon_value, comm] at this; exact this⟩
      | skip => exact ⟨keep a hy _, by have := h; simp only [Oper.upon_skip, comm] at this; exact this⟩
      | defer d =>
        rw [Oper.upon_defer] at h ⊢
        refine ⟨keep { a with defers := d :: a.defers } (hy.same rfl rfl) _, ?_⟩
        rw [← comm, ← Act.put_defers]; exact h
      | enter f args =>
        rw [Oper.upon_enter] at h ⊢
        refine Calls.mono h fun e w'' he => ?_
        cases e with
        | returned u => exact ⟨keep a hy u, by have := he; simp only [comm] at this; exact this⟩
        | panicked c => exact hQ.h _ _ _ _ _ he
        | outgrown => exact he
      | row rw' args =>
        rw [Oper.upon_row] at h ⊢
        exact Rows.mono h fun u w'' he => ⟨keep a hy u, by have := he; simp only [comm] at this; exact this⟩
      | _ => exact h
  · rw [if_neg hw] at h ⊢
    exact ⟨keep a hy _, by rw [← comm]; exact h⟩
theorem getD_ft {ls : Array Bool} {r : Nat} (h : ls.getD r false = true) : ls.getD r true = true := by
  simp only [Array.getD_eq_getD_getElem?] at h ⊢
  cases h' : ls[r]? <;> simp_all
theorem ready_waits {j : Nat} {listed : Array Bool} (hj : j ∈ Region.ready .any ops listed) : ∀ r, waits ops j r = true → listed.getD r true = true := by
  obtain ⟨_, o, ho', hall⟩ := mem_ready.1 hj
  intro r hw
  unfold waits at hw
  simp only [ho'] at hw
  obtain ⟨k, hk, hb⟩ := Array.any_eq_true.1 hw
  simp only [Bool.and_eq_true, beq_iff_eq] at hb
  have := hall _ (Array.getElem_mem hk) hb.1
  rw [hb.2] at this
  exact getD_ft this
theorem late_listed {j i : Nat} {R : List Nat} {listed : Array Bool} (hcl : Closed ops listed) (hj : j ∈ Region.ready .any ops listed) (hl : lateB ops R j = true) (hi : i ∈ R) : listed.getD i true = true := by
  have h0 := hj
  obtain ⟨_, o, ho', hall⟩ := mem_ready.1 hj
  unfold lateB at hl
  simp only [ho'] at hl
  have := List.all_eq_true.1 hl i hi
  have one : ∀ {k : Nat} (hk : k < o.after.size), Region.binds .any o.after[k] = true → listed.getD o.after[k].on true = true := fun hk hb => getD_ft (hall _ (Array.getElem_mem hk) hb)
  rcases Bool.or_eq_true_iff.1 this with h | h
  · unfold waits2 at h
    rcases Bool.or_eq_true_iff.1 h with h | h
    · exact ready_waits h0 i h
    · rw [ho'] at h
      obtain ⟨k, hk, hb⟩ := Array.any_eq_true.1 h
      simp only [Bool.and_eq_true] at hb
      exact hcl _ i hb.2 (one hk hb.1)
  · obtain ⟨k, hk, hb⟩ := Array.any_eq_true.1 h
    simp only [Bool.and_eq_true] at hb
    exact hcl.two hb.2 (one hk hb.1)
theorem wpAnyC_first [PI Q] {D : World → Prop} {i : Nat} {oi : Oper} {v : Value} (hi : ops[i]? = some oi) (hsel : ∀ (j : Nat) (o : Oper) cs b, ops[j]? = some o → o.op ≠ .select cs b)
    (hpres : ∀ (j : Nat) (listed : Array Bool), Closed ops listed → j ∈ Region.ready .any ops listed → listed.getD i true = false → ∀ w w', (lateB ops R j = false → C w → C w') → D w → D w') :
    ∀ (fuel : Nat) (listed : Array Bool) (a : Act) (w : World),
      (∀ j oj, ops[j]? = some oj → j ≠ i → listed.getD j true = false → (∀ e ∈ oj.after, Region.binds .any e = true → e.on ≠ i) → oi.apart ops oj = true) →
      Closed ops listed → i ∈ Region.ready .any ops listed → YD P ops D oi v a → D w → wpAnyC P ops C R Q fuel (listed.setIfInBounds i true) (a.put oi.dst v) w → wpAnyC P ops C R Q (fuel + 1) listed a w := by
  intro fuel
  induction fuel with
  | zero =>
    intro listed a w _ _ hr hy hD H
    refine ⟨fun h => (by rw [h] at hr; cases hr), fun j hj => ?_⟩
    by_cases hji : j = i
    · subst hji; exact hy.op hi hD ⟨fun _ hc => hc, H⟩
    · have := ready_mono hj hji
      rw [H.1] at this; cases this
  | succ fuel ih =>
    intro listed a w hfree hcl hr hy hD H
    refine ⟨fun h => (by rw [h] at hr; cases hr), fun j hj => ?_⟩
    by_cases hji : j = i
    · subst hji; exact hy.op hi hD ⟨fun _ hc => hc, H⟩
    · obtain ⟨hjun, oj, hoj, hall⟩ := mem_ready.1 hj
      have hiun : listed.getD i true = false := (mem_ready.1 hr).1
      have hnot : ∀ e ∈ oj.after, Region.binds .any e = true → e.on ≠ i := fun e he hb heq => by
        have h1 := hall e he hb
        rw [heq] at h1
        rcases Nat.lt_or_ge i listed.size with h' | h'
        · simp [h'] at hiun h1; rw [hiun] at h1; cases h1
        · simp [Array.getElem?_eq_none h'] at h1
      have h2 := wpOp_swap hoj (hfree j oj hoj hji hjun hnot) (fun cs b => hsel i oi cs b hi) (fun cs b => hsel j oj cs b hoj) hy (H.2 j (ready_mono hj hji))
      have hfree' : ∀ k ok, ops[k]? = some ok → k ≠ i → (listed.setIfInBounds j true).getD k true = false → (∀ e ∈ ok.after, Region.binds .any e = true → e.on ≠ i) → oi.apart ops ok = true := fun k ok hk hki hun hno => by
        refine hfree k ok hk hki ?_ hno
        by_cases hjk : j = k
        · subst hjk; exact hjun
        · rw [getD_set_ne true hjk] at hun; exact hun
      refine wpOp_mono (fun a' w' h3 => ⟨h3.2.1, ih (listed.setIfInBounds j true) a' w' hfree' (hcl.step (ready_waits hj)) (ready_mono hr (Ne.symm hji)) h3.1 (hpres j listed hcl hj hiun w w' h3.2.1 hD) ?_⟩) h2
      rw [Array.setIfInBounds_comm _ _ hji]
      exact h3.2.2
end
/-- every operation that has not come up, and does not wait for i, is apart from it -/
def freeB (ops : Array Oper) (i : Nat) (listed : Array Bool) : Bool :=
  match ops[i]? with
  | none => false
  | some oi => (List.range ops.size).all fun j => match ops[j]? with
    | none => true
    | some oj => j == i || listed.getD j true || (oj.after.any fun e => Region.binds .any e && e.on == i) || oi.apart ops oj
theorem freeB_spec {ops : Array Oper} {i : Nat} {listed : Array Bool} {oi : Oper} (hi : ops[i]? = some oi) (h : freeB ops i listed = true) :
    ∀ j oj, ops[j]? = some oj → j ≠ i → listed.getD j true = false → (∀ e ∈ oj.after, Region.binds .any e = true → e.on ≠ i) → oi.apart ops oj = true := by
  intro j oj hj hji hun hno
  unfold freeB at h
  simp only [hi] at h
  have hlt : j < ops.size := (Array.getElem?_eq_some_iff.1 hj).1
  have := List.all_eq_true.1 h j (List.mem_range.2 hlt)
  simp only [hj, Bool.or_eq_true, beq_iff_eq] at this
  rcases this with ((h1 | h1) | h1) | h1
  · exact absurd h1 hji
  · rw [hun] at h1; cases h1
  · obtain ⟨e, he, hb⟩ := Array.any_eq_true.1 h1
    simp only [Bool.and_eq_true, beq_iff_eq] at hb
    exact absurd hb.2 (hno _ (Array.getElem_mem _) hb.1)
  · exact h1
def JD (cx : Cx) (ops : Array Oper) (R : List Nat) (Mr : Mem) (Lr : List Ent) (Q : Post) (fuel : Nat) (listed : Array Bool) (E : Env) (M : Mem) (L : List Ent) : Prop :=
  ∀ a w, Sat cx.ds cx.n E a → Own cx M w L → wpAnyC cx.P ops (fun w => Own cx Mr w Lr) R Q fuel listed a w
section
variable {cx : Cx} {Q : Post} {E : Env} {M : Mem} {L : List Ent} {ops : Array Oper} {R : List Nat} {Mr : Mem} {Lr : List Ent} {fuel : Nat} {listed : Array Bool}
theorem c_draw {i : Nat} {l : List Oper} (R : List Nat) (hm : cx.P.follows .mixedOrders = true) (h : JD cx l.toArray R M L Q l.length (Array.replicate l.length false) E M L) : JC cx (.region i l.toArray true) Q E M L := fun a w hs ho =>
  wp_region_any hm (by
    have := wpAny_of_C _ _ _ _ (h a w.drew hs ho.drew)
    simpa using this)
theorem jd_done (hr : Region.ready .any ops listed = []) (h : JP cx Q .normal E M L) : JD cx ops R Mr Lr Q fuel listed E M L := fun a w hs ho => by
  cases fuel with
  | zero => exact ⟨hr, h a w hs ho⟩
  | succ n => exact ⟨fun _ => h a w hs ho, fun i hi => by rw [hr] at hi; cases hi⟩
theorem sel_spec {ops : Array Oper} (h : Region.noSelect ops = true) : ∀ (j : Nat) (o : Oper) cs b, ops[j]? = some o → o.op ≠ .select cs b := Region.noSelect_spec h
/-- what reads what was there at first -/
theorem jd_first [PI Q] {i d T : Nat} {op : Op} {pos : String} {af : Array Edge} {v : Value} {l' : Array Bool} (hi : ops[i]? = some ⟨some d, op, T, pos, af, none⟩) (hn : Nat.blt d cx.n = true) (hR : R.contains i = true) (hsel : Region.noSelect ops = true)
    (hr : (Region.ready .any ops listed).contains i = true) (hf : freeB ops i listed = true) (hcl : closedB ops listed = true) (hl : listed.setIfInBounds i true = l') (hC : ∀ w, Own cx M w L → Own cx Mr w Lr) (hy : Y cx ⟨some d, op, T, pos, af, none⟩ E Mr Lr v)
    (h : JD cx ops R Mr Lr Q fuel l' ((d, v) :: E) M L) : JD cx ops R Mr Lr Q (fuel + 1) listed E M L := fun a w hs ho => by
  refine wpAnyC_first (D := fun w => Own cx Mr w Lr) hi (sel_spec hsel) ?_ fuel listed a w (freeB_spec hi hf) (closedB_spec hcl) (by simpa using hr) (.inl ⟨rfl, fun w hw => hy a w hs hw⟩) (hC w ho) ?_
  · intro j ls hc' hj hun w w' hp hD
    refine hp ?_ hD
    cases hlt : lateB ops R j with
    | false => rfl
    | true =>
      exfalso
      rw [late_listed hc' hj hlt (by simpa using hR)] at hun; cases hun
  · rw [hl]; exact h _ w (hs.put (by simpa using hn) v) ho
/-- what looks at no memory -/
theorem jd_pure [PI Q] {i d T : Nat} {op : Op} {pos : String} {af : Array Edge} {v : Value} {l' : Array Bool} (hi : ops[i]? = some ⟨some d, op, T, pos, af, none⟩) (hn : Nat.blt d cx.n = true) (hsel : Region.noSelect ops = true)
    (hr : (Region.ready .any ops listed).contains i = true) (hf : freeB ops i listed = true) (hcl : closedB ops listed = true) (hl : listed.setIfInBounds i true = l') (hy : ∀ a w, Sat cx.ds cx.n E a → (execOp a.eval ⟨some d, op, T, pos, af, none⟩).run cx.P w = .ok (.value v) w)
    (h : JD cx ops R Mr Lr Q fuel l' ((d, v) :: E) M L) : JD cx ops R Mr Lr Q (fuel + 1) listed E M L := fun a w hs ho => by
  refine wpAnyC_first (D := fun _ => True) hi (sel_spec hsel) (fun _ _ _ _ _ _ _ _ _ => trivial) fuel listed a w (freeB_spec hi hf) (closedB_spec hcl) (by simpa using hr) (.inl ⟨rfl, fun w _ => hy a w hs⟩) trivial ?_
  rw [hl]; exact h _ w (hs.put (by simpa using hn) v) ho
/-- what is not wanted -/
theorem jd_off [PI Q] {i j t d T : Nat} {want b : Bool} {op : Op} {pos : String} {af : Array Edge} {l' : Array Bool} (hi : ops[i]? = some ⟨some d, op, T, pos, af, some (j, want)⟩) (hn : Nat.blt d cx.n = true) (hsel : Region.noSelect ops = true)
    (hr : (Region.ready .any ops listed).contains i = true) (hf : freeB ops i listed = true) (hcl : closedB ops listed = true) (hl : listed.setIfInBounds i true = l') (hd : (ops[j]?).bind (·.dst) = some t) (hb : find E t = some (.bool b)) (hw : b = !want)
    (h : JD cx ops R Mr Lr Q fuel l' ((d, undef) :: E) M L) : JD cx ops R Mr Lr Q (fuel + 1) listed E M L := fun a w hs ho => by
  refine wpAnyC_first (D := fun _ => True) hi (sel_spec hsel) (fun _ _ _ _ _ _ _ _ _ => trivial) fuel listed a w (freeB_spec hi hf) (closedB_spec hcl) (by simpa using hr) (.inr ⟨?_, rfl⟩) trivial ?_
  · have hy : yielded ops a.tmps j = some b := by unfold yielded; rw [hd]; simp [hs.g t _ hb]
    unfold Region.wanted
    simp only [hy]
    subst hw; cases want <;> rfl
  · rw [hl]; exact h _ w (hs.put (by simpa using hn) undef) ho
/-- wanted: as if it were unguarded -/
theorem jd_first_g [PI Q] {i j t d T : Nat} {want b : Bool} {op : Op} {pos : String} {af : Array Edge} {v : Value} {l' : Array Bool} (hi : ops[i]? = some ⟨some d, op, T, pos, af, some (j, want)⟩) (hn : Nat.blt d cx.n = true) (hR : R.contains i = true) (hsel : Region.noSelect ops = true)
    (hr : (Region.ready .any ops listed).contains i = true) (hf : freeB ops i listed = true) (hcl : closedB ops listed = true) (hl : listed.setIfInBounds i true = l') (hd : (ops[j]?).bind (·.dst) = some t) (hb : find E t = some (.bool b)) (hw : b = want) (hC : ∀ w, Own cx M w L → Own cx Mr w Lr)
    (hy : Y cx ⟨some d, op, T, pos, af, none⟩ E Mr Lr v) (h : JD cx ops R Mr Lr Q fuel l' ((d, v) :: E) M L) : JD cx ops R Mr Lr Q (fuel + 1) listed E M L := fun a w hs ho => by
  refine wpAnyC_first (D := fun w => Own cx Mr w Lr) hi (sel_spec hsel) ?_ fuel listed a w (freeB_spec hi hf) (closedB_spec hcl) (by simpa using hr) (.inl ⟨?_, fun w hw => hy a w hs hw⟩) (hC w ho) ?_
  · intro j ls hc' hj hun w w' hp hD
    refine hp ?_ hD
    cases hlt : lateB ops R j with
    | false => rfl
    | true =>
      exfalso
      rw [late_listed hc' hj hlt (by simpa using hR)] at hun; cases hun
  · have hy' : yielded ops a.tmps j = some b := by unfold yielded; rw [hd]; simp [hs.g t _ hb]
    unfold Region.wanted
    simp only [hy']
    subst hw; simp
  · rw [hl]; exact h _ w (hs.put (by simpa using hn) v) ho
theorem jd_split {j t : Nat} {b : Bool} (hb : find E t = some (.bool b)) (ht : b = true → JD cx ops R Mr Lr Q fuel listed E M L) (hf : b = false → JD cx ops R Mr Lr Q fuel listed E M L) : JD cx ops R Mr Lr Q fuel listed E M L := by
  cases b
  · exact hf rfl
  · exact ht rfl
/-- what is asked behind one operation -/
def QD (cx : Cx) (ops : Array Oper) (R : List Nat) (Mr : Mem) (Lr : List Ent) (Q : Post) (fuel : Nat) (listed : Array Bool) (i : Nat) : Post :=
  Exit.then (fun a w => (lateB ops R i = false → Own cx Mr w Lr) ∧ wpAnyC cx.P ops (fun w => Own cx Mr w Lr) R Q fuel (listed.setIfInBounds i true) a w) Q
/-- all that are ready, each -/
theorem jd_all {rs : List Nat} (hr : Region.ready .any ops listed = rs) (hne : rs.isEmpty = false) (h : ∀ i ∈ rs, ∃ o, ops[i]? = some o ∧ J cx ops (QD cx ops R Mr Lr Q fuel listed i) [o] E M L) : JD cx ops R Mr Lr Q (fuel + 1) listed E M L := fun a w hs ho => by
  refine ⟨fun h0 => (by rw [hr] at h0; subst h0; simp at hne), fun i hi => ?_⟩
  rw [hr] at hi
  obtain ⟨o, ho', hj⟩ := h i hi
  have h1 := hj a w hs ho
  unfold wpOp
  simp only [ho']
  unfold wpList at h1
  have key : ∀ a' w', wpList cx.P ops (QD cx ops R Mr Lr Q fuel listed i) [] a' w' → (lateB ops R i = false → (fun w => Own cx Mr w Lr) w → (fun w => Own cx Mr w Lr) w') ∧ wpAnyC cx.P ops (fun w => Own cx Mr w Lr) R Q fuel (listed.setIfInBounds i true) a' w' :=
    fun a' w' hq => ⟨fun hl _ => hq.1 hl, hq.2⟩
  split
  · rename_i hw
    rw [if_pos hw] at h1
    refine h1.imp (fun h1 => ?_) (fun h1 => ⟨h1.1, let ⟨a, w, hq⟩ := h1.2; ⟨a, w, hq⟩⟩)
    have h2 := Oper.wp_mono key h1
    unfold Oper.wp at *
    generalize (execOp a.eval o).run cx.P w = r at *
    cases r with
    | ok n w' =>
      cases n with
      | enter f args =>
        rw [Oper.upon_enter] at h2 ⊢
        exact Calls.mono h2 fun e w'' he => by cases e <;> first | exact he | exact (let ⟨a, w, hq⟩ := he; ⟨a, w, hq⟩)
      | _ => exact h2
    | halt x w' => cases x <;> exact h2
  · rename_i hw
    rw [if_neg hw] at h1
    exact key _ _ h1
/-- one alone is ready -/
theorem jd_one {i : Nat} {o : Oper} (hr : Region.ready .any ops listed = [i]) (hi : ops[i]? = some o) (h : J cx ops (QD cx ops R Mr Lr Q fuel listed i) [o] E M L) : JD cx ops R Mr Lr Q (fuel + 1) listed E M L :=
  jd_all hr rfl (fun k hk => by simp at hk; subst hk; exact ⟨o, hi, h⟩)
theorem jd_two {i j : Nat} {o p : Oper} (hr : Region.ready .any ops listed = [i, j]) (hi : ops[i]? = some o) (hj : ops[j]? = some p) (h : J cx ops (QD cx ops R Mr Lr Q fuel listed i) [o] E M L) (h' : J cx ops (QD cx ops R Mr Lr Q fuel listed j) [p] E M L) :
    JD cx ops R Mr Lr Q (fuel + 1) listed E M L :=
  jd_all hr rfl (fun k hk => by
    simp at hk
    rcases hk with rfl | rfl
    · exact ⟨o, hi, h⟩
    · exact ⟨p, hj, h'⟩)
theorem p_jd {i : Nat} {l' : Array Bool} (hl : listed.setIfInBounds i true = l') (hc : lateB ops R i = true ∨ ∀ w, Own cx M w L → Own cx Mr w Lr) (h : JD cx ops R Mr Lr Q fuel l' E M L) : JP cx (QD cx ops R Mr Lr Q fuel listed i) .normal E M L := fun a w hs ho =>
  ⟨fun hlt => hc.elim (fun h => by rw [h] at hlt; cases hlt) (fun h => h w ho), by rw [hl]; exact h a w hs ho⟩
theorem p_jd_pan {i : Nat} {c : List PanicEntry} (h : JP cx Q (.panic c) E M L) : JP cx (QD cx ops R Mr Lr Q fuel listed i) (.panic c) E M L := h
end
theorem Own.less0 {cx : Cx} {M M1 : Mem} {w : World} {L : List Ent} (ho : Own cx M w L) (h : MLe M1 M) : (∀ a v, cx.M0 a = some v → M1 a = some v) → Own cx M1 w L := fun h0 => ho.less h h0
end Go.Proofs.YtihgpbpcbbgdiaaGreat
