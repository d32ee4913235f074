/- Panics, and contracts of what may panic; deferred calls. -/
import Derived.Test.YtihgpbpcbbgdiaaGreatCore7
import Derived.Recover
namespace Go.Proofs.YtihgpbpcbbgdiaaGreat
open Go.RowKit
set_option linter.unusedVariables false
set_option linter.unusedSimpArgs false

def CtrE (P : Program) (f : FuncId) (args : List Value) (M : Mem) (Lb : List Ent) (Ps : Ending → Mem → List Ent → Prop) : Prop :=
  ∀ w, Own ⟨P, 0, w, blks Lb, M, []⟩ M w Lb → Calls P f args.toArray w (fun e w' => ∃ M' L', Ps e M' L' ∧ Own ⟨P, 0, w, blks Lb, M, []⟩ M' w' L')
def bqE (cx : Cx) (fn : Func) (Ps : Ending → Mem → List Ent → Prop) : Post :=
  bodyPost cx.P fn (fun e w' => ∃ M' L', Ps e M' L' ∧ Own cx M' w' L')
theorem ctrE {P : Program} {f : FuncId} {fn : Func} {c : Code} {n : Nat} {args : List Value} {M : Mem} {Lb : List Ent} {Ps : Ending → Mem → List Ent → Prop}
    (hf : P.funcs[f]? = some fn) (hb : fn.body = some c) (hn : fn.ntmps = n) (ha : Nat.ble args.length n = true)
    (h : ∀ w, JC ⟨P, n, w, blks Lb, M, []⟩ c (bqE ⟨P, n, w, blks Lb, M, []⟩ fn Ps) (mkE 0 args) M Lb) : CtrE P f args M Lb Ps := fun w ho => by
  refine calls_of_wp hf hb ?_
  have hle : args.length ≤ n := Nat.le_of_ble_eq_true ha
  refine wp_mono (h w _ w ⟨rfl, by simp [hn]; omega, ?_⟩ ho.cxn) ?_
  · intro t v ht
    obtain ⟨_, h2⟩ := mkE_find _ _ _ _ ht
    simp only [Nat.sub_zero] at h2
    have hl := (List.getElem?_eq_some_iff.1 h2).1
    rw [Array.getElem?_append_left (by simpa using hl)]
    simpa using h2
  · have key : ∀ {e' : Ending} {w' : World}, (∃ M' L', Ps e' M' L' ∧ Own ⟨P, n, w, blks Lb, M, []⟩ M' w' L') → ∃ M' L', Ps e' M' L' ∧ Own ⟨P, 0, w, blks Lb, M, []⟩ M' w' L' :=
      fun ⟨M', L', h2, h3⟩ => ⟨M', L', h2, h3.cxn⟩
    intro e a w' hq
    cases e <;> simp only [bqE, bodyPost] at hq ⊢
    · exact ⟨hq.1, hq.2.imp fun v h => ⟨h.1, key h.2⟩⟩
    · exact ⟨hq.1, hq.2.imp fun v h => ⟨h.1, key h.2⟩⟩
    · exact ⟨hq.1, key hq.2⟩
    · exact key hq
theorem equalIn_nil {P : Program} {t i : Nat} {v : Value} {ms : Array (String × TypeId)} (d : Nat) (hu : P.underlying t = some (.interface ms)) (w : World) : (Op.equalIn (d + 1) t (.iface i v) .nilIface).run P w = .ok false w := by
  unfold Op.equalIn
  rw [Sem.run_bind, run_underlying hu, Result.andThen_ok]
  rfl
section
variable {cx : Cx} {Q : Post} {E : Env} {M : Mem} {L : List Ent} {ops : Array Oper} {d T : Nat} {pos : String} {af : Array Edge} {rest : List Oper} {x y z : Operand} {v u : Value}
theorem pE_ret {fn : Func} {Ps : Ending → Mem → List Ent → Prop} {rs : List ResultVar} {vs : List Value} (hds : cx.ds = []) (hr : fn.results = rs.toArray) (h : Res cx.P E L rs vs) (hp : Ps (.returned (outv vs)) M L) :
    JP cx (bqE cx fn Ps) .ret E M L := fun a w hs ho => ⟨hs.d.trans hds, _, run_results hs ho hr h, M, L, hp, ho⟩
theorem pE_end {fn : Func} {Ps : Ending → Mem → List Ent → Prop} {rs : List ResultVar} {vs : List Value} (hds : cx.ds = []) (hr : fn.results = rs.toArray) (h : Res cx.P E L rs vs) (hp : Ps (.returned (outv vs)) M L) :
    JP cx (bqE cx fn Ps) .normal E M L := fun a w hs ho => ⟨hs.d.trans hds, _, run_results hs ho hr h, M, L, hp, ho⟩
theorem pE_pan {fn : Func} {Ps : Ending → Mem → List Ent → Prop} {ch : List PanicEntry} (hds : cx.ds = []) (hp : Ps (.panicked ch) M L) :
    JP cx (bqE cx fn Ps) (.panic ch) E M L := fun a w hs ho => ⟨hs.d.trans hds, M, L, hp, ho⟩
theorem p_thn_pan {c : Code} {ch : List PanicEntry} (h : JP cx Q (.panic ch) E M L) : JP cx (thn cx c Q) (.panic ch) E M L := h
theorem p_inb_pan {i : Nat} {ch : List PanicEntry} (h : JP cx Q (.panic ch) E M L) : JP cx (inb i Q) (.panic ch) E M L := h
theorem p_lp_pan {X : Type} {I : X → Prop} {μ : X → Nat} {m : Nat} {E' : X → Env} {M' : X → Mem} {L' : X → List Ent} {ch : List PanicEntry} (h : JP cx Q (.panic ch) E M L) :
    JP cx (lpQ cx I μ m E' M' L' Q) (.panic ch) E M L := h
theorem yiface {t : Nat} {D : TypeDesc}  (hu : cx.P.underlying t = some D) (hD : (match D with | .interface _ => true | _ => false) = false) (hx : ev E x = some v) : Y cx ⟨some d, .makeInterface t x, T, pos, af, none⟩ E M L (.iface t v) := fun a w hs ho => by
    simp only [execOp, hs.ev hx, Instr.makeInterface, Sem.run_bind, run_underlying hu, Result.andThen_ok]
    cases D <;> simp_all
theorem jiface {t : Nat} {D : TypeDesc} (hn : Nat.blt d cx.n = true) (hu : cx.P.underlying t = some D) (hD : (match D with | .interface _ => true | _ => false) = false) (hx : ev E x = some v) (hk : J cx ops Q rest ((d, .iface t v) :: E) M L) : J cx ops Q (⟨some d, .makeInterface t x, T, pos, af, none⟩ :: rest) E M L := j_y hn (yiface hu hD hx) hk
theorem jpanic {t : Nat} (hx : ev E x = some (.iface t v)) (hk : JP cx Q (.panic [{ v := .iface t v, recovered := false }]) E M L) : J cx ops Q (⟨none, .panic x, T, pos, af, none⟩ :: rest) E M L :=
  j_op rfl fun a w hs ho K hK => by
    unfold Oper.wp
    have : (execOp a.eval ⟨none, .panic x, T, pos, af, none⟩).run cx.P w = .halt (.panic (.iface t v)) w := by
      simp [execOp, hs.ev hx, Instr.panic, goPanic, Sem.run]
    rw [this, Oper.upon_panic]
    exact hk a w hs ho
theorem yineq {t : Nat} {ms : Array (String × TypeId)} {t' i : Nat}  (hu : cx.P.underlying t = some (.interface ms)) (hx : ev E x = some (.iface i v)) (hy : ev E y = some .nilIface) : Y cx ⟨some d, .binOp .neq t x y t', T, pos, af, none⟩ E M L (.bool true) := fun a w hs ho => by
    have h1 : (Op.equal t (.iface i v) .nilIface).run cx.P w = .ok false w := equalIn_nil 9999 hu w
    have h2 : (eqGuard .neq t x y (.iface i v) .nilIface).run cx.P w = .ok () w := rfl
    have h3 : (binOp .neq t (.iface i v) .nilIface).run cx.P w = .ok (.bool true) w := by
      show (do let b ← Op.equal t (.iface i v) .nilIface; pure (Value.bool !b) : Sem Value).run cx.P w = _
      rw [Sem.run_bind, h1]; rfl
    simp only [execOp, hs.ev hx, hs.ev hy, Sem.run_bind, h2, h3, Result.andThen_ok, Sem.run_pure]
theorem jineq {t : Nat} {ms : Array (String × TypeId)} {t' i : Nat} (hn : Nat.blt d cx.n = true) (hu : cx.P.underlying t = some (.interface ms)) (hx : ev E x = some (.iface i v)) (hy : ev E y = some .nilIface) (hk : J cx ops Q rest ((d, .bool true) :: E) M L) : J cx ops Q (⟨some d, .binOp .neq t x y t', T, pos, af, none⟩ :: rest) E M L := j_y hn (yineq hu hx hy) hk
theorem equalIn_nil2 {P : Program} {t : Nat} {ms : Array (String × TypeId)} (d : Nat) (hu : P.underlying t = some (.interface ms)) (w : World) : (Op.equalIn (d + 1) t .nilIface .nilIface).run P w = .ok true w := by
  unfold Op.equalIn
  rw [Sem.run_bind, run_underlying hu, Result.andThen_ok]
  rfl
theorem yineq0 {t t' : Nat} {ms : Array (String × TypeId)}  (hu : cx.P.underlying t = some (.interface ms)) (hx : ev E x = some .nilIface) : Y cx ⟨some d, .binOp .neq t x (.const .nilIface) t', T, pos, af, none⟩ E M L (.bool false) := fun a w hs ho => by
    have h1 : (Op.equal t .nilIface .nilIface).run cx.P w = .ok true w := equalIn_nil2 9999 hu w
    have h2 : (eqGuard .neq t x (.const .nilIface) .nilIface .nilIface).run cx.P w = .ok () w := by unfold eqGuard; simp
    have h3 : (binOp .neq t .nilIface .nilIface).run cx.P w = .ok (.bool false) w := by
      show (do let b ← Op.equal t .nilIface .nilIface; pure (Value.bool !b) : Sem Value).run cx.P w = _
      rw [Sem.run_bind, h1]; rfl
    have h4 : a.eval (.const .nilIface) = .nilIface := rfl
    simp only [execOp, hs.ev hx, h4, Sem.run_bind, h2, h3, Result.andThen_ok, Sem.run_pure]
theorem jineq0 {t t' : Nat} {ms : Array (String × TypeId)} (hn : Nat.blt d cx.n = true) (hu : cx.P.underlying t = some (.interface ms)) (hx : ev E x = some .nilIface) (hk : J cx ops Q rest ((d, .bool false) :: E) M L) : J cx ops Q (⟨some d, .binOp .neq t x (.const .nilIface) t', T, pos, af, none⟩ :: rest) E M L := j_y hn (yineq0 hu hx) hk
theorem equalIn_func {P : Program} {t : Nat} {fn : Fn} {fi ca : Array Value} {ps rs : Array TypeId} {vr : Bool} (d : Nat) (hu : P.underlying t = some (.func ps rs vr)) (w : World) : (Op.equalIn (d + 1) t (.func fn fi ca) .nilFunc).run P w = .ok false w := by
  unfold Op.equalIn
  rw [Sem.run_bind, run_underlying hu, Result.andThen_ok]
  rfl
theorem yfeq {t t' : Nat} {fn : Fn} {fi ca : Array Value} {ps rs : Array TypeId} {vr : Bool}  (hu : cx.P.underlying t = some (.func ps rs vr)) (hx : ev E x = some (.func fn fi ca)) (hy : ev E y = some .nilFunc) : Y cx ⟨some d, .binOp .eql t x y t', T, pos, af, none⟩ E M L (.bool false) := fun a w hs ho => by
    have h1 : (Op.equal t (.func fn fi ca) .nilFunc).run cx.P w = .ok false w := equalIn_func 9999 hu w
    have h2 : (eqGuard .eql t x y (.func fn fi ca) .nilFunc).run cx.P w = .ok () w := rfl
    have h3 : (binOp .eql t (.func fn fi ca) .nilFunc).run cx.P w = .ok (.bool false) w := by
      show (do let b ← Op.equal t (.func fn fi ca) .nilFunc; pure (Value.bool b) : Sem Value).run cx.P w = _
      rw [Sem.run_bind, h1]; rfl
    simp only [execOp, hs.ev hx, hs.ev hy, Sem.run_bind, h2, h3, Result.andThen_ok, Sem.run_pure]
theorem jfeq {t t' : Nat} {fn : Fn} {fi ca : Array Value} {ps rs : Array TypeId} {vr : Bool} (hn : Nat.blt d cx.n = true) (hu : cx.P.underlying t = some (.func ps rs vr)) (hx : ev E x = some (.func fn fi ca)) (hy : ev E y = some .nilFunc) (hk : J cx ops Q rest ((d, .bool false) :: E) M L) : J cx ops Q (⟨some d, .binOp .eql t x y t', T, pos, af, none⟩ :: rest) E M L := j_y hn (yfeq hu hx hy) hk
theorem yta {t i : Nat} {D : TypeDesc}  (hu : cx.P.underlying i = some D) (hD : (match D with | .interface _ => true | _ => false) = false) (hx : ev E x = some (.iface i v)) : Y cx ⟨some d, .typeAssert x t i true, T, pos, af, none⟩ E M L (.tuple #[v, .bool true]) := fun a w hs ho => by
    simp only [execOp, hs.ev hx, Instr.typeAssert, Sem.run_bind, run_underlying hu, Result.andThen_ok]
    cases D <;> simp_all
theorem jta {t i : Nat} {D : TypeDesc} (hn : Nat.blt d cx.n = true) (hu : cx.P.underlying i = some D) (hD : (match D with | .interface _ => true | _ => false) = false) (hx : ev E x = some (.iface i v)) (hk : J cx ops Q rest ((d, .tuple #[v, .bool true]) :: E) M L) : J cx ops Q (⟨some d, .typeAssert x t i true, T, pos, af, none⟩ :: rest) E M L := j_y hn (yta hu hD hx) hk
/-- a call that may panic -/
theorem jcallE {f : FuncId} {args tys : Array _} {fi ca vs : List Value} {Ps : Ending → Mem → List Ent → Prop} [FnI cx.P f] (hn : Nat.blt d cx.n = true)
    (hx : ev E x = some (.func (.func f) fi.toArray ca.toArray)) (ha : evL E args.toList = some vs) (hc : CtrE cx.P f (fi ++ vs ++ ca) M [] Ps) (hout : ∀ M L, ¬ Ps .outgrown M L)
    (hk : ∀ v M' L', Ps (.returned v) M' L' → J cx ops Q rest ((d, v) :: E) M L) (hp : ∀ ch M' L', Ps (.panicked ch) M' L' → JP cx Q (.panic ch) E M L) : J cx ops Q (⟨some d, .call ⟨.value x, args, tys⟩, T, pos, af, none⟩ :: rest) E M L :=
  j_op rfl fun a w hs ho K hK => by
    have hargs : args.map a.eval = vs.toArray := by apply Array.ext'; simpa using evs ha hs
    have hrun : (execOp a.eval ⟨some d, .call ⟨.value x, args, tys⟩, T, pos, af, none⟩).run cx.P w = .ok (.enter f (fi ++ vs ++ ca).toArray) w := by
      simp [execOp, resolve, hargs, hs.ev hx, Deferred.ofValue, invoke, run_callFunc]
    unfold Oper.wp
    rw [hrun, Oper.upon_enter]
    have ho' : Own cx M w ([] ++ L) := ho
    refine (hc w ho'.lend).mono ?_
    rintro e w' ⟨M', L', h1, h2⟩
    have h3 : Own cx M w' L := (ho'.call h2).drop.less (fun a u hu => h2.old a u hu) ho.old
    cases e with
    | returned v => exact hK _ _ (hk v M' L' h1 _ _ (hs.put (by simpa using hn) _) h3)
    | panicked ch => exact hp ch M' L' h1 a w' hs h3
    | outgrown => exact absurd h1 (hout _ _)
/-- a deferred call is laid aside -/
theorem jdefer {f : FuncId} {fi ca : List Value} {args tys : Array _} {vs : List Value} (hx : ev E x = some (.func (.func f) fi.toArray ca.toArray)) (ha : evL E args.toList = some vs)
    (hk : J { cx with ds := { target := .fn (.func f) ca.toArray, args := (fi ++ vs).toArray } :: cx.ds } ops Q rest E M L) : J cx ops Q (⟨none, .defer ⟨.value x, args, tys⟩, T, pos, af, none⟩ :: rest) E M L :=
  j_op rfl fun a w hs ho K hK => by
    have hargs : args.map a.eval = vs.toArray := by apply Array.ext'; simpa using evs ha hs
    have hrun : (execOp a.eval ⟨none, .defer ⟨.value x, args, tys⟩, T, pos, af, none⟩).run cx.P w = .ok (.defer { target := .fn (.func f) ca.toArray, args := (fi ++ vs).toArray }) w := by
      simp [execOp, resolve, hargs, hs.ev hx, Deferred.ofValue]
    unfold Oper.wp
    rw [hrun, Oper.upon_defer]
    refine hK _ _ (hk _ _ ⟨?_, hs.s, hs.g⟩ ⟨ho.os, ho.tape, ho.output, ho.dr, ho.size, ho.keep, ho.mem, ho.new, ho.old, ho.off, ho.ent, ho.nd, ho.brf⟩)
    show _ :: a.defers = _
    rw [hs.d]
/-- an owned block becomes known -/
theorem j_known {B t : Nat} {c : List Value} (hk : ∀ M', MLe M M' → (∀ j u, c[j]? = some u → M' ⟨B, j, none⟩ = some u) → J cx ops Q rest E M' L) :
    J cx ops Q rest E M (.blk B t c :: L) := fun a w hs ho => by
  have hB : w.heap[B]? = some (Obj.cells c.toArray t (0, 0)) := ho.at' (i := 0) rfl
  let M' : Mem := fun p => if p.block = B ∧ p.spot = none then c[p.off]? else M p
  have hBn : B ∉ blks L := by
    have := ho.nd
    rw [blks_cons] at this
    exact (List.nodup_cons.1 this).1
  have hBm : B ∈ blks (Ent.blk B t c :: L) := by rw [blks_cons]; simp [Ent.bs]
  have hle : MLe M M' := fun p q hq => by
    have : p.block ≠ B := fun e => ho.off p q hq (e ▸ hBm)
    simp [M', this, hq]
  have ht := ho.tail
  refine hk M' hle (fun j u hu => by simp [M', hu]) a w hs ⟨ht.os, ht.tape, ht.output, ht.dr, ht.size, ht.keep, ?_, ?_, fun p q hq => hle p q (ho.old p q hq), ?_, ht.ent, ht.nd, ht.brf⟩
  · intro p q hq
    by_cases hp : p.block = B ∧ p.spot = none
    · obtain ⟨b, o, s⟩ := p
      simp only at hp
      obtain ⟨rfl, rfl⟩ := hp
      simp [M'] at hq
      rw [cell_of_heap hB]; exact hq
    · simp only [M', hp, if_false] at hq; exact ho.mem p q hq
  · intro p q hq
    by_cases hp : p.block = B ∧ p.spot = none
    · exact .inr (hp.1 ▸ ho.brf B hBm)
    · simp only [M', hp, if_false] at hq; exact ho.new p q hq
  · intro p q hq
    by_cases hp : p.block = B ∧ p.spot = none
    · rw [hp.1]; exact hBn
    · simp only [M', hp, if_false] at hq; exact ht.off p q hq
end
theorem setRow_cell {w : World} {B T : Nat} {v : Value} (h : w.heap[B]? = some (.cells [v].toArray T (0, 0))) (u : Value) : w.setCell ⟨B, 0, none⟩ u = w.setRow B [u].toArray := by
  rw [setCell_eq_setRow w B 0 _ T _ u h]; rfl
end Go.Proofs.YtihgpbpcbbgdiaaGreat
