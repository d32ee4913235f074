/- Several texts in one. -/
import Derived.Test.YtihgpbpcbbgdiaaGreatOrd2
/- Contracts, calls and returns; slices: rows that are known, owned, frozen, appended to. -/
namespace Go.Proofs.YtihgpbpcbbgdiaaGreat
open Go.RowKit
set_option linter.unusedVariables false
set_option linter.unusedSimpArgs false

/-- 'f', handed these arguments in a world where M is known and Lb owned, returns; what is known, and owned, then -/
def Ctr (P : Program) (f : FuncId) (args : List Value) (M : Mem) (Lb : List Ent) (Ps : Value → Mem → List Ent → Prop) : Prop :=
  ∀ w, Own ⟨P, 0, w, blks Lb, M, []⟩ M w Lb → Calls P f args.toArray w (fun e w' => ∃ v M' L', e = .returned v ∧ Ps v M' L' ∧ Own ⟨P, 0, w, blks Lb, M, []⟩ M' w' L')
theorem Ctr.mono {P : Program} {f : FuncId} {args : List Value} {M : Mem} {Lb : List Ent} {Ps Ps' : Value → Mem → List Ent → Prop} (h : Ctr P f args M Lb Ps) (hp : ∀ v M' L', Ps v M' L' → Ps' v M' L') : Ctr P f args M Lb Ps' :=
  fun w ho => (h w ho).mono fun e w' ⟨v, M', L', h1, h2, h3⟩ => ⟨v, M', L', h1, hp _ _ _ h2, h3⟩

def mkE : Nat → List Value → Env
  | _, [] => []
  | i, v :: l => (i, v) :: mkE (i + 1) l
theorem mkE_find : ∀ (l : List Value) (i t : Nat) (v : Value), find (mkE i l) t = some v → i ≤ t ∧ l[t - i]? = some v
  | [], i, t, v, h => by cases h
  | u :: l, i, t, v, h => by
    by_cases e : i = t
    · subst e; rw [mkE, find_eq] at h; cases h; simp
    · rw [mkE, find_ne e] at h
      obtain ⟨h1, h2⟩ := mkE_find l (i + 1) t v h
      refine ⟨by omega, ?_⟩
      rw [show t - i = (t - (i + 1)) + 1 by omega, List.getElem?_cons_succ]
      exact h2
def bq (cx : Cx) (fn : Func) (Ps : Value → Mem → List Ent → Prop) : Post :=
  bodyPost cx.P fn (fun e w' => ∃ v M' L', e = .returned v ∧ Ps v M' L' ∧ Own cx M' w' L')
theorem Own.cxn {P : Program} {ds ds' : List Deferred} {n m : Nat} {w0 w : World} {Br : List Nat} {M0 M : Mem} {L : List Ent} (h : Own ⟨P, n, w0, Br, M0, ds⟩ M w L) : Own ⟨P, m, w0, Br, M0, ds'⟩ M w L :=
  ⟨h.os, h.tape, h.output, h.dr, h.size, h.keep, h.mem, h.new, h.old, h.off, h.ent, h.nd, h.brf⟩
theorem ctr {P : Program} {f : FuncId} {fn : Func} {c : Code} {n : Nat} {args : List Value} {M : Mem} {Lb : List Ent} {Ps : Value → Mem → List Ent → Prop}
    (hf : P.funcs[f]? = some fn) (hb : fn.body = some c) (hn : fn.ntmps = n) (ha : Nat.ble args.length n = true)
    (h : ∀ w, JC ⟨P, n, w, blks Lb, M, []⟩ c (bq ⟨P, n, w, blks Lb, M, []⟩ fn Ps) (mkE 0 args) M Lb) : Ctr P f args M Lb Ps := fun w ho => by
  refine calls_of_wp hf hb ?_
  have hle : args.length ≤ n := Nat.le_of_ble_eq_true ha
  refine wp_mono (h w _ w ⟨rfl, by simp [hn]; omega, ?_⟩ ho.cxn) ?_
  · intro t v ht
    obtain ⟨_, h2⟩ := mkE_find _ _ _ _ ht
    simp only [Nat.sub_zero] at h2
    have hl := (List.getElem?_eq_some_iff.1 h2).1
    rw [Array.getElem?_append_left (by simpa using hl)]
    simpa using h2
  · have key : ∀ {e' : Ending} {w' : World}, (∃ v M' L', e' = .returned v ∧ Ps v M' L' ∧ Own ⟨P, n, w, blks Lb, M, []⟩ M' w' L') → ∃ v M' L', e' = .returned v ∧ Ps v M' L' ∧ Own ⟨P, 0, w, blks Lb, M, []⟩ M' w' L' :=
      fun ⟨v, M', L', h1, h2, h3⟩ => ⟨v, M', L', h1, h2, h3.cxn⟩
    intro e a w' hq
    cases e <;> simp only [bq, bodyPost] at hq ⊢
    · exact ⟨hq.1, hq.2.imp fun v h => ⟨h.1, key h.2⟩⟩
    · exact ⟨hq.1, hq.2.imp fun v h => ⟨h.1, key h.2⟩⟩
    · exact ⟨hq.1, key hq.2⟩
    · exact key hq

/-! returning -/
inductive Res (P : Program) (E : Env) (L : List Ent) : List ResultVar → List Value → Prop
  | nil : Res P E L [] []
  | tmp {t : Nat} {v : Value} {rs : List ResultVar} {vs : List Value} (h : find E t = some v) (hr : Res P E L rs vs) : Res P E L (.tmp t :: rs) (v :: vs)
  | agg {a T sz B T' : Nat} {c : List Value} {rs : List ResultVar} {vs : List Value} (i : Nat) (ht : TyI P T true sz) (h : find E a = some (.pointer (some ⟨B, 0, none⟩)))
      (hL : L[i]? = some (.blk B T' c)) (hl : c.length = sz) (hr : Res P E L rs vs) : Res P E L (.cell a T :: rs) (.agg c.toArray :: vs)
  | one {a T sz B T' : Nat} {v : Value} {c : List Value} {rs : List ResultVar} {vs : List Value} (i : Nat) (ht : TyI P T false sz) (h : find E a = some (.pointer (some ⟨B, 0, none⟩)))
      (hL : L[i]? = some (.blk B T' (v :: c))) (hr : Res P E L rs vs) : Res P E L (.cell a T :: rs) (v :: vs)
def rget (a : Act) : ResultVar → Sem Value
  | .tmp t => pure (a.tmps.getD t undef)
  | .cell b T => do loadVar T (← asAddr (a.tmps.getD b undef))
theorem run_res {cx : Cx} {E : Env} {M : Mem} {L : List Ent} {a : Act} {w : World} (hs : Sat cx.ds cx.n E a) (ho : Own cx M w L) : ∀ {rs : List ResultVar} {vs : List Value}, Res cx.P E L rs vs →
    (rs.mapM (rget a)).run cx.P w = .ok vs w := by
  intro rs vs h
  induction h with
  | nil => rfl
  | tmp h hr ih =>
    have := hs.g _ _ h
    simp [List.mapM_cons, this, ih, rget]
  | @agg b T sz B T' c rs vs i ht h hL hl hr ih =>
    have h1 := hs.g _ _ h
    have hB : w.heap[B]? = some (Obj.cells c.toArray T' (0, 0)) := ho.at' hL
    have h2 := run_loadVar_agg (P := cx.P) (T := T) (b := B) (o := 0) w hl (fun j v hj => by rw [cell_of_heap hB, Nat.zero_add]; exact hj)
    simp [List.mapM_cons, h1, asAddr, h2, ih, rget]
  | @one b T sz B T' v c rs vs i ht h hL hr ih =>
    have h1 := hs.g _ _ h
    have hB : w.heap[B]? = some (Obj.cells (v :: c).toArray T' (0, 0)) := ho.at' hL
    have h2 := run_loadVar_one (P := cx.P) (T := T) (b := B) (o := 0) (v := v) w (by rw [cell_of_heap hB]; rfl)
    simp [List.mapM_cons, h1, asAddr, h2, ih, rget]
def outv : List Value → Value
  | [v] => v
  | vs => .tuple vs.toArray
theorem run_results {cx : Cx} {E : Env} {M : Mem} {L : List Ent} {a : Act} {w : World} (hs : Sat cx.ds cx.n E a) (ho : Own cx M w L) {fn : Func} {rs : List ResultVar} {vs : List Value} (hr : fn.results = rs.toArray)
    (h : Res cx.P E L rs vs) : (results fn a.tmps).run cx.P w = .ok (outv vs) w := by
  have h1 := run_res hs ho h
  have h2 : (Array.mapM (rget a) fn.results).run cx.P w = .ok vs.toArray w := by
    rw [hr, List.mapM_toArray, map_eq_pure_bind, Sem.run_bind, h1]
    rfl
  have h3 : results fn a.tmps = (do let vs ← Array.mapM (rget a) fn.results; pure (if h : vs.size = 1 then vs[0] else Value.tuple vs)) := by
    unfold results
    congr 1
  rw [h3, Sem.run_bind, h2, Result.andThen_ok, Sem.run_pure]
  cases vs with
  | nil => rfl
  | cons v vs => cases vs with
    | nil => rfl
    | cons u vs => simp [outv]

/-! what is known may be less; owned blocks may be forgotten, put in another order, made known -/
theorem mem_perm {L L' : List Ent} (h : L.Perm L') : (blks L).Perm (blks L') := h.flatMap_right _
theorem Own.perm {cx : Cx} {M : Mem} {w : World} {L L' : List Ent} (ho : Own cx M w L) (h : L.Perm L') : Own cx M w L' :=
  ⟨ho.os, ho.tape, ho.output, ho.dr, ho.size, ho.keep, ho.mem, ho.new, ho.old, fun a v hv hm => ho.off a v hv ((mem_perm h).mem_iff.2 hm), fun e he => ho.ent e (h.mem_iff.2 he),
    (mem_perm h).nodup_iff.1 ho.nd, fun b hb => ho.brf b ((mem_perm h).mem_iff.2 hb)⟩
theorem blks_append (L L' : List Ent) : blks (L ++ L') = blks L ++ blks L' := by simp [blks]
theorem Own.drop {cx : Cx} {M : Mem} {w : World} {L L' : List Ent} (ho : Own cx M w (L ++ L')) : Own cx M w L' := by
  have hs : ∀ b, b ∈ blks L' → b ∈ blks (L ++ L') := fun b hb => by rw [blks_append]; exact List.mem_append.2 (.inr hb)
  exact ⟨ho.os, ho.tape, ho.output, ho.dr, ho.size, ho.keep, ho.mem, ho.new, ho.old, fun a v hv hm => ho.off a v hv (hs _ hm), fun e he => ho.ent e (List.mem_append.2 (.inr he)),
    (List.nodup_append.1 (by rw [← blks_append]; exact ho.nd)).2.1, fun b hb => ho.brf b (hs b hb)⟩
theorem Own.less {cx : Cx} {M M1 : Mem} {w : World} {L : List Ent} (ho : Own cx M w L) (h : ∀ a v, M1 a = some v → M a = some v) (h0 : ∀ a v, cx.M0 a = some v → M1 a = some v) : Own cx M1 w L :=
  ⟨ho.os, ho.tape, ho.output, ho.dr, ho.size, ho.keep, fun a v hv => ho.mem a v (h a v hv), fun a v hv => ho.new a v (h a v hv), h0, fun a v hv => ho.off a v (h a v hv), ho.ent, ho.nd, ho.brf⟩
theorem Own.call {cx : Cx} {P : Program} {n : Nat} {M M' : Mem} {w w' : World} {Lb Lr L' : List Ent} (ho : Own cx M w (Lb ++ Lr)) (hc : Own ⟨P, n, w, blks Lb, M, []⟩ M' w' L') : Own cx M' w' (L' ++ Lr) := by
  have hbs : ∀ b, b ∈ blks Lb → b ∈ blks (Lb ++ Lr) := fun b hb => by rw [blks_append]; exact List.mem_append.2 (.inl hb)
  have hrs : ∀ b, b ∈ blks Lr → b ∈ blks (Lb ++ Lr) := fun b hb => by rw [blks_append]; exact List.mem_append.2 (.inr hb)
  have hnd := ho.nd
  rw [blks_append, List.nodup_append] at hnd
  obtain ⟨n1, n2, n3⟩ := hnd
  have hlt := ho.lt
  have hsz : w.heap.size ≤ w'.heap.size := hc.size
  refine ⟨hc.os.trans ho.os, hc.tape.trans ho.tape, hc.output.trans ho.output, Nat.le_trans ho.dr hc.dr, Nat.le_trans ho.size hsz, ?_, hc.mem, ?_, fun a v hv => hc.old a v (ho.old a v hv), ?_, ?_, ?_, ?_⟩
  · intro k hk hn
    have h1 : k ∉ blks Lb := fun hb => by
      rcases ho.brf k (hbs k hb) with h | h
      · exact hn h
      · omega
    rw [hc.keep k (Nat.lt_of_lt_of_le hk ho.size) h1]
    exact ho.keep k hk hn
  · intro a v hv
    rcases hc.new a v hv with h | h | h
    · exact ho.new a v h
    · rcases ho.brf _ (hbs _ h) with h | h
      · exact .inr (.inl h)
      · exact .inr (.inr h)
    · exact .inr (.inr (Nat.le_trans ho.size h))
  · intro a v hv hm
    rw [blks_append] at hm
    rcases List.mem_append.1 hm with hm | hm
    · exact hc.off a v hv hm
    · rcases hc.new a v hv with h | h | h
      · exact ho.off a v h (hrs _ hm)
      · exact n3 _ h _ hm rfl
      · have := hlt _ (hrs _ hm); have h' : w.heap.size ≤ a.block := h; omega
  · intro e he
    rcases List.mem_append.1 he with he | he
    · exact hc.ent e he
    · refine holds_of_heap (fun b hb => ?_) (ho.ent e (List.mem_append.2 (.inr he)))
      have hbr : b ∈ blks Lr := List.mem_flatMap.2 ⟨e, he, hb⟩
      exact hc.keep b (hlt _ (hrs _ hbr)) (fun hb' => n3 _ hb' _ hbr rfl)
  · rw [blks_append, List.nodup_append]
    refine ⟨hc.nd, n2, fun a ha b hb e => ?_⟩
    subst e
    rcases hc.brf a ha with h | h
    · exact n3 _ h _ hb rfl
    · have := hlt _ (hrs _ hb); have h' : w.heap.size ≤ a := h; omega
  · intro b hb
    rw [blks_append] at hb
    rcases List.mem_append.1 hb with hb | hb
    · rcases hc.brf b hb with h | h
      · exact ho.brf b (hbs b h)
      · exact .inr (Nat.le_trans ho.size h)
    · exact ho.brf b (hrs b hb)
/-- what the callee is handed: the borrowed blocks alone -/
theorem Own.lend {cx : Cx} {P : Program} {M : Mem} {w : World} {Lb Lr : List Ent} (ho : Own cx M w (Lb ++ Lr)) : Own ⟨P, 0, w, blks Lb, M, []⟩ M w Lb := by
  have hbs : ∀ b, b ∈ blks Lb → b ∈ blks (Lb ++ Lr) := fun b hb => by rw [blks_append]; exact List.mem_append.2 (.inl hb)
  exact ⟨rfl, rfl, rfl, Nat.le_refl _, Nat.le_refl _, fun _ _ _ => rfl, ho.mem, fun a v hv => .inl hv, fun a v hv => hv, fun a v hv hm => ho.off a v hv (hbs _ hm), fun e he => ho.ent e (List.mem_append.2 (.inl he)),
    (List.nodup_append.1 (by rw [← blks_append]; exact ho.nd)).1, fun b hb => .inl hb⟩

class FnI (P : Program) (f : FuncId) : Prop where
  h : ∃ fn, P.funcs[f]? = some fn ∧ (fn.name == "runtime.NumGoroutine") = false ∧ fn.body.isNone = false
theorem run_callFunc {P : Program} {f : FuncId} [h : FnI P f] (args : Array Value) (w : World) : (callFunc f args).run P w = .ok (.enter f args) w := by
  obtain ⟨fn, h1, h2, h3⟩ := h.h
  unfold callFunc
  simp only [Sem.run_bind, run_program, Result.andThen_ok, h1, h2, h3, Bool.false_eq_true, if_false, Sem.run_pure]

section
variable {cx : Cx} {Q : Post} {E : Env} {M : Mem} {L : List Ent} {ops : Array Oper} {d T : Nat} {pos : String} {af : Array Edge} {rest : List Oper} {x y z : Operand} {v u : Value}
theorem p_ret {fn : Func} {Ps : Value → Mem → List Ent → Prop} {rs : List ResultVar} {vs : List Value} (hds : cx.ds = []) (hr : fn.results = rs.toArray) (h : Res cx.P E L rs vs) (hp : ∀ w, Own cx M w L → ∃ M' L', Ps (outv vs) M' L' ∧ Own cx M' w L') :
    JP cx (bq cx fn Ps) .ret E M L := fun a w hs ho => by
  obtain ⟨M', L', h1, h2⟩ := hp w ho
  exact ⟨hs.d.trans hds, _, run_results hs ho hr h, _, M', L', rfl, h1, h2⟩
theorem p_end {fn : Func} {Ps : Value → Mem → List Ent → Prop} {rs : List ResultVar} {vs : List Value} (hds : cx.ds = []) (hr : fn.results = rs.toArray) (h : Res cx.P E L rs vs) (hp : ∀ w, Own cx M w L → ∃ M' L', Ps (outv vs) M' L' ∧ Own cx M' w L') :
    JP cx (bq cx fn Ps) .normal E M L := fun a w hs ho => by
  obtain ⟨M', L', h1, h2⟩ := hp w ho
  exact ⟨hs.d.trans hds, _, run_results hs ho hr h, _, M', L', rfl, h1, h2⟩
/-- the state's own memory and blocks are told -/
theorem here {Ps : Value → Mem → List Ent → Prop} {vs : Value} (h : Ps vs M L) : ∀ w, Own cx M w L → ∃ M' L', Ps vs M' L' ∧ Own cx M' w L' := fun w ho => ⟨M, L, h, ho⟩
/-- .. of the blocks none -/
theorem here0 {Ps : Value → Mem → List Ent → Prop} {vs : Value} (h : Ps vs M []) : ∀ w, Own cx M w L → ∃ M' L', Ps vs M' L' ∧ Own cx M' w L' := fun w ho =>
  ⟨M, [], h, Own.drop (L := L) (by rw [List.append_nil]; exact ho)⟩
theorem j_perm {L' : List Ent} (h : L.Perm L') (hk : J cx ops Q rest E M L') : J cx ops Q rest E M L := fun a w hs ho => hk a w hs (ho.perm h)
theorem jc_perm {c : Code} {L' : List Ent} (h : L.Perm L') (hk : JC cx c Q E M L') : JC cx c Q E M L := fun a w hs ho => hk a w hs (ho.perm h)
theorem jp_perm {e : Exit} {L' : List Ent} (h : L.Perm L') (hk : JP cx Q e E M L') : JP cx Q e E M L := fun a w hs ho => hk a w hs (ho.perm h)
theorem jp_drop {e : Exit} {L1 L2 : List Ent} (hk : JP cx Q e E M L2) : JP cx Q e E M (L1 ++ L2) := fun a w hs ho => hk a w hs ho.drop
theorem j_env {E' : Env} (h : sub E E') (hk : J cx ops Q rest E' M L) : J cx ops Q rest E M L := fun a w hs ho => hk a w (hs.weaken (sub_find h)) ho
theorem jc_env {c : Code} {E' : Env} (h : sub E E') (hk : JC cx c Q E' M L) : JC cx c Q E M L := fun a w hs ho => hk a w (hs.weaken (sub_find h)) ho

/-- a call -/
theorem jcall {f : FuncId} {args tys : Array _} {fi ca vs : List Value} {Lb Lr : List Ent} {Ps : Value → Mem → List Ent → Prop} [FnI cx.P f] (hn : Nat.blt d cx.n = true)
    (hx : ev E x = some (.func (.func f) fi.toArray ca.toArray)) (ha : evL E args.toList = some vs) (hL : L = Lb ++ Lr) (hc : Ctr cx.P f (fi ++ vs ++ ca) M Lb Ps)
    (hk : ∀ v M' L', (∀ a u, M a = some u → M' a = some u) → Ps v M' L' → J cx ops Q rest ((d, v) :: E) M' (L' ++ Lr)) : J cx ops Q (⟨some d, .call ⟨.value x, args, tys⟩, T, pos, af, none⟩ :: rest) E M L :=
  j_op rfl fun a w hs ho K hK => by
    subst hL
    have hargs : args.map a.eval = vs.toArray := by apply Array.ext'; simpa using evs ha hs
    have hrun : (execOp a.eval ⟨some d, .call ⟨.value x, args, tys⟩, T, pos, af, none⟩).run cx.P w = .ok (.enter f (fi ++ vs ++ ca).toArray) w := by
      simp [execOp, resolve, hargs, hs.ev hx, Deferred.ofValue, invoke, run_callFunc]
    unfold Oper.wp
    rw [hrun, Oper.upon_enter]
    refine (hc w ho.lend).mono ?_
    rintro e w' ⟨v, M', L', rfl, h1, h2⟩
    exact hK _ _ (hk v M' L' (fun a u hu => h2.old a u hu) h1 _ _ (hs.put (by simpa using hn) v) (ho.call h2))
/-- .. of which one value alone is told -/
theorem jcallv {f : FuncId} {args tys : Array _} {fi ca vs : List Value} [FnI cx.P f] (hn : Nat.blt d cx.n = true)
    (hx : ev E x = some (.func (.func f) fi.toArray ca.toArray)) (ha : evL E args.toList = some vs) (hc : Ctr cx.P f (fi ++ vs ++ ca) M [] (fun r _ _ => r = v))
    (hk : J cx ops Q rest ((d, v) :: E) M L) : J cx ops Q (⟨some d, .call ⟨.value x, args, tys⟩, T, pos, af, none⟩ :: rest) E M L :=
  j_op rfl fun a w hs ho K hK => by
    have hargs : args.map a.eval = vs.toArray := by apply Array.ext'; simpa using evs ha hs
    have hrun : (execOp a.eval ⟨some d, .call ⟨.value x, args, tys⟩, T, pos, af, none⟩).run cx.P w = .ok (.enter f (fi ++ vs ++ ca).toArray) w := by
      simp [execOp, resolve, hargs, hs.ev hx, Deferred.ofValue, invoke, run_callFunc]
    unfold Oper.wp
    rw [hrun, Oper.upon_enter]
    have ho' : Own cx M w ([] ++ L) := ho
    refine (hc w ho'.lend).mono ?_
    rintro e w' ⟨r, M', L', rfl, rfl, h2⟩
    have h3 := ho'.call h2
    exact hK _ _ (hk _ _ (hs.put (by simpa using hn) _) (h3.drop.less (fun a u hu => h2.old a u hu) ho.old))
end
end Go.Proofs.YtihgpbpcbbgdiaaGreat

/- Slices of typed elements: what is known of them; rows that are owned: made, appended to, frozen. -/
namespace Go.Proofs.YtihgpbpcbbgdiaaGreat
open Go.RowKit
set_option linter.unusedVariables false
set_option linter.unusedSimpArgs false

def MLe (M M' : Mem) : Prop := ∀ a v, M a = some v → M' a = some v
theorem MLe.refl (M : Mem) : MLe M M := fun _ _ h => h
theorem MLe.trans {A B C : Mem} (h : MLe A B) (h' : MLe B C) : MLe A C := fun a v hv => h' a v (h a v hv)

/-- how a Lean type's values lie in cells -/
structure Rep (α : Type) where
  sz : Nat
  R : Mem → α → List Value → Prop
  len : ∀ {M x c}, R M x c → c.length = sz
  mono : ∀ {M M' x c}, MLe M M' → R M x c → R M' x c
  one : ∀ {M x c}, R M x c → c.all Value.oneCell' = true
/-- a type without slices inside -/
def Rep.enc {α : Type} (sz : Nat) (f : α → List Value) (hl : ∀ x, (f x).length = sz) (h1 : ∀ x, (f x).all Value.oneCell' = true) : Rep α where
  sz := sz
  R := fun _ x c => c = f x
  len := fun h => h ▸ hl _
  mono := fun _ h => h
  one := fun h => h ▸ h1 _
def rInt : Rep Int := Rep.enc 1 (fun n => [.int .i64 n]) (fun _ => rfl) (fun _ => rfl)
def rU8 : Rep UInt8 := Rep.enc 1 (fun n => [.int .u8 n.toNat]) (fun _ => rfl) (fun _ => rfl)
def rStr : Rep ByteArray := Rep.enc 1 (fun s => [.string s]) (fun _ => rfl) (fun _ => rfl)

/-- the slice value '.slice A xs.length cap' reads as xs -/
structure SlR {α : Type} (r : Rep α) (M : Mem) (A : Option Addr) (cap : Nat) (xs : List α) : Prop where
  cap : xs.length ≤ cap
  el : ∀ (i : Nat) x, xs[i]? = some x → ∃ b o c, A = some ⟨b, o, none⟩ ∧ r.R M x c ∧ ∀ j u, c[j]? = some u → M ⟨b, o + (i * r.sz + j), none⟩ = some u
theorem SlR.mono {α : Type} {r : Rep α} {M M' : Mem} {A : Option Addr} {cap : Nat} {xs : List α} (hm : MLe M M') (h : SlR r M A cap xs) : SlR r M' A cap xs :=
  ⟨h.cap, fun i x hx => let ⟨b, o, c, h1, h2, h3⟩ := h.el i x hx; ⟨b, o, c, h1, r.mono hm h2, fun j u hu => hm _ _ (h3 j u hu)⟩⟩
theorem SlR.nil {α : Type} {r : Rep α} {M : Mem} {A : Option Addr} {cap : Nat} : SlR r M A cap ([] : List α) := ⟨Nat.zero_le _, fun i x hx => by simp at hx⟩
theorem SlR.adr {α : Type} {r : Rep α} {M : Mem} {A : Option Addr} {cap : Nat} {xs : List α} (h : SlR r M A cap xs) {i : Nat} (hi : i < xs.length) : ∃ b o, A = some ⟨b, o, none⟩ :=
  let ⟨b, o, _, h1, _, _⟩ := h.el i xs[i] (List.getElem?_eq_getElem hi); ⟨b, o, h1⟩
/-- an element's address -/
def eptr (A : Option Addr) (k : Nat) : Option Addr := A.map fun a => ⟨a.block, a.off + k, none⟩
theorem Own.slcell {cx : Cx} {M : Mem} {w : World} {L : List Ent} (ho : Own cx M w L) {a : Addr} {v : Value} (h : M a = some v) : w.cell? a = some v := ho.mem a v h

section
variable {cx : Cx} {Q : Post} {E : Env} {M : Mem} {L : List Ent} {ops : Array Oper} {d T : Nat} {pos : String} {af : Array Edge} {rest : List Oper} {x y z : Operand} {v u : Value}
/-- the address of an element of a known slice -/
theorem yi {t e sz cap : Nat} {ag : Bool} {k : IntKind} {i : Int} {A : Option Addr} {n : Nat} [Sl : SlI cx.P t e] [TyI cx.P e ag sz]  (hx : ev E x = some (.slice A n cap)) (hy : ev E y = some (.int k i))
    (h0 : 0 ≤ i) (h1 : i < n) (hA : ∃ b o, A = some ⟨b, o, none⟩) : Y cx ⟨some d, .indexAddr t x y, T, pos, af, none⟩ E M L (.pointer (eptr A (i.toNat * sz))) := fun a w hs ho => by
    obtain ⟨b, o, rfl⟩ := hA
    simp only [execOp, hs.ev hx, hs.ev hy, Instr.indexAt, asIntOf, Sem.run_bind, Sem.run_pure, run_underlying Sl.h, Result.andThen_ok, h0, h1, and_self, if_true, run_sz, add_at, eptr, Option.map_some]
theorem ji {t e sz cap : Nat} {ag : Bool} {k : IntKind} {i : Int} {A : Option Addr} {n : Nat} [Sl : SlI cx.P t e] [TyI cx.P e ag sz] (hn : Nat.blt d cx.n = true) (hx : ev E x = some (.slice A n cap)) (hy : ev E y = some (.int k i))
    (h0 : 0 ≤ i) (h1 : i < n) (hA : ∃ b o, A = some ⟨b, o, none⟩) (hk : J cx ops Q rest ((d, .pointer (eptr A (i.toNat * sz))) :: E) M L) : J cx ops Q (⟨some d, .indexAddr t x y, T, pos, af, none⟩ :: rest) E M L := j_y hn (yi hx hy h0 h1 hA) hk
theorem yfe {t f k off ft : Nat} {ag : Bool} {sz : Nat} {A : Option Addr} [St : StI cx.P t f off ft] [Ty : TyI cx.P ft ag sz]  (hz : Nat.beq sz 0 = false)
    (hx : ev E x = some (.pointer (eptr A k))) (hA : ∃ b o, A = some ⟨b, o, none⟩) : Y cx ⟨some d, .fieldAddr t x f, T, pos, af, none⟩ E M L (.pointer (eptr A (k + off))) := fun a w hs ho => by
    obtain ⟨b, o, rfl⟩ := hA
    obtain ⟨fs, F, h1, h2, h3, h4⟩ := St.h
    have hz' : ¬ sz = 0 := fun e => by subst e; simp at hz
    simp only [eptr, Option.map_some] at hx
    simp only [execOp, hs.ev hx, Instr.fieldAt, Sem.run_bind, run_underlying h1, Result.andThen_ok, h2, Instr.sureAddr, Sem.run_pure, fieldPlace, h4, run_sz, h3, hz', if_false, add_at, eptr, Option.map_some, Nat.add_assoc]
theorem jfe {t f k off ft : Nat} {ag : Bool} {sz : Nat} {A : Option Addr} [St : StI cx.P t f off ft] [Ty : TyI cx.P ft ag sz] (hn : Nat.blt d cx.n = true) (hz : Nat.beq sz 0 = false)
    (hx : ev E x = some (.pointer (eptr A k))) (hA : ∃ b o, A = some ⟨b, o, none⟩) (hk : J cx ops Q rest ((d, .pointer (eptr A (k + off))) :: E) M L) : J cx ops Q (⟨some d, .fieldAddr t x f, T, pos, af, none⟩ :: rest) E M L := j_y hn (yfe hz hx hA) hk
/-- an element of a known slice, whole -/
theorem jle {α : Type} {r : Rep α} {t sz cap : Nat} {A : Option Addr} {xs : List α} {i : Nat} {e : α} [TyI cx.P t true sz] (hn : Nat.blt d cx.n = true) (hR : SlR r M A cap xs) (hi : xs[i]? = some e) (hz : r.sz = sz)
    (hx : ev E x = some (.pointer (eptr A (i * sz)))) (hk : ∀ c, r.R M e c → J cx ops Q rest ((d, .agg c.toArray) :: E) M L) : J cx ops Q (⟨some d, .load t x, T, pos, af, none⟩ :: rest) E M L := by
  obtain ⟨b, o, c, rfl, h2, h3⟩ := hR.el i e hi
  subst hz
  exact jlm (r := c) hn (by simpa [eptr] using hx) (fun j u hu => by rw [Nat.add_assoc]; exact h3 j u hu) (r.len h2) (hk c h2)
theorem yle {α : Type} {r : Rep α} {t sz cap : Nat} {A : Option Addr} {xs : List α} {i : Nat} {e : α} [TyI cx.P t true sz] (hR : SlR r M A cap xs) (hi : xs[i]? = some e) (hz : r.sz = sz)
    (hx : ev E x = some (.pointer (eptr A (i * sz)))) : ∃ c, r.R M e c ∧ Y cx ⟨some d, .load t x, T, pos, af, none⟩ E M L (.agg c.toArray) := by
  obtain ⟨b, o, c, rfl, h2, h3⟩ := hR.el i e hi
  subst hz
  exact ⟨c, h2, ylm (r := c) (by simpa [eptr] using hx) (fun j u hu => by rw [Nat.add_assoc]; exact h3 j u hu) (r.len h2)⟩
/-- .. a cell of it -/
theorem yle1 {α : Type} {r : Rep α} {t sz cap o : Nat} {A : Option Addr} {xs : List α} {i : Nat} {e : α} [TyI cx.P t false sz] (hR : SlR r M A cap xs) (hi : xs[i]? = some e)
    (hx : ev E x = some (.pointer (eptr A (i * r.sz + o)))) (hv : ∀ c, r.R M e c → c[o]? = some v) : Y cx ⟨some d, .load t x, T, pos, af, none⟩ E M L v := by
  obtain ⟨b, p, c, rfl, h2, h3⟩ := hR.el i e hi
  exact ylm1 (by simpa [eptr] using hx) (h3 o v (hv c h2))
theorem jle1 {α : Type} {r : Rep α} {t sz cap o : Nat} {A : Option Addr} {xs : List α} {i : Nat} {e : α} [TyI cx.P t false sz] (hn : Nat.blt d cx.n = true) (hR : SlR r M A cap xs) (hi : xs[i]? = some e)
    (hx : ev E x = some (.pointer (eptr A (i * r.sz + o)))) (hv : ∀ c, r.R M e c → c[o]? = some v) (hk : J cx ops Q rest ((d, v) :: E) M L) : J cx ops Q (⟨some d, .load t x, T, pos, af, none⟩ :: rest) E M L := j_y hn (yle1 hR hi hx hv) hk
/-- .. an aggregate inside it -/
theorem ylea {α : Type} {r : Rep α} {t sz cap o : Nat} {A : Option Addr} {xs : List α} {i : Nat} {e : α} {q : List Value} [TyI cx.P t true sz] (hR : SlR r M A cap xs) (hi : xs[i]? = some e)
    (hx : ev E x = some (.pointer (eptr A (i * r.sz + o)))) (hv : ∀ c, r.R M e c → (c.drop o).take sz = q) (hl : q.length = sz) : Y cx ⟨some d, .load t x, T, pos, af, none⟩ E M L (.agg q.toArray) := by
  obtain ⟨b, p, c, rfl, h2, h3⟩ := hR.el i e hi
  refine ylm (r := q) (by simpa [eptr] using hx) (fun j u hu => ?_) hl
  have hj : j < sz := by have := (List.getElem?_eq_some_iff.1 hu).1; omega
  rw [← hv c h2, List.getElem?_take] at hu
  simp [hj] at hu
  rw [Nat.add_assoc, Nat.add_assoc]
  exact h3 (o + j) u hu
theorem jlea {α : Type} {r : Rep α} {t sz cap o : Nat} {A : Option Addr} {xs : List α} {i : Nat} {e : α} {q : List Value} [TyI cx.P t true sz] (hn : Nat.blt d cx.n = true) (hR : SlR r M A cap xs) (hi : xs[i]? = some e)
    (hx : ev E x = some (.pointer (eptr A (i * r.sz + o)))) (hv : ∀ c, r.R M e c → (c.drop o).take sz = q) (hl : q.length = sz) (hk : J cx ops Q rest ((d, .agg q.toArray) :: E) M L) : J cx ops Q (⟨some d, .load t x, T, pos, af, none⟩ :: rest) E M L := j_y hn (ylea hR hi hx hv hl) hk
end

/-! cells that may be read -/
/-- the slice value x, of m elements of size sz, reads as cs wherever M is known and L owned -/
def Src (M : Mem) (L : List Ent) (x : Value) (sz m : Nat) (cs : List Value) : Prop :=
  cs.length = m * sz ∧ ∃ A cap, x = .slice A m cap ∧ (A = none → cs = []) ∧ ∀ cx w, Own cx M w L → ∀ a, A = some a → ∀ j u, cs[j]? = some u → w.cell? (a.add j) = some u
theorem Src.blk {M : Mem} {L : List Ent} {i B T sz m cap : Nat} {c : List Value} (h : L[i]? = some (.blk B T c)) (hl : c.length = m * sz) : Src M L (.slice (some ⟨B, 0, none⟩) m cap) sz m c :=
  ⟨hl, _, _, rfl, (by intro h; cases h), fun cx w ho a ha j u hu => by
    cases ha
    have hB : w.heap[B]? = some (Obj.cells c.toArray T (0, 0)) := ho.at' h
    rw [add_at, cell_of_heap hB, Nat.zero_add]
    exact hu⟩
theorem Src.row {M : Mem} {L : List Ent} {i T sz m : Nat} {v : Value} {c : List Value} (h : L[i]? = some (.row v T sz m c)) (cx : Cx) (w : World) (ho : Own cx M w L) : Src M L v sz m c := by
  have h0 := ho.at' h
  refine ⟨h0.1, ?_⟩
  rcases h0.2 with ⟨rfl, A, rfl⟩ | ⟨B, cap, rest, rfl, h1, h2, h3, h4⟩
  · have hc : c = [] := by have := h0.1; simpa using this
    exact ⟨A, 0, rfl, fun _ => hc, fun cx w ho a ha j u hu => by rw [hc] at hu; cases hu⟩
  · refine ⟨_, cap, rfl, (by intro h; cases h), fun cx w ho a ha j u hu => ?_⟩
    cases ha
    rcases (ho.at' h).2 with ⟨_, A, h5⟩ | ⟨B', cap', rest', h5, _, h6, h7, h8⟩
    · cases h5; omega
    · cases h5
      rw [add_at, cell_of_heap h8, Nat.zero_add, List.getElem?_append_left (List.getElem?_eq_some_iff.1 hu).1]
      exact hu
theorem SlR.src {α : Type} {r : Rep α} {M : Mem} {A : Option Addr} {cap : Nat} {xs : List α} (h : SlR r M A cap xs) (L : List Ent) :
    ∃ cs, Src M L (.slice A xs.length cap) r.sz xs.length cs ∧ cs.all Value.oneCell' = true ∧ ∀ i x, xs[i]? = some x → r.R M x ((cs.drop (i * r.sz)).take r.sz) := by
  suffices hh : ∀ (k : Nat) (ys : List α), (∀ i, ys[i]? = xs[k + i]?) → ∃ cs : List Value, cs.length = ys.length * r.sz ∧ cs.all Value.oneCell' = true ∧ (∀ i x, ys[i]? = some x → r.R M x ((cs.drop (i * r.sz)).take r.sz)) ∧
      (A = none → cs = []) ∧ ∀ b o, A = some ⟨b, o, none⟩ → ∀ j u, cs[j]? = some u → M ⟨b, o + (k * r.sz + j), none⟩ = some u by
    obtain ⟨cs, h1, h2, h3, h4, h5⟩ := hh 0 xs (fun i => by simp)
    refine ⟨cs, ⟨h1, A, cap, rfl, h4, fun cx w ho a ha j u hu => ?_⟩, h2, h3⟩
    subst ha
    cases hxs : xs with
    | nil => subst hxs; simp at h1; subst h1; simp at hu
    | cons x0 xr =>
      obtain ⟨b, o, hA⟩ := h.adr (i := 0) (by simp [hxs])
      cases hA
      rw [add_at]
      have := h5 b o rfl j u hu
      simp only [Nat.zero_mul, Nat.zero_add] at this
      exact ho.mem _ _ this
  intro k ys
  induction ys generalizing k with
  | nil => intro _; exact ⟨[], by simp, rfl, by simp, fun _ => rfl, by simp⟩
  | cons y ys ih =>
    intro hy
    obtain ⟨cs, h1, h2, h3, h4, h5⟩ := ih (k + 1) (fun i => by have := hy (i + 1); simp only [List.getElem?_cons_succ] at this; rw [this]; congr 1; omega)
    have h0 := hy 0
    simp only [List.getElem?_cons_zero, Nat.add_zero] at h0
    obtain ⟨b, o, c, hA, hc, hm⟩ := h.el k y h0.symm
    have hl := r.len hc
    refine ⟨c ++ cs, ?_, ?_, ?_, ?_, ?_⟩
    · simp [hl, h1, Nat.add_mul, Nat.add_comm]
    · rw [List.all_append, r.one hc, h2]; rfl
    · intro i x hx
      cases i with
      | zero =>
        simp at hx; subst hx
        simp only [Nat.zero_mul, List.drop_zero]
        rw [List.take_append_of_le_length (by omega), ← hl, List.take_length]
        exact hc
      | succ i =>
        simp at hx
        have e : (c ++ cs).drop ((i + 1) * r.sz) = cs.drop (i * r.sz) := by
          rw [Nat.add_mul, Nat.one_mul, Nat.add_comm, ← hl, ← List.drop_drop, List.drop_left]
        rw [e]; exact h3 i x hx
    · intro hA'; rw [hA'] at hA; cases hA
    · intro b' o' hA' j u hu
      rw [hA] at hA'; cases hA'
      by_cases hj : j < c.length
      · rw [List.getElem?_append_left hj] at hu; exact hm j u hu
      · rw [List.getElem?_append_right (by omega)] at hu
        have := h5 b o hA (j - c.length) u hu
        rw [show k * r.sz + j = (k + 1) * r.sz + (j - c.length) by rw [Nat.add_mul, Nat.one_mul]; omega]
        exact this
end Go.Proofs.YtihgpbpcbbgdiaaGreat
