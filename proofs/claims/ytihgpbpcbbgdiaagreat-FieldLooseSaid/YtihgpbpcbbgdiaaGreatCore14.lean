/- Keys that are pairs of ints, ints, strings. -/
import Derived.Test.YtihgpbpcbbgdiaaGreatCore13
import Derived.ChangeKeysEq
namespace Go.Proofs.YtihgpbpcbbgdiaaGreat
open Go.RowKit
set_option linter.unusedVariables false
set_option linter.unusedSimpArgs false
theorem eq_int {P : Program} {e : Nat} (he : P.underlying e = some (.int .i64)) (d : Nat) (a b : Int) (w : World) : (Op.equalIn (d + 1) e (.int .i64 a) (.int .i64 b)).run P w = .ok (a == b) w := by
  unfold Op.equalIn
  rw [Sem.run_bind, run_underlying he, Result.andThen_ok]
  rfl
theorem eq_pair {P : Program} {t e : Nat} [Ar : ArI P t 2 e] [Ty : TyI P e false 1] (he : P.underlying e = some (.int .i64)) (d : Nat) (a b a' b' : Int) (w : World) :
    (Op.equalIn (d + 2) t (.agg [.int .i64 a, .int .i64 b].toArray) (.agg [.int .i64 a', .int .i64 b'].toArray)).run P w = .ok (decide ((a, b) = (a', b'))) w := by
  unfold Op.equalIn
  rw [Sem.run_bind, run_underlying Ar.h, Result.andThen_ok]
  simp [Sem.run_bind, run_sz, part, run_isAgg, eq_int he, Std.Legacy.Range.forIn_eq_forIn_range']
  rw [show List.range' 0 2 = [0, 1] from rfl]
  by_cases h : a = a' <;> by_cases h' : b = b' <;> simp [List.forIn_cons, Sem.run_bind, run_sz, run_isAgg, eq_int he, h, h']
theorem check_leaf {P : Program} {e : Nat} {x : Int} (he : P.underlying e = some (.int .i64)) (b : Bool) (n : Nat) (w : World) : (Instr.checkKey b (n + 1) e (.int .i64 x)).run P w = .ok () w := by
  unfold Instr.checkKey
  rw [Sem.run_bind, run_underlying he, Result.andThen_ok]
  rfl
theorem check_pair {P : Program} {t e : Nat} [Ar : ArI P t 2 e] [Ty : TyI P e false 1] (he : P.underlying e = some (.int .i64)) (em : Bool) (n : Nat) (a b : Int) (w : World) : (Instr.checkKey em (n + 2) t (.agg [.int .i64 a, .int .i64 b].toArray)).run P w = .ok () w := by
  unfold Instr.checkKey
  rw [Sem.run_bind, run_underlying Ar.h, Result.andThen_ok]
  simp [Sem.run_bind, run_sz, part, run_isAgg, check_leaf he, Std.Legacy.Range.forIn_eq_forIn_range']
  rw [show List.range' 0 2 = [0, 1] from rfl]
  simp [List.forIn_cons, Sem.run_bind, run_sz, run_isAgg, check_leaf he]
abbrev encPair (p : Int × Int) : Value := .agg [.int .i64 p.1, .int .i64 p.2].toArray
theorem find_asking {P : Program} {κ : Type} [DecidableEq κ] {enc : κ → Value} {t : Nat} (heq : ∀ (a b : κ) w, (Op.equal t (enc a) (enc b)).run P w = .ok (decide (a = b)) w) (k : κ) (w : World) : ∀ (es : List MapEntry) (m : List (κ × Value)) (i : Nat),
    es.map (fun e => (e.key, e.val)) = m.map (fun p => (enc p.1, p.2)) → (Instr.findAsking t (enc k) es i).run P w = .ok ((m.findIdx? fun p => decide (p.1 = k)).bind fun j => (m[j]?).map fun p => (i + j, p.2)) w
  | [], [], i, _ => rfl
  | [], _ :: _, i, h => by cases h
  | _ :: _, [], i, h => by cases h
  | e :: es, p :: m, i, h => by
    simp only [List.map_cons, List.cons.injEq, Prod.mk.injEq] at h
    obtain ⟨⟨h1, h2⟩, h3⟩ := h
    have ih := find_asking heq k w es m (i + 1) h3
    simp only [Instr.findAsking, Sem.run_bind, h1, heq, Result.andThen_ok, List.findIdx?_cons]
    by_cases hk : p.1 = k
    · have hk' : k = p.1 := hk.symm
      simp [hk', h2]
    · have hk' : ¬ k = p.1 := fun e => hk e.symm
      simp only [hk', decide_false, Bool.false_eq_true, if_false, hk]
      rw [ih]
      cases (m.findIdx? fun p => decide (p.1 = k)) with
      | none => rfl
      | some j => simp [Nat.add_assoc, Nat.add_comm 1 j]
theorem KeyI.pair {P : Program} {t e : Nat} [Ar : ArI P t 2 e] [Ty : TyI P e false 1] (he : P.underlying e = some (.int .i64)) : KeyI P t (Int × Int) encPair where
  check := fun b k w => check_pair he b 9998 k.1 k.2 w
  find := fun k es m h w => by
    have hq : ∀ (a b : Int × Int) w, (Op.equal t (encPair a) (encPair b)).run P w = .ok (decide (a = b)) w := fun a b w => eq_pair he 9998 a.1 a.2 b.1 b.2 w
    have hfa := find_asking hq k w es m 0 h
    unfold Instr.findKey
    rw [Sem.run_bind, run_underlying Ar.h, Result.andThen_ok]
    cases es with
    | nil =>
      cases m with
      | nil => rfl
      | cons p m => cases h
    | cons e0 es =>
      have : Instr.findNow (.array 2 e) (encPair k) (e0 :: es) 0 = none := rfl
      rw [this]
      simpa using hfa
section
variable {cx : Cx} {Q : Post} {E : Env} {M : Mem} {L : List Ent} {ops : Array Oper} {d T : Nat} {pos : String} {af : Array Edge} {rest : List Oper} {x y z : Operand} {v u : Value}
/-- a call that hands a slice that is known then -/
theorem jcalls {f : FuncId} {args tys : Array _} {fi ca vs : List Value} {p : Option Addr → Nat → Mem → Prop} {r : Option Addr → Nat → Value} [FnI cx.P f] (hn : Nat.blt d cx.n = true)
    (hx : ev E x = some (.func (.func f) fi.toArray ca.toArray)) (ha : evL E args.toList = some vs) (hc : Ctr cx.P f (fi ++ vs ++ ca) M [] (fun v M' _ => ∃ A cap, p A cap M' ∧ v = r A cap))
    (hk : ∀ A cap M', MLe M M' → p A cap M' → J cx ops Q rest ((d, r A cap) :: E) M' L) : J cx ops Q (⟨some d, .call ⟨.value x, args, tys⟩, T, pos, af, none⟩ :: rest) E M L :=
  jcall (Lb := []) (Lr := L) hn hx ha rfl hc (fun v M' L' hm h => by
    obtain ⟨A, cap, hp, rfl⟩ := h
    intro a w hs ho
    exact hk A cap M' hm hp a w hs ho.drop)
end
end Go.Proofs.YtihgpbpcbbgdiaaGreat
