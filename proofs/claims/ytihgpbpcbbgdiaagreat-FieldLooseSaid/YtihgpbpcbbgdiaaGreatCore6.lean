/- Small rules that the printed proofs use. -/
import Derived.Test.YtihgpbpcbbgdiaaGreatCore5
namespace Go.Proofs.YtihgpbpcbbgdiaaGreat
open Go.RowKit
set_option linter.unusedVariables false
theorem wr {x : Int} (h0 : -9223372036854775808 ≤ x) (h1 : x ≤ 9223372036854775807) : IntKind.i64.wrap x = x := by
  rw [IntKind.wrap_i64]; omega
theorem sub_n {E : Env} : sub E [] := trivial
theorem sub_c {E E' : Env} {k : Nat} {v : Value} (h : find E k = some v) (h' : sub E E') : sub E ((k, v) :: E') := ⟨h, h'⟩
theorem sub_get {E E' : Env} {a : Act} (h : ∀ t v, find E t = some v → a.tmps[t]? = some v) (hs : sub E E') : ∀ t v, find E' t = some v → a.tmps[t]? = some v := fun t v ht => h t v (sub_find hs t v ht)
/-- the bindings one by one -/
def alls (a : Array Value) : Env → Prop
  | [] => True
  | (k, v) :: E => a[k]? = some v ∧ alls a E
theorem alls_get {a : Array Value} : ∀ {E : Env}, alls a E → ∀ t v, find E t = some v → a[t]? = some v
  | [], _, t, v, h => by cases h
  | (k, u) :: E, h, t, v, ht => by
    by_cases e : k = t
    · subst e; rw [find_eq] at ht; cases ht; exact h.1
    · rw [find_ne e] at ht; exact alls_get h.2 t v ht
def pickE : List Nat → Env → Env
  | [], _ => []
  | t :: ts, E => match find E t with
    | some v => (t, v) :: pickE ts E
    | none => pickE ts E
section
variable {cx : Cx} {Q : Post} {E : Env} {M : Mem} {L : List Ent} {ops : Array Oper} {d T : Nat} {pos : String} {af : Array Edge} {rest : List Oper} {x y z : Operand} {v u : Value}
theorem c_cond_kt {c : Operand} {x y : Code} {b : Bool} (hc : ev E c = some (.bool b)) (hb : b = true) (ht : JC cx x Q E M L) : JC cx (.cond c x y) Q E M L := by subst hb; exact c_cond_t hc ht
theorem c_cond_kf {c : Operand} {x y : Code} {b : Bool} (hc : ev E c = some (.bool b)) (hb : b = false) (ht : JC cx y Q E M L) : JC cx (.cond c x y) Q E M L := by subst hb; exact c_cond_f hc ht
theorem jgs {j t : Nat} {want b : Bool} {dst : Option Nat} {op : Op} (hd : (ops[j]?).bind (·.dst) = some t) (hb : find E t = some (.bool b))
    (ht : b = true → J cx ops Q (⟨dst, op, T, pos, af, some (j, want)⟩ :: rest) E M L) (hf : b = false → J cx ops Q (⟨dst, op, T, pos, af, some (j, want)⟩ :: rest) E M L) :
    J cx ops Q (⟨dst, op, T, pos, af, some (j, want)⟩ :: rest) E M L := by
  cases b
  · exact hf rfl
  · exact ht rfl
theorem yldw {t sz B B' : Nat} {c : List Value} (i : Nat) [TyI cx.P t true sz] (hx : ev E x = some (.pointer (some ⟨B, 0, none⟩))) (hL : L[i]? = some (.blk B B' c))
    (hl : c.length = sz) : Y cx ⟨some d, .load t x, T, pos, af, none⟩ E M L (.agg c.toArray) := yld i hx hL (by rw [List.drop_zero, ← hl, List.take_length]) hl
theorem jldw {t sz B B' : Nat} {c : List Value} (i : Nat) [TyI cx.P t true sz] (hn : Nat.blt d cx.n = true) (hx : ev E x = some (.pointer (some ⟨B, 0, none⟩))) (hL : L[i]? = some (.blk B B' c))
    (hl : c.length = sz) (hk : J cx ops Q rest ((d, .agg c.toArray) :: E) M L) : J cx ops Q (⟨some d, .load t x, T, pos, af, none⟩ :: rest) E M L := j_y hn (yldw i hx hL hl) hk
theorem p_ret0 {fn : Func} {Ps : Value → Mem → List Ent → Prop} {rs : List ResultVar} {vs : List Value} (hds : cx.ds = []) (hr : fn.results = rs.toArray) (h : Res cx.P E L rs vs) (hp : Ps (outv vs) M []) : JP cx (bq cx fn Ps) .ret E M L := p_ret hds hr h (here0 hp)
theorem p_retL {fn : Func} {Ps : Value → Mem → List Ent → Prop} {rs : List ResultVar} {vs : List Value} (hds : cx.ds = []) (hr : fn.results = rs.toArray) (h : Res cx.P E L rs vs) (hp : Ps (outv vs) M L) : JP cx (bq cx fn Ps) .ret E M L := p_ret hds hr h (here hp)
theorem p_end0 {fn : Func} {Ps : Value → Mem → List Ent → Prop} {rs : List ResultVar} {vs : List Value} (hds : cx.ds = []) (hr : fn.results = rs.toArray) (h : Res cx.P E L rs vs) (hp : Ps (outv vs) M []) : JP cx (bq cx fn Ps) .normal E M L := p_end hds hr h (here0 hp)
theorem p_endL {fn : Func} {Ps : Value → Mem → List Ent → Prop} {rs : List ResultVar} {vs : List Value} (hds : cx.ds = []) (hr : fn.results = rs.toArray) (h : Res cx.P E L rs vs) (hp : Ps (outv vs) M L) : JP cx (bq cx fn Ps) .normal E M L := p_end hds hr h (here hp)
/-- a loop in which nothing is known anew, and the owned blocks stay -/
theorem c_lp {X : Type} (I : X → Prop) (μ : X → Nat) (ch : X → Env) (ks : List Nat) {c : Code} (k0 : X) (hi : I k0) (hE : sub E (ch k0 ++ pickE ks E))
    (h : ∀ k, I k → JC cx c (lpQ cx I μ (μ k) (fun k => ch k ++ pickE ks E) (fun _ => M) (fun _ => L) Q) (ch k ++ pickE ks E) M L) : JC cx (.loop c) Q E M L :=
  c_loop I μ (fun k => ch k ++ pickE ks E) (fun _ => M) (fun _ => L) k0 hi hE rfl rfl h
/-- .. in which the owned blocks turn -/
theorem c_lpL {X : Type} (I : X → Prop) (μ : X → Nat) (ch : X → Env) (ks : List Nat) (L' : X → List Ent) {c : Code} (k0 : X) (hi : I k0) (hE : sub E (ch k0 ++ pickE ks E)) (hL : L' k0 = L)
    (h : ∀ k, I k → JC cx c (lpQ cx I μ (μ k) (fun k => ch k ++ pickE ks E) (fun _ => M) L' Q) (ch k ++ pickE ks E) M (L' k)) : JC cx (.loop c) Q E M L :=
  c_loop I μ (fun k => ch k ++ pickE ks E) (fun _ => M) L' k0 hi hE rfl hL h
/-- .. in which more becomes known, too -/
theorem c_lpML {X : Type} (I : X → Prop) (μ : X → Nat) (ch : X → Env) (ks : List Nat) (M' : X → Mem) (L' : X → List Ent) {c : Code} (k0 : X) (hi : I k0) (hE : sub E (ch k0 ++ pickE ks E)) (hM : M' k0 = M) (hL : L' k0 = L)
    (h : ∀ k, I k → JC cx c (lpQ cx I μ (μ k) (fun k => ch k ++ pickE ks E) M' L' Q) (ch k ++ pickE ks E) (M' k) (L' k)) : JC cx (.loop c) Q E M L :=
  c_loop I μ (fun k => ch k ++ pickE ks E) M' L' k0 hi hE hM hL h
/-- a slice written out: its row -/
theorem jbs {t n e sz : Nat} {ag : Bool} {ps : Array (Nat × Operand)} {pv : List (Nat × Value)} {c : List Value} {zc : List Value} [Sl : SlI cx.P t e] [TyI cx.P e ag sz] [Z : ZeI cx.P e zc] (hn : Nat.blt d cx.n = true)
    (hp : evP E ps.toList = some pv) (hzc : zc.length = sz) (h0 : n * sz ≠ 0) (h24 : n * sz ≤ 16777216) (hf : Instr.fill (fun i => some (i * sz, sz)) ((Array.range (n * sz)).map (zc.toArray[· % sz]!)) pv = some c.toArray)
    (hk : ∀ B, J cx ops Q rest ((d, .slice (some ⟨B, 0, none⟩) n n) :: E) M (.blk B e c :: L)) : J cx ops Q (⟨some d, .buildSlice t n ps, T, pos, af, none⟩ :: rest) E M L :=
  j_new (M' := M) (fun a w hs ho => by
    have key : ∀ (l : List (Nat × Operand)) (r : List (Nat × Value)), evP E l = some r → l.map (fun p => (p.1, a.eval p.2)) = r := by
      intro l
      induction l with
      | nil => intro r h; simp [evP] at h; simp [h]
      | cons o l ih =>
        obtain ⟨i, o⟩ := o
        intro r h
        simp only [evP] at h
        cases hv : ev E o with
        | none => simp [hv] at h
        | some v =>
          cases hl : evP E l with
          | none => simp [hv, hl] at h
          | some vs => simp [hv, hl] at h; subst h; simp [hs.ev hv, ih vs hl]
    have hpv := key _ _ hp
    have hpa : (ps.map fun (i, x) => (i, a.eval x)).toList = pv := by simpa using hpv
    obtain ⟨z, hz, hzz⟩ := run_zero (P := cx.P) w (T := e)
    refine ⟨.slice (some ⟨w.heap.size, 0, none⟩) n n, _, _, ?_, ho.alloc e c, hk _⟩
    have hsz := run_sz (P := cx.P) w (T := e)
    have h24' : ¬ (16777216 < n * sz) := by omega
    simp only [execOp, Instr.buildSlice, Sem.run_bind, run_underlying Sl.h, Result.andThen_ok, hsz]
    have hzs : z.cells.size = sz := by rw [hzz]; simpa using hzc
    have h24'' : ¬ (n * sz > 2 ^ 24) := by omega
    have hzm : (fun x => z.cells[x % z.cells.size]! : Nat → Value) = (fun x => zc.toArray[x % sz]!) := by rw [hzz, List.size_toArray, hzc]
    simp only [h24'', if_false, h0, Sem.run_bind, hz, Result.andThen_ok, Sem.run_pure, hpa, hzm, hf, newRow, run_newObj_alloc, pure_bind]) hn
theorem jbs0 {t e sz : Nat} {ag : Bool} [Sl : SlI cx.P t e] [TyI cx.P e ag sz] (hn : Nat.blt d cx.n = true)
    (hk : ∀ B, J cx ops Q rest ((d, .slice (some ⟨B, 0, none⟩) 0 0) :: E) M (.blk B e [] :: L)) : J cx ops Q (⟨some d, .buildSlice t 0 #[], T, pos, af, none⟩ :: rest) E M L :=
  j_new (M' := M) (fun a w hs ho => by
    refine ⟨.slice (some ⟨w.heap.size, 0, none⟩) 0 0, _, _, ?_, ho.alloc e [], hk _⟩
    have hsz := run_sz (P := cx.P) w (T := e)
    simp [execOp, Instr.buildSlice, Sem.run_bind, run_underlying Sl.h, hsz, Instr.fill, newRow]
    congr 2
    apply Array.ext
    · simp
    · intro i h1 h2; simp at h2) hn
end
end Go.Proofs.YtihgpbpcbbgdiaaGreat
