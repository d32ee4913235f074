/- Slices written out; what a frozen row says of typed elements; sub-slices; appends by name. -/
import Derived.Test.YtihgpbpcbbgdiaaGreatCore6
namespace Go.Proofs.YtihgpbpcbbgdiaaGreat
open Go.RowKit
set_option linter.unusedVariables false
set_option linter.unusedSimpArgs false

theorem foldl_set (cs : List Value) : ∀ (X : List Value) (o k : Nat), o + k + cs.length ≤ X.length →
    ((cs.zipIdx k).foldl (fun (a : Array Value) (p : Value × Nat) => a.setIfInBounds (o + p.2) p.1) X.toArray) = (X.take (o + k) ++ cs ++ X.drop (o + k + cs.length)).toArray := by
  induction cs with
  | nil => intro X o k h; simp
  | cons c cs ih =>
    intro X o k h
    simp only [List.zipIdx_cons, List.foldl_cons, List.setIfInBounds_toArray]
    rw [ih _ o (k + 1) (by simp at h ⊢; omega)]
    congr 1
    have := list_seg_step X (o + k) c cs (by simpa [Nat.add_assoc] using h)
    simpa [Nat.add_assoc] using this
theorem fill_step {sz n : Nat} {v : Value} {c X : List Value} {i : Nat} {rest : List (Nat × Value)} (hc : v.cells = c.toArray) (hl : c.length = sz) (hX : i * sz + sz ≤ X.length) :
    Instr.fill (fun i => some (i * sz, sz)) X.toArray ((i, v) :: rest) = Instr.fill (fun i => some (i * sz, sz)) (X.take (i * sz) ++ c ++ X.drop (i * sz + sz)).toArray rest := by
  have h2 : v.cells.zipIdx.foldl (fun (a : Array Value) (p : Value × Nat) => a.setIfInBounds (i * sz + p.2) p.1) X.toArray = (X.take (i * sz) ++ c ++ X.drop (i * sz + sz)).toArray := by
    have := foldl_set c X (i * sz) 0 (by omega)
    simp only [Nat.add_zero, hl] at this
    rw [← this, hc]
    simp [List.mapIdx_eq_zipIdx_map]
  rw [Instr.fill]
  have h1 : ¬ ((v.cells.size != sz || decide (i * sz + v.cells.size > X.toArray.size)) = true) := by
    rw [hc]; simp [hl]; omega
  have h3 : (if v.cells.size ≠ sz || i * sz + v.cells.size > X.toArray.size then (none : Option (Array Value)) else Instr.fill (fun i => some (i * sz, sz)) (v.cells.zipIdx.foldl (fun cs x => cs.setIfInBounds (i * sz + x.2) x.1) X.toArray) rest) = Instr.fill (fun i => some (i * sz, sz)) (X.take (i * sz) ++ c ++ X.drop (i * sz + sz)).toArray rest := by
    rw [if_neg (by rw [hc]; simp [hl]; omega), h2]
  exact h3
theorem fill_list {sz : Nat} : ∀ (vs : List Value) (cs : List (List Value)) (k : Nat) (pre X : List Value), vs.map Value.cells = cs.map List.toArray → (∀ c ∈ cs, c.length = sz) → pre.length = k * sz → X.length = vs.length * sz →
    Instr.fill (fun i => some (i * sz, sz)) (pre ++ X).toArray ((vs.zipIdx k).map fun p => (p.2, p.1)) = some (pre ++ cs.flatten).toArray
  | [], cs, k, pre, X, h, _, _, hX => by
    have hcs : cs = [] := by cases cs <;> simp_all
    have hX0 : X = [] := by simpa using hX
    subst hcs; subst hX0; simp [Instr.fill]
  | v :: vs, cs, k, pre, X, h, hc, hp, hX => by
    cases cs with
    | nil => simp at h
    | cons c cs =>
      simp only [List.map_cons, List.cons.injEq] at h
      have hl := hc c (by simp)
      have hX' : X.length = sz + vs.length * sz := by rw [hX, List.length_cons, Nat.add_mul]; omega
      simp only [List.zipIdx_cons, List.map_cons]
      rw [fill_step (n := 0) h.1 hl (by rw [List.length_append]; omega)]
      have e : (pre ++ X).take (k * sz) ++ c ++ (pre ++ X).drop (k * sz + sz) = (pre ++ c) ++ X.drop sz := by
        rw [← hp, List.take_left, ← List.drop_drop, List.drop_left]
      rw [e]
      have := fill_list vs cs (k + 1) (pre ++ c) (X.drop sz) h.2 (fun x hx => hc x (List.mem_cons_of_mem _ hx)) (by rw [List.length_append, hp, hl, Nat.add_mul, Nat.one_mul]) (by rw [List.length_drop, hX']; omega)
      simpa [List.append_assoc] using this
section
variable {cx : Cx} {Q : Post} {E : Env} {M : Mem} {L : List Ent} {ops : Array Oper} {d T : Nat} {pos : String} {af : Array Edge} {rest : List Oper} {x y z : Operand} {v u : Value}
/-- a slice written out, element by element -/
theorem jbsl {t n e sz : Nat} {ag : Bool} {ps : Array (Nat × Operand)} {vs : List Value} {zc : List Value} (cs : List (List Value)) [Sl : SlI cx.P t e] [TyI cx.P e ag sz] [Z : ZeI cx.P e zc] (hn : Nat.blt d cx.n = true)
    (hp : evP E ps.toList = some ((vs.zipIdx 0).map fun p => (p.2, p.1))) (hv : vs.map Value.cells = cs.map List.toArray) (hc : ∀ c ∈ cs, c.length = sz) (hln : vs.length = n) (hzc : zc.length = sz) (h0 : n * sz ≠ 0) (h24 : n * sz ≤ 16777216)
    (hk : ∀ B, J cx ops Q rest ((d, .slice (some ⟨B, 0, none⟩) n n) :: E) M (.blk B e cs.flatten :: L)) : J cx ops Q (⟨some d, .buildSlice t n ps, T, pos, af, none⟩ :: rest) E M L := by
  refine jbs (c := cs.flatten) hn hp hzc h0 h24 ?_ hk
  have := fill_list (sz := sz) vs cs 0 [] ((List.range (n * sz)).map (fun x => zc.toArray[x % sz]!)) hv hc (by simp) (by simp [hln])
  simp only [List.nil_append] at this
  rw [← this]
  congr 1
  apply Array.ext'
  simp
end
/-- what a frozen row says -/
theorem SlR.frozen {α : Type} {r : Rep α} {M : Mem} {A : Option Addr} {cap : Nat} {xs : List α} {c : List Value} (hcap : xs.length ≤ cap)
    (hA : 0 < xs.length → ∃ b o, A = some ⟨b, o, none⟩ ∧ ∀ j u, c[j]? = some u → M ⟨b, o + j, none⟩ = some u) (hel : ∀ i x, xs[i]? = some x → r.R M x ((c.drop (i * r.sz)).take r.sz)) : SlR r M A cap xs :=
  ⟨hcap, fun i x hx => by
    have hi := (List.getElem?_eq_some_iff.1 hx).1
    obtain ⟨b, o, rfl, hm⟩ := hA (by omega)
    refine ⟨b, o, _, rfl, hel i x hx, fun j u hu => hm _ u ?_⟩
    rw [List.getElem?_take] at hu
    split at hu
    · simpa using hu
    · cases hu⟩
theorem SlR.frozen1 {α : Type} {r : Rep α} {f : α → Value} {M : Mem} {A : Option Addr} {cap : Nat} {xs : List α} (hsz : r.sz = 1) (hf : ∀ M x, r.R M x [f x]) (hcap : xs.length ≤ cap)
    (hA : 0 < xs.length → ∃ b o, A = some ⟨b, o, none⟩ ∧ ∀ j u, (xs.map f)[j]? = some u → M ⟨b, o + j, none⟩ = some u) : SlR r M A cap xs :=
  ⟨hcap, fun i x hx => by
    have hi := (List.getElem?_eq_some_iff.1 hx).1
    obtain ⟨b, o, rfl, hm⟩ := hA (by omega)
    refine ⟨b, o, [f x], rfl, hf M x, fun j u hu => ?_⟩
    cases j with
    | zero =>
      simp at hu; subst hu
      rw [hsz, Nat.mul_one, Nat.add_zero]
      exact hm i (f x) (by simp [hx])
    | succ j => simp at hu⟩
/-- one-cell elements: the cells that may be read -/
theorem SlR.src1 {α : Type} {r : Rep α} {f : α → Value} {M : Mem} {A : Option Addr} {cap : Nat} {xs : List α} (h : SlR r M A cap xs) (hsz : r.sz = 1) (hf : ∀ M x c, r.R M x c → c = [f x]) (L : List Ent) :
    Src M L (.slice A xs.length cap) 1 xs.length (xs.map f) := by
  obtain ⟨cs, h1, h2, h3⟩ := h.src L
  have : cs = xs.map f := by
    have hl := h1.1
    rw [hsz, Nat.mul_one] at hl
    apply List.ext_getElem?
    intro i
    by_cases hi : i < xs.length
    · have := hf _ _ _ (h3 i xs[i] (List.getElem?_eq_getElem hi))
      rw [hsz, Nat.mul_one] at this
      have e := congrArg (fun l => l[0]?) this
      simp only [List.getElem?_take, List.getElem?_drop, Nat.add_zero, Nat.lt_add_one, if_true, List.getElem?_cons_zero, Nat.zero_lt_one] at e
      rw [e]; simp [hi]
    · rw [List.getElem?_eq_none (by omega), List.getElem?_eq_none (by simp; omega)]
  rw [← this, ← hsz]
  simpa using h1
end Go.Proofs.YtihgpbpcbbgdiaaGreat
