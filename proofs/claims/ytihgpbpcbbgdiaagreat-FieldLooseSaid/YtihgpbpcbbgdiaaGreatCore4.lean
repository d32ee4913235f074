/- Slices of typed elements: what is known of them; rows that are owned: made, appended to, frozen. -/
import Derived.Test.YtihgpbpcbbgdiaaGreatCore3
namespace Go.Proofs.YtihgpbpcbbgdiaaGreat
open Go.RowKit
set_option linter.unusedVariables false
set_option linter.unusedSimpArgs false

def MLe (M M' : Mem) : Prop := ∀ a v, M a = some v → M' a = some v
theorem MLe.refl (M : Mem) : MLe M M := fun _ _ h => h
theorem MLe.trans {A B C : Mem} (h : MLe A B) (h' : MLe B C) : MLe A C := fun a v hv => h' a v (h a v hv)

/-- how a Lean type's values lie in cells -/
structure Rep (α : Type) where
  sz : Nat
  R : Mem → α → List Value → Prop
  len : ∀ {M x c}, R M x c → c.length = sz
  mono : ∀ {M M' x c}, MLe M M' → R M x c → R M' x c
  one : ∀ {M x c}, R M x c → c.all Value.oneCell' = true
/-- a type without slices inside -/
def Rep.enc {α : Type} (sz : Nat) (f : α → List Value) (hl : ∀ x, (f x).length = sz) (h1 : ∀ x, (f x).all Value.oneCell' = true) : Rep α where
  sz := sz
  R := fun _ x c => c = f x
  len := fun h => h ▸ hl _
  mono := fun _ h => h
  one := fun h => h ▸ h1 _
def rInt : Rep Int := Rep.enc 1 (fun n => [.int .i64 n]) (fun _ => rfl) (fun _ => rfl)
def rU8 : Rep UInt8 := Rep.enc 1 (fun n => [.int .u8 n.toNat]) (fun _ => rfl) (fun _ => rfl)
def rStr : Rep ByteArray := Rep.enc 1 (fun s => [.string s]) (fun _ => rfl) (fun _ => rfl)

/-- the slice value '.slice A xs.length cap' reads as xs -/
structure SlR {α : Type} (r : Rep α) (M : Mem) (A : Option Addr) (cap : Nat) (xs : List α) : Prop where
  cap : xs.length ≤ cap
  el : ∀ (i : Nat) x, xs[i]? = some x → ∃ b o c, A = some ⟨b, o, none⟩ ∧ r.R M x c ∧ ∀ j u, c[j]? = some u → M ⟨b, o + (i * r.sz + j), none⟩ = some u
theorem SlR.mono {α : Type} {r : Rep α} {M M' : Mem} {A : Option Addr} {cap : Nat} {xs : List α} (hm : MLe M M') (h : SlR r M A cap xs) : SlR r M' A cap xs :=
  ⟨h.cap, fun i x hx => let ⟨b, o, c, h1, h2, h3⟩ := h.el i x hx; ⟨b, o, c, h1, r.mono hm h2, fun j u hu => hm _ _ (h3 j u hu)⟩⟩
theorem SlR.nil {α : Type} {r : Rep α} {M : Mem} {A : Option Addr} {cap : Nat} : SlR r M A cap ([] : List α) := ⟨Nat.zero_le _, fun i x hx => by simp at hx⟩
theorem SlR.adr {α : Type} {r : Rep α} {M : Mem} {A : Option Addr} {cap : Nat} {xs : List α} (h : SlR r M A cap xs) {i : Nat} (hi : i < xs.length) : ∃ b o, A = some ⟨b, o, none⟩ :=
  let ⟨b, o, _, h1, _, _⟩ := h.el i xs[i] (List.getElem?_eq_getElem hi); ⟨b, o, h1⟩
/-- an element's address -/
def eptr (A : Option Addr) (k : Nat) : Option Addr := A.map fun a => ⟨a.block, a.off + k, none⟩
theorem Own.slcell {cx : Cx} {M : Mem} {w : World} {L : List Ent} (ho : Own cx M w L) {a : Addr} {v : Value} (h : M a = some v) : w.cell? a = some v := ho.mem a v h

section
variable {cx : Cx} {Q : Post} {E : Env} {M : Mem} {L : List Ent} {ops : Array Oper} {d T : Nat} {pos : String} {af : Array Edge} {rest : List Oper} {x y z : Operand} {v u : Value}
/-- the address of an element of a known slice -/
theorem yi {t e sz cap : Nat} {ag : Bool} {k : IntKind} {i : Int} {A : Option Addr} {n : Nat} [Sl : SlI cx.P t e] [TyI cx.P e ag sz]  (hx : ev E x = some (.slice A n cap)) (hy : ev E y = some (.int k i))
    (h0 : 0 ≤ i) (h1 : i < n) (hA : ∃ b o, A = some ⟨b, o, none⟩) : Y cx ⟨some d, .indexAddr t x y, T, pos, af, none⟩ E M L (.pointer (eptr A (i.toNat * sz))) := fun a w hs ho => by
    obtain ⟨b, o, rfl⟩ := hA
    simp only [execOp, hs.ev hx, hs.ev hy, Instr.indexAt, asIntOf, Sem.run_bind, Sem.run_pure, run_underlying Sl.h, Result.andThen_ok, h0, h1, and_self, if_true, run_sz, add_at, eptr, Option.map_some]
theorem ji {t e sz cap : Nat} {ag : Bool} {k : IntKind} {i : Int} {A : Option Addr} {n : Nat} [Sl : SlI cx.P t e] [TyI cx.P e ag sz] (hn : Nat.blt d cx.n = true) (hx : ev E x = some (.slice A n cap)) (hy : ev E y = some (.int k i))
    (h0 : 0 ≤ i) (h1 : i < n) (hA : ∃ b o, A = some ⟨b, o, none⟩) (hk : J cx ops Q rest ((d, .pointer (eptr A (i.toNat * sz))) :: E) M L) : J cx ops Q (⟨some d, .indexAddr t x y, T, pos, af, none⟩ :: rest) E M L := j_y hn (yi hx hy h0 h1 hA) hk
theorem yfe {t f k off ft : Nat} {ag : Bool} {sz : Nat} {A : Option Addr} [St : StI cx.P t f off ft] [Ty : TyI cx.P ft ag sz]  (hz : Nat.beq sz 0 = false)
    (hx : ev E x = some (.pointer (eptr A k))) (hA : ∃ b o, A = some ⟨b, o, none⟩) : Y cx ⟨some d, .fieldAddr t x f, T, pos, af, none⟩ E M L (.pointer (eptr A (k + off))) := fun a w hs ho => by
    obtain ⟨b, o, rfl⟩ := hA
    obtain ⟨fs, F, h1, h2, h3, h4⟩ := St.h
    have hz' : ¬ sz = 0 := fun e => by subst e; simp at hz
    simp only [eptr, Option.map_some] at hx
    simp only [execOp, hs.ev hx, Instr.fieldAt, Sem.run_bind, run_underlying h1, Result.andThen_ok, h2, Instr.sureAddr, Sem.run_pure, fieldPlace, h4, run_sz, h3, hz', if_false, add_at, eptr, Option.map_some, Nat.add_assoc]
theorem jfe {t f k off ft : Nat} {ag : Bool} {sz : Nat} {A : Option Addr} [St : StI cx.P t f off ft] [Ty : TyI cx.P ft ag sz] (hn : Nat.blt d cx.n = true) (hz : Nat.beq sz 0 = false)
    (hx : ev E x = some (.pointer (eptr A k))) (hA : ∃ b o, A = some ⟨b, o, none⟩) (hk : J cx ops Q rest ((d, .pointer (eptr A (k + off))) :: E) M L) : J cx ops Q (⟨some d, .fieldAddr t x f, T, pos, af, none⟩ :: rest) E M L := j_y hn (yfe hz hx hA) hk
/-- an element of a known slice, whole -/
theorem jle {α : Type} {r : Rep α} {t sz cap : Nat} {A : Option Addr} {xs : List α} {i : Nat} {e : α} [TyI cx.P t true sz] (hn : Nat.blt d cx.n = true) (hR : SlR r M A cap xs) (hi : xs[i]? = some e) (hz : r.sz = sz)
    (hx : ev E x = some (.pointer (eptr A (i * sz)))) (hk : ∀ c, r.R M e c → J cx ops Q rest ((d, .agg c.toArray) :: E) M L) : J cx ops Q (⟨some d, .load t x, T, pos, af, none⟩ :: rest) E M L := by
  obtain ⟨b, o, c, rfl, h2, h3⟩ := hR.el i e hi
  subst hz
  exact jlm (r := c) hn (by simpa [eptr] using hx) (fun j u hu => by rw [Nat.add_assoc]; exact h3 j u hu) (r.len h2) (hk c h2)
theorem yle {α : Type} {r : Rep α} {t sz cap : Nat} {A : Option Addr} {xs : List α} {i : Nat} {e : α} [TyI cx.P t true sz] (hR : SlR r M A cap xs) (hi : xs[i]? = some e) (hz : r.sz = sz)
    (hx : ev E x = some (.pointer (eptr A (i * sz)))) : ∃ c, r.R M e c ∧ Y cx ⟨some d, .load t x, T, pos, af, none⟩ E M L (.agg c.toArray) := by
  obtain ⟨b, o, c, rfl, h2, h3⟩ := hR.el i e hi
  subst hz
  exact ⟨c, h2, ylm (r := c) (by simpa [eptr] using hx) (fun j u hu => by rw [Nat.add_assoc]; exact h3 j u hu) (r.len h2)⟩
/-- .. a cell of it -/
theorem yle1 {α : Type} {r : Rep α} {t sz cap o : Nat} {A : Option Addr} {xs : List α} {i : Nat} {e : α} [TyI cx.P t false sz] (hR : SlR r M A cap xs) (hi : xs[i]? = some e)
    (hx : ev E x = some (.pointer (eptr A (i * r.sz + o)))) (hv : ∀ c, r.R M e c → c[o]? = some v) : Y cx ⟨some d, .load t x, T, pos, af, none⟩ E M L v := by
  obtain ⟨b, p, c, rfl, h2, h3⟩ := hR.el i e hi
  exact ylm1 (by simpa [eptr] using hx) (h3 o v (hv c h2))
theorem jle1 {α : Type} {r : Rep α} {t sz cap o : Nat} {A : Option Addr} {xs : List α} {i : Nat} {e : α} [TyI cx.P t false sz] (hn : Nat.blt d cx.n = true) (hR : SlR r M A cap xs) (hi : xs[i]? = some e)
    (hx : ev E x = some (.pointer (eptr A (i * r.sz + o)))) (hv : ∀ c, r.R M e c → c[o]? = some v) (hk : J cx ops Q rest ((d, v) :: E) M L) : J cx ops Q (⟨some d, .load t x, T, pos, af, none⟩ :: rest) E M L := j_y hn (yle1 hR hi hx hv) hk
/-- .. an aggregate inside it -/
theorem ylea {α : Type} {r : Rep α} {t sz cap o : Nat} {A : Option Addr} {xs : List α} {i : Nat} {e : α} {q : List Value} [TyI cx.P t true sz] (hR : SlR r M A cap xs) (hi : xs[i]? = some e)
    (hx : ev E x = some (.pointer (eptr A (i * r.sz + o)))) (hv : ∀ c, r.R M e c → (c.drop o).take sz = q) (hl : q.length = sz) : Y cx ⟨some d, .load t x, T, pos, af, none⟩ E M L (.agg q.toArray) := by
  obtain ⟨b, p, c, rfl, h2, h3⟩ := hR.el i e hi
  refine ylm (r := q) (by simpa [eptr] using hx) (fun j u hu => ?_) hl
  have hj : j < sz := by have := (List.getElem?_eq_some_iff.1 hu).1; omega
  rw [← hv c h2, List.getElem?_take] at hu
  simp [hj] at hu
  rw [Nat.add_assoc, Nat.add_assoc]
  exact h3 (o + j) u hu
theorem jlea {α : Type} {r : Rep α} {t sz cap o : Nat} {A : Option Addr} {xs : List α} {i : Nat} {e : α} {q : List Value} [TyI cx.P t true sz] (hn : Nat.blt d cx.n = true) (hR : SlR r M A cap xs) (hi : xs[i]? = some e)
    (hx : ev E x = some (.pointer (eptr A (i * r.sz + o)))) (hv : ∀ c, r.R M e c → (c.drop o).take sz = q) (hl : q.length = sz) (hk : J cx ops Q rest ((d, .agg q.toArray) :: E) M L) : J cx ops Q (⟨some d, .load t x, T, pos, af, none⟩ :: rest) E M L := j_y hn (ylea hR hi hx hv hl) hk
end

/-! cells that may be read -/
/-- the slice value x, of m elements of size sz, reads as cs wherever M is known and L owned -/
def Src (M : Mem) (L : List Ent) (x : Value) (sz m : Nat) (cs : List Value) : Prop :=
  cs.length = m * sz ∧ ∃ A cap, x = .slice A m cap ∧ (A = none → cs = []) ∧ ∀ cx w, Own cx M w L → ∀ a, A = some a → ∀ j u, cs[j]? = some u → w.cell? (a.add j) = some u
theorem Src.blk {M : Mem} {L : List Ent} {i B T sz m cap : Nat} {c : List Value} (h : L[i]? = some (.blk B T c)) (hl : c.length = m * sz) : Src M L (.slice (some ⟨B, 0, none⟩) m cap) sz m c :=
  ⟨hl, _, _, rfl, (by intro h; cases h), fun cx w ho a ha j u hu => by
    cases ha
    have hB : w.heap[B]? = some (Obj.cells c.toArray T (0, 0)) := ho.at' h
    rw [add_at, cell_of_heap hB, Nat.zero_add]
    exact hu⟩
theorem Src.row {M : Mem} {L : List Ent} {i T sz m : Nat} {v : Value} {c : List Value} (h : L[i]? = some (.row v T sz m c)) (cx : Cx) (w : World) (ho : Own cx M w L) : Src M L v sz m c := by
  have h0 := ho.at' h
  refine ⟨h0.1, ?_⟩
  rcases h0.2 with ⟨rfl, A, rfl⟩ | ⟨B, cap, rest, rfl, h1, h2, h3, h4⟩
  · have hc : c = [] := by have := h0.1; simpa using this
    exact ⟨A, 0, rfl, fun _ => hc, fun cx w ho a ha j u hu => by rw [hc] at hu; cases hu⟩
  · refine ⟨_, cap, rfl, (by intro h; cases h), fun cx w ho a ha j u hu => ?_⟩
    cases ha
    rcases (ho.at' h).2 with ⟨_, A, h5⟩ | ⟨B', cap', rest', h5, _, h6, h7, h8⟩
    · cases h5; omega
    · cases h5
      rw [add_at, cell_of_heap h8, Nat.zero_add, List.getElem?_append_left (List.getElem?_eq_some_iff.1 hu).1]
      exact hu
theorem SlR.src {α : Type} {r : Rep α} {M : Mem} {A : Option Addr} {cap : Nat} {xs : List α} (h : SlR r M A cap xs) (L : List Ent) :
    ∃ cs, Src M L (.slice A xs.length cap) r.sz xs.length cs ∧ cs.all Value.oneCell' = true ∧ ∀ i x, xs[i]? = some x → r.R M x ((cs.drop (i * r.sz)).take r.sz) := by
  suffices hh : ∀ (k : Nat) (ys : List α), (∀ i, ys[i]? = xs[k + i]?) → ∃ cs : List Value, cs.length = ys.length * r.sz ∧ cs.all Value.oneCell' = true ∧ (∀ i x, ys[i]? = some x → r.R M x ((cs.drop (i * r.sz)).take r.sz)) ∧
      (A = none → cs = []) ∧ ∀ b o, A = some ⟨b, o, none⟩ → ∀ j u, cs[j]? = some u → M ⟨b, o + (k * r.sz + j), none⟩ = some u by
    obtain ⟨cs, h1, h2, h3, h4, h5⟩ := hh 0 xs (fun i => by simp)
    refine ⟨cs, ⟨h1, A, cap, rfl, h4, fun cx w ho a ha j u hu => ?_⟩, h2, h3⟩
    subst ha
    cases hxs : xs with
    | nil => subst hxs; simp at h1; subst h1; simp at hu
    | cons x0 xr =>
      obtain ⟨b, o, hA⟩ := h.adr (i := 0) (by simp [hxs])
      cases hA
      rw [add_at]
      have := h5 b o rfl j u hu
      simp only [Nat.zero_mul, Nat.zero_add] at this
      exact ho.mem _ _ this
  intro k ys
  induction ys generalizing k with
  | nil => intro _; exact ⟨[], by simp, rfl, by simp, fun _ => rfl, by simp⟩
  | cons y ys ih =>
    intro hy
    obtain ⟨cs, h1, h2, h3, h4, h5⟩ := ih (k + 1) (fun i => by have := hy (i + 1); simp only [List.getElem?_cons_succ] at this; rw [this]; congr 1; omega)
    have h0 := hy 0
    simp only [List.getElem?_cons_zero, Nat.add_zero] at h0
    obtain ⟨b, o, c, hA, hc, hm⟩ := h.el k y h0.symm
    have hl := r.len hc
    refine ⟨c ++ cs, ?_, ?_, ?_, ?_, ?_⟩
    · simp [hl, h1, Nat.add_mul, Nat.add_comm]
    · rw [List.all_append, r.one hc, h2]; rfl
    · intro i x hx
      cases i with
      | zero =>
        simp at hx; subst hx
        simp only [Nat.zero_mul, List.drop_zero]
        rw [List.take_append_of_le_length (by omega), ← hl, List.take_length]
        exact hc
      | succ i =>
        simp at hx
        have e : (c ++ cs).drop ((i + 1) * r.sz) = cs.drop (i * r.sz) := by
          rw [Nat.add_mul, Nat.one_mul, Nat.add_comm, ← hl, ← List.drop_drop, List.drop_left]
        rw [e]; exact h3 i x hx
    · intro hA'; rw [hA'] at hA; cases hA
    · intro b' o' hA' j u hu
      rw [hA] at hA'; cases hA'
      by_cases hj : j < c.length
      · rw [List.getElem?_append_left hj] at hu; exact hm j u hu
      · rw [List.getElem?_append_right (by omega)] at hu
        have := h5 b o hA (j - c.length) u hu
        rw [show k * r.sz + j = (k + 1) * r.sz + (j - c.length) by rw [Nat.add_mul, Nat.one_mul]; omega]
        exact this
end Go.Proofs.YtihgpbpcbbgdiaaGreat
