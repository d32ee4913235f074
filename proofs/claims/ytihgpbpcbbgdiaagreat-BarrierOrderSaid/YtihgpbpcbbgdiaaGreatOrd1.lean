/- Several texts in one. -/
import Derived.WalkKit
/- The judgements over the kit's wp: symbolic stores of temporaries, known memory, owned blocks; and the rules for the forms of code. -/
namespace Go.Proofs.YtihgpbpcbbgdiaaGreat
open Go.RowKit
set_option linter.unusedVariables false

abbrev Env := List (Nat × Value)
def find : Env → Nat → Option Value
  | [], _ => none
  | (k, v) :: E, t => match Nat.beq k t with
    | true => some v
    | false => find E t
def ev (E : Env) : Operand → Option Value
  | .tmp t => find E t
  | .const v => some v
  | .global g => some (.pointer (some ⟨g, 0, none⟩))
  | .func f => some (.func (.func f) #[] #[])

def evL (E : Env) : List Operand → Option (List Value)
  | [] => some []
  | o :: l => match ev E o, evL E l with
    | some v, some vs => some (v :: vs)
    | _, _ => none
def evP (E : Env) : List (Nat × Operand) → Option (List (Nat × Value))
  | [] => some []
  | (i, o) :: l => match ev E o, evP E l with
    | some v, some vs => some ((i, v) :: vs)
    | _, _ => none
structure Sat (ds : List Deferred) (n : Nat) (E : Env) (a : Act) : Prop where
  d : a.defers = ds
  s : a.tmps.size = n
  g : ∀ t v, find E t = some v → a.tmps[t]? = some v

theorem find_eq {E : Env} {k : Nat} {v : Value} : find ((k, v) :: E) k = some v := by simp [find]
theorem find_ne {E : Env} {k t : Nat} {v : Value} (h : k ≠ t) : find ((k, v) :: E) t = find E t := by
  have : Nat.beq k t = false := by
    cases hb : Nat.beq k t with
    | false => rfl
    | true => exact absurd (Nat.eq_of_beq_eq_true hb) h
  simp [find, this]

theorem Sat.put {ds : List Deferred} {n : Nat} {E : Env} {a : Act} (h : Sat ds n E a) {d : Nat} (hd : d < n) (v : Value) : Sat ds n ((d, v) :: E) (a.put (some d) v) where
  d := h.d
  s := by simp [Act.put, h.s]
  g := fun t u ht => by
    by_cases e : d = t
    · subst e
      rw [find_eq] at ht
      cases ht
      simp [Act.put, h.s, hd]
    · rw [find_ne e] at ht
      simp only [Act.put, Array.getElem?_setIfInBounds_ne e]
      exact h.g t u ht
theorem Sat.ev {ds : List Deferred} {n : Nat} {E : Env} {a : Act} (h : Sat ds n E a) {x : Operand} {v : Value} (hx : ev E x = some v) : a.eval x = v := by
  cases x with
  | tmp t =>
    have := h.g t v hx
    simp [Act.eval, this]
  | const u => exact Option.some.inj hx
  | global g => exact Option.some.inj hx
  | func f => exact Option.some.inj hx
theorem Sat.weaken {ds : List Deferred} {n : Nat} {E E' : Env} {a : Act} (h : Sat ds n E a) (hs : ∀ t v, find E' t = some v → find E t = some v) : Sat ds n E' a :=
  ⟨h.d, h.s, fun t v ht => h.g t v (hs t v ht)⟩
/-- every binding of the second store stands in the first -/
def sub : Env → Env → Prop
  | _, [] => True
  | E, (k, v) :: E' => find E k = some v ∧ sub E E'
theorem sub_find {E E' : Env} (h : sub E E') : ∀ t v, find E' t = some v → find E t = some v := by
  induction E' with
  | nil => intro t v ht; cases ht
  | cons p E' ih =>
    obtain ⟨k, u⟩ := p
    intro t v ht
    by_cases e : k = t
    · subst e; rw [find_eq] at ht; cases ht; exact h.1
    · rw [find_ne e] at ht; exact ih h.2 t v ht

/-! memory -/
abbrev Mem := Addr → Option Value
/-- an owned block with just these cells; a slice value whose row is owned, its first cells known -/
inductive Ent where
  | blk (B : Nat) (T : TypeId) (c : List Value)
  | row (v : Value) (T : TypeId) (sz n : Nat) (c : List Value)
  | mp (B : Nat) (kvs : List (Value × Value))
def Ent.bs : Ent → List Nat
  | .blk B _ _ => [B]
  | .row (.slice (some a) _ cap) _ _ _ _ => if cap = 0 then [] else [a.block]
  | .row _ _ _ _ _ => []
  | .mp B _ => [B]
def Ent.holds (w : World) : Ent → Prop
  | .blk B T c => w.heap[B]? = some (.cells c.toArray T (0, 0))
  | .row v T sz n c => c.length = n * sz ∧ ((n = 0 ∧ ∃ A, v = .slice A 0 0) ∨
      ∃ B cap rest, v = .slice (some ⟨B, 0, none⟩) n cap ∧ 0 < cap ∧ n ≤ cap ∧ rest.length = (cap - n) * sz ∧ w.heap[B]? = some (.cells (c ++ rest).toArray T (0, 0)))
  | .mp B kvs => ∃ es clock, w.heap[B]? = some (.map es clock) ∧ es.toList.map (fun e => (e.key, e.val)) = kvs
def blks (L : List Ent) : List Nat := L.flatMap Ent.bs

structure Cx where
  P : Program
  n : Nat
  w0 : World
  Br : List Nat
  M0 : Mem
  ds : List Deferred

structure Own (cx : Cx) (M : Mem) (w : World) (L : List Ent) : Prop where
  os : w.os = cx.w0.os
  tape : w.tape = cx.w0.tape
  output : w.output = cx.w0.output
  dr : cx.w0.drawn ≤ w.drawn
  size : cx.w0.heap.size ≤ w.heap.size
  keep : ∀ k, k < cx.w0.heap.size → k ∉ cx.Br → w.heap[k]? = cx.w0.heap[k]?
  mem : ∀ a v, M a = some v → w.cell? a = some v
  new : ∀ a v, M a = some v → cx.M0 a = some v ∨ a.block ∈ cx.Br ∨ cx.w0.heap.size ≤ a.block
  old : ∀ a v, cx.M0 a = some v → M a = some v
  off : ∀ a v, M a = some v → a.block ∉ blks L
  ent : ∀ e ∈ L, e.holds w
  nd : (blks L).Nodup
  brf : ∀ b ∈ blks L, b ∈ cx.Br ∨ cx.w0.heap.size ≤ b

/-! judgements -/
abbrev Post := Exit → Act → World → Prop
def J (cx : Cx) (ops : Array Oper) (Q : Post) (l : List Oper) (E : Env) (M : Mem) (L : List Ent) : Prop :=
  ∀ a w, Sat cx.ds cx.n E a → Own cx M w L → wpList cx.P ops Q l a w
def JC (cx : Cx) (c : Code) (Q : Post) (E : Env) (M : Mem) (L : List Ent) : Prop :=
  ∀ a w, Sat cx.ds cx.n E a → Own cx M w L → c.wp cx.P Q a w
def JP (cx : Cx) (Q : Post) (e : Exit) (E : Env) (M : Mem) (L : List Ent) : Prop :=
  ∀ a w, Sat cx.ds cx.n E a → Own cx M w L → Q e a w

section
variable {cx : Cx} {Q : Post} {E : Env} {M : Mem} {L : List Ent} {ops : Array Oper}

def thn (cx : Cx) (c : Code) (Q : Post) : Post := Exit.then (c.wp cx.P Q) Q
theorem c_seq {x y : Code} (h : JC cx x (thn cx y Q) E M L) : JC cx (.seq x y) Q E M L := fun a w hs ho => wp_seq (h a w hs ho)
theorem p_thn {c : Code} (h : JC cx c Q E M L) : JP cx (thn cx c Q) .normal E M L := h
theorem p_thn_ret {c : Code} (h : JP cx Q .ret E M L) : JP cx (thn cx c Q) .ret E M L := h
theorem p_thn_exit {c : Code} {i : Nat} (h : JP cx Q (.exit i) E M L) : JP cx (thn cx c Q) (.exit i) E M L := h
theorem c_skip (h : JP cx Q .normal E M L) : JC cx .skip Q E M L := fun a w hs ho => wp_skip (h a w hs ho)
theorem c_ret (h : JP cx Q .ret E M L) : JC cx .ret Q E M L := fun a w hs ho => wp_ret (h a w hs ho)
theorem c_exit {i : Nat} (h : JP cx Q (.exit i) E M L) : JC cx (.exit i) Q E M L := fun a w hs ho => wp_exit (h a w hs ho)
def inb (i : Nat) (Q : Post) : Post := Exit.inBlock i Q
theorem c_block {i : Nat} {c : Code} (h : JC cx c (inb i Q) E M L) : JC cx (.block i c) Q E M L := fun a w hs ho => wp_block (h a w hs ho)
theorem p_inb {i : Nat} (h : JP cx Q .normal E M L) : JP cx (inb i Q) .normal E M L := h
theorem p_inb_ret {i : Nat} (h : JP cx Q .ret E M L) : JP cx (inb i Q) .ret E M L := h
theorem p_inb_exit {i : Nat} (h : JP cx Q .normal E M L) : JP cx (inb i Q) (.exit i) E M L := fun a w hs ho => by
  have := h a w hs ho
  simpa [inb, Exit.inBlock] using this
theorem p_inb_exit_ne {i j : Nat} (hij : Nat.beq j i = false) (h : JP cx Q (.exit j) E M L) : JP cx (inb i Q) (.exit j) E M L := fun a w hs ho => by
  have h1 := h a w hs ho
  have : ¬ j = i := fun e => by subst e; simp at hij
  simpa [inb, Exit.inBlock, this] using h1
theorem c_cond {c : Operand} {x y : Code} {b : Bool} (hc : ev E c = some (.bool b)) (ht : b = true → JC cx x Q E M L) (hf : b = false → JC cx y Q E M L) :
    JC cx (.cond c x y) Q E M L := fun a w hs ho =>
  wp_cond_split (hs.ev hc) (fun h => ht h a w hs ho) (fun h => hf h a w hs ho)
theorem c_cond_t {c : Operand} {x y : Code} (hc : ev E c = some (.bool true)) (ht : JC cx x Q E M L) : JC cx (.cond c x y) Q E M L := fun a w hs ho =>
  wp_cond_true (hs.ev hc) (ht a w hs ho)
theorem c_cond_f {c : Operand} {x y : Code} (hc : ev E c = some (.bool false)) (ht : JC cx y Q E M L) : JC cx (.cond c x y) Q E M L := fun a w hs ho =>
  wp_cond_false (hs.ev hc) (ht a w hs ho)
/-- a region in the text's order -/
theorem c_region {i : Nat} {l : List Oper} (h : J cx l.toArray Q l E M L) : JC cx (.region i l.toArray false) Q E M L := fun a w hs ho =>
  wp_region_lit (h a w hs ho)
theorem j_nil (h : JP cx Q .normal E M L) : J cx ops Q [] E M L := fun a w hs ho => wpList_nil (h a w hs ho)

/-- a cut: all ways come to one of a family of states -/
theorem c_cut {X : Type} (I : X → Prop) (E' : X → Env) (M' : X → Mem) (L' : X → List Ent) {x y : Code}
    (h : JC cx x (Exit.then (fun a w => ∃ k, I k ∧ Sat cx.ds cx.n (E' k) a ∧ Own cx (M' k) w (L' k)) Q) E M L)
    (hk : ∀ k, I k → JC cx y Q (E' k) (M' k) (L' k)) : JC cx (.seq x y) Q E M L := fun a w hs ho =>
  wp_seq (wp_mono (h a w hs ho) fun e a w hq => by
    cases e with
    | normal => obtain ⟨k, hi, h1, h2⟩ := hq; exact hk k hi a w h1 h2
    | _ => exact hq)
theorem p_cut {X : Type} {I : X → Prop} {E' : X → Env} {M' : X → Mem} {L' : X → List Ent} (k : X) (hi : I k) (hE : sub E (E' k)) (hM : M' k = M) (hL : L' k = L) :
    JP cx (Exit.then (fun a w => ∃ k, I k ∧ Sat cx.ds cx.n (E' k) a ∧ Own cx (M' k) w (L' k)) Q) .normal E M L := fun a w hs ho =>
  ⟨k, hi, hs.weaken (sub_find hE), by rw [hM, hL]; exact ho⟩
/-- a loop, over a family of states -/
def lpQ (cx : Cx) {X : Type} (I : X → Prop) (μ : X → Nat) (m : Nat) (E' : X → Env) (M' : X → Mem) (L' : X → List Ent) (Q : Post) : Post :=
  Exit.then (fun a w => ∃ k, I k ∧ μ k < m ∧ Sat cx.ds cx.n (E' k) a ∧ Own cx (M' k) w (L' k)) Q
theorem c_loop {X : Type} (I : X → Prop) (μ : X → Nat) (E' : X → Env) (M' : X → Mem) (L' : X → List Ent) {c : Code} (k0 : X) (hi : I k0)
    (hE : sub E (E' k0)) (hM : M' k0 = M) (hL : L' k0 = L)
    (h : ∀ k, I k → JC cx c (lpQ cx I μ (μ k) E' M' L' Q) (E' k) (M' k) (L' k)) : JC cx (.loop c) Q E M L := fun a w hs ho => by
  have key : ∀ (m : Nat) (b : Frame) (kk : List Item) (cs : List Frame) (k : X) (a : Act) (w : World), μ k = m → I k → Sat cx.ds cx.n (E' k) a → Own cx (M' k) w (L' k) →
      ∃ e a' w', Q e a' w' ∧ Arrives cx.P (lone (b.at a (.code c :: .inLoop c :: kk)) cs w) b kk cs e a' w' := by
    intro m b kk cs
    induction m using Nat.strongRecOn with
    | _ m ih =>
      intro k a w hm hk hs ho
      obtain ⟨e, a₁, w₁, hq, harr⟩ := h k hk a w hs ho b (.inLoop c :: kk) cs
      cases e with
      | normal =>
        obtain ⟨k1, hi1, hlt, hs1, ho1⟩ := hq
        obtain ⟨e₂, a₂, w₂, hq₂, harr₂⟩ := ih (μ k1) (hm ▸ hlt) k1 a₁ w₁ rfl hi1 hs1 ho1
        exact ⟨e₂, a₂, w₂, hq₂, .of_steps (Steps.trans harr (.one step_inLoop)) harr₂⟩
      | exit id => exact ⟨_, a₁, w₁, hq, .pass (x := .inLoop c) rfl (fun _ _ => .inl (by simp)) harr⟩
      | goto l => exact ⟨_, a₁, w₁, hq, .pass (x := .inLoop c) rfl (fun _ _ => .inl (by simp)) harr⟩
      | ret => exact ⟨_, a₁, w₁, hq, .pass (x := .inLoop c) rfl (fun _ _ => .inl (by simp)) harr⟩
      | panic ch => exact ⟨_, a₁, w₁, hq, .pass (x := .inLoop c) rfl (fun _ _ => .inl (by simp)) harr⟩
      | outgrown => exact ⟨_, a₁, w₁, hq, .pass (x := .inLoop c) rfl (fun _ _ => .inl (by simp)) harr⟩
  intro b kk cs
  obtain ⟨e, a', w', hq, harr⟩ := key _ b kk cs k0 a w rfl hi (hs.weaken (sub_find hE)) (by rw [hM, hL]; exact ho)
  exact ⟨e, a', w', hq, .of_steps (.one step_loop) harr⟩
theorem p_lp {X : Type} {I : X → Prop} {μ : X → Nat} {m : Nat} {E' : X → Env} {M' : X → Mem} {L' : X → List Ent} (k : X) (hi : I k) (hm : μ k < m)
    (hE : sub E (E' k)) (hM : M' k = M) (hL : L' k = L) : JP cx (lpQ cx I μ m E' M' L' Q) .normal E M L := fun a w hs ho =>
  ⟨k, hi, hm, hs.weaken (sub_find hE), by rw [hM, hL]; exact ho⟩
theorem p_lp_ret {X : Type} {I : X → Prop} {μ : X → Nat} {m : Nat} {E' : X → Env} {M' : X → Mem} {L' : X → List Ent} (h : JP cx Q .ret E M L) :
    JP cx (lpQ cx I μ m E' M' L' Q) .ret E M L := h
theorem p_lp_exit {X : Type} {I : X → Prop} {μ : X → Nat} {m : Nat} {E' : X → Env} {M' : X → Mem} {L' : X → List Ent} {i : Nat} (h : JP cx Q (.exit i) E M L) :
    JP cx (lpQ cx I μ m E' M' L' Q) (.exit i) E M L := h

/-! one operation -/
theorem j_op {o : Oper} {rest : List Oper} (hg : o.guard = none)
    (h : ∀ a w, Sat cx.ds cx.n E a → Own cx M w L → ∀ K : Act → World → Prop, (∀ a w, wpList cx.P ops Q rest a w → K a w) → o.wp cx.P a w K Q) : J cx ops Q (o :: rest) E M L := fun a w hs ho =>
  wpList_plain hg fun K hK => h a w hs ho K hK
/-- an operation that gives a value and leaves the world -/
theorem j_val {dst : Option Nat} {d : Nat} {op : Op} {T : TypeId} {pos : String} {af : Array Edge} {rest : List Oper} (v : Value) (hd : dst = some d) (hn : Nat.blt d cx.n = true)
    (h : ∀ a w, Sat cx.ds cx.n E a → Own cx M w L → (execOp a.eval ⟨dst, op, T, pos, af, none⟩).run cx.P w = .ok (.value v) w)
    (hk : J cx ops Q rest ((d, v) :: E) M L) : J cx ops Q (⟨dst, op, T, pos, af, none⟩ :: rest) E M L :=
  j_op rfl fun a w hs ho K hK => by
    unfold Oper.wp
    rw [h a w hs ho, Oper.upon_value]
    subst hd
    exact hK _ _ (hk _ _ (hs.put (by simpa using hn) v) ho)
/-- the operation gives this value, and leaves the world -/
def Y (cx : Cx) (o : Oper) (E : Env) (M : Mem) (L : List Ent) (v : Value) : Prop := ∀ a w, Sat cx.ds cx.n E a → Own cx M w L → (execOp a.eval o).run cx.P w = .ok (.value v) w
theorem j_y {d : Nat} {op : Op} {T : TypeId} {pos : String} {af : Array Edge} {rest : List Oper} {v : Value} (hn : Nat.blt d cx.n = true) (h : Y cx ⟨some d, op, T, pos, af, none⟩ E M L v)
    (hk : J cx ops Q rest ((d, v) :: E) M L) : J cx ops Q (⟨some d, op, T, pos, af, none⟩ :: rest) E M L := j_val v rfl hn h hk
end
end Go.Proofs.YtihgpbpcbbgdiaaGreat
