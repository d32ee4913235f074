/- Several texts in one. -/
import Derived.Test.YtihgpbpcbbgdiaaGreatOrd18
import Derived.Test.YtihgpbpcbbgdiaaGreatOrd9
import Derived.Test.YtihgpbpcbbgdiaaGreatOrd16
import Derived.Test.YtihgpbpcbbgdiaaGreatOrd7
/- '==' on vectors, rights, counters, locks, holds, plans. -/
namespace Go.Proofs.YtihgpbpcbbgdiaaGreat
open Go.RowKit
set_option linter.unusedVariables false
set_option linter.unusedSimpArgs false
/-- two of these are compared -/
class EqI (P : Program) (t : TypeId) (α : outParam Type) [DecidableEq α] (f : outParam (α → List Value)) : Prop where
  h : ∀ (a b : α) (w : World), (Op.equalIn 10000 t (.agg (f a).toArray) (.agg (f b).toArray)).run P w = .ok (decide (a = b)) w
  g : P.eqGuardType P.depth t = false
theorem EqI.flat {P : Program} {t k : Nat} {α : Type} [DecidableEq α] {f : α → List Value} {z : α → List Int} (hz : ∀ a, f a = (z a).map (fun n => Value.int .i64 n)) (hl : ∀ a, (z a).length = k) (hi : ∀ a b, z a = z b → a = b)
    (hf : flatE P 10 t k = true) (hag : (match P.underlying t with | some (.struct _) | some (.array _ _) => true | _ => false) = true) (hg : P.eqGuardType P.depth t = false) : EqI P t α f where
  g := hg
  h a b w := by
    obtain ⟨r, hr, hr'⟩ := eq_flat 10 t k hf 9990 (z a) (z b) (hl a) (hl b) w
    have e : ∀ a, fval P t (z a) = .agg (f a).toArray := fun a => by
      unfold fval
      split
      · rw [hz]
      · rw [hz]
      · rename_i h1 h2
        split at hag
        · rename_i h3; exact absurd h3 (h1 _)
        · rename_i h3; exact absurd h3 (h2 _ _)
        · cases hag
    rw [e, e] at hr
    have : r = decide (a = b) := by
      cases r with
      | true => rw [hi a b (hr'.1 rfl)]; simp
      | false =>
        have : a ≠ b := fun e => by
          have := hr'.2 (by rw [e]); cases this
        simp [this]
    rw [← this]; exact hr
section
variable {cx : Cx} {Q : Post} {E : Env} {M : Mem} {L : List Ent} {ops : Array Oper} {d T : Nat} {pos : String} {af : Array Edge} {rest : List Oper} {x y : Operand} {t t' : Nat} {α : Type} [DecidableEq α] {f : α → List Value} {a b : α}
theorem yeqf [I : EqI cx.P t α f] (hx : ev E x = some (.agg (f a).toArray)) (hy : ev E y = some (.agg (f b).toArray)) : Y cx ⟨some d, .binOp .eql t x y t', T, pos, af, none⟩ E M L (.bool (decide (a = b))) := fun a' w hs ho => by
  have h1 : (eqGuard .eql t x y (.agg (f a).toArray) (.agg (f b).toArray)).run cx.P w = .ok () w := run_eqGuard_agg w .eql _ x y _ _ I.g
  have h2 : (binOp .eql t (.agg (f a).toArray) (.agg (f b).toArray)).run cx.P w = .ok (.bool (decide (a = b))) w := by rw [run_eql_struct, I.h]; rfl
  simp only [execOp, hs.ev hx, hs.ev hy, Sem.run_bind, h1, h2, Result.andThen_ok, Sem.run_pure]
theorem jeqf [I : EqI cx.P t α f] (hn : Nat.blt d cx.n = true) (hx : ev E x = some (.agg (f a).toArray)) (hy : ev E y = some (.agg (f b).toArray)) (hk : J cx ops Q rest ((d, .bool (decide (a = b))) :: E) M L) : J cx ops Q (⟨some d, .binOp .eql t x y t', T, pos, af, none⟩ :: rest) E M L := j_y hn (yeqf hx hy) hk
theorem ynef [I : EqI cx.P t α f] (hx : ev E x = some (.agg (f a).toArray)) (hy : ev E y = some (.agg (f b).toArray)) : Y cx ⟨some d, .binOp .neq t x y t', T, pos, af, none⟩ E M L (.bool (decide (a ≠ b))) := fun a' w hs ho => by
  have h1 : (eqGuard .neq t x y (.agg (f a).toArray) (.agg (f b).toArray)).run cx.P w = .ok () w := run_eqGuard_agg w .neq _ x y _ _ I.g
  have h2 : (binOp .neq t (.agg (f a).toArray) (.agg (f b).toArray)).run cx.P w = .ok (.bool (decide (a ≠ b))) w := by rw [run_neq_struct, I.h]; simp
  simp only [execOp, hs.ev hx, hs.ev hy, Sem.run_bind, h1, h2, Result.andThen_ok, Sem.run_pure]
theorem jnef [I : EqI cx.P t α f] (hn : Nat.blt d cx.n = true) (hx : ev E x = some (.agg (f a).toArray)) (hy : ev E y = some (.agg (f b).toArray)) (hk : J cx ops Q rest ((d, .bool (decide (a ≠ b))) :: E) M L) : J cx ops Q (⟨some d, .binOp .neq t x y t', T, pos, af, none⟩ :: rest) E M L := j_y hn (ynef hx hy) hk
end
/-! the types -/
abbrev ints (zs : List Int) : List Value := zs.map (fun n => Value.int .i64 n)
def zRights (r : Rights) : List Int := r.given.toList ++ (r.used.toList ++ r.moved.toList.flatMap (·.toList))
def zCounter (c : Counter) : List Int := c.init :: c.low :: c.high :: (zRights c.down ++ zRights c.up)
def zLock (l : Lock) : List Int := [l.seq, l.ver, l.holder, l.value]
def zHold (h : Hold) : List Int := [h.replica, h.number, h.amount, h.due, h.state]
theorem ints_flat (l : List Vec) : ints (l.flatMap (·.toList)) = l.flatMap encVec := by
  induction l with
  | nil => rfl
  | cons a l ih => simp only [List.flatMap_cons, ints, List.map_append] at *; rw [ih]; rfl
theorem zRights_enc (r : Rights) : encRights r = ints (zRights r) := by
  unfold encRights zRights ints encMoved
  rw [List.map_append, List.map_append]
  congr 2
  exact (ints_flat _).symm
theorem zCounter_enc (c : Counter) : encCounter c = ints (zCounter c) := by
  unfold encCounter zCounter
  rw [zRights_enc, zRights_enc]; simp [ints]
theorem zRights_len (r : Rights) : (zRights r).length = 288 := by
  have := congrArg List.length (zRights_enc r)
  rw [len_rights] at this; simp [ints] at this; omega
theorem zCounter_len (c : Counter) : (zCounter c).length = 579 := by
  have := congrArg List.length (zCounter_enc c)
  rw [len_counter] at this; simp [ints] at this; omega
theorem flat_inj : ∀ (l l' : List Vec), l.length = l'.length → l.flatMap (·.toList) = l'.flatMap (·.toList) → l = l'
  | [], [], _, _ => rfl
  | a :: l, b :: l', hl, h => by
    simp only [List.flatMap_cons] at h
    obtain ⟨h1, h2⟩ := List.append_inj h (by simp)
    rw [Vector.toList_inj.1 h1, flat_inj l l' (by simpa using hl) h2]
theorem zRights_inj (a b : Rights) (h : zRights a = zRights b) : a = b := by
  obtain ⟨a1, a2, a3⟩ := a; obtain ⟨b1, b2, b3⟩ := b
  unfold zRights at h
  obtain ⟨h1, h2⟩ := List.append_inj h (by simp)
  obtain ⟨h2, h3⟩ := List.append_inj h2 (by simp)
  have e1 : a1 = b1 := Vector.toList_inj.1 h1
  have e2 : a2 = b2 := Vector.toList_inj.1 h2
  have e3 : a3 = b3 := Vector.toList_inj.1 (flat_inj _ _ (by simp) h3)
  rw [e1, e2, e3]
theorem zCounter_inj (a b : Counter) (h : zCounter a = zCounter b) : a = b := by
  obtain ⟨a1, a2, a3, a4, a5⟩ := a; obtain ⟨b1, b2, b3, b4, b5⟩ := b
  unfold zCounter at h
  simp only [List.cons.injEq] at h
  obtain ⟨h1, h2, h3, h4⟩ := h
  obtain ⟨h4, h5⟩ := List.append_inj h4 (by rw [zRights_len, zRights_len])
  have e4 : a4 = b4 := zRights_inj _ _ h4
  have e5 : a5 = b5 := zRights_inj _ _ h5
  have e1 : a1 = b1 := h1
  have e2 : a2 = b2 := h2
  have e3 : a3 = b3 := h3
  rw [e1, e2, e3, e4, e5]
instance : EqI Tryz.prog 44 Counter encCounter := EqI.flat zCounter_enc zCounter_len zCounter_inj (by kernel_rfl) (by kernel_rfl) (by kernel_rfl)
instance : EqI Tryz.prog 46 Lock encLock := EqI.flat (z := zLock) (k := 4) (fun _ => rfl) (fun _ => rfl) (fun a b h => by cases a; cases b; simp [zLock] at h; simp [h]) (by kernel_rfl) (by kernel_rfl) (by kernel_rfl)
instance : EqI Tryz.prog 129 Hold encHold := EqI.flat (z := zHold) (k := 5) (fun _ => rfl) (fun _ => rfl) (fun a b h => by cases a; cases b; simp [zHold] at h; simp [h]) (by kernel_rfl) (by kernel_rfl) (by kernel_rfl)
theorem eq_plan (a b : Plan) (d : Nat) (w : World) : (Op.equalIn (d + 2) 24 (.agg (encPlan a).toArray) (.agg (encPlan b).toArray)).run Tryz.prog w = .ok (decide (a = b)) w := by
  have hu := Tryz.underlying24
  have hf : Tryz.prog.fieldsOf 24 = #[{ name := "Kind", type := 3, offset := 0, embedded := false, tag := "", pkgPath := "", byteOffset := 0 }, { name := "Name", type := 9, offset := 1, embedded := false, tag := "", pkgPath := "", byteOffset := 8 }, { name := "Other", type := 9, offset := 2, embedded := false, tag := "", pkgPath := "", byteOffset := 24 }, { name := "A", type := 3, offset := 3, embedded := false, tag := "", pkgPath := "", byteOffset := 40 }, { name := "B", type := 3, offset := 4, embedded := false, tag := "", pkgPath := "", byteOffset := 48 }] := by
    unfold Go.Program.fieldsOf; rw [hu]
  rw [run_equalIn_agg w (d + 1) 24 _ _ (by rw [hf]; exact hu) Tryz.stoodInHeld24, hf]
  obtain ⟨a1, a2, a3, a4, a5⟩ := a
  obtain ⟨b1, b2, b3, b4, b5⟩ := b
  have hs : ∀ (p q : ByteArray) w, (Op.equalIn (d + 1) 9 (.string p) (.string q)).run Tryz.prog w = .ok (decide (p = q)) w := fun p q w => by
    rw [run_equalIn_string w d 9 p q Tryz.underlying9, str_beq]
  by_cases h1 : a1 = b1 <;> by_cases h2 : a2 = b2 <;> by_cases h3 : a3 = b3 <;> by_cases h4 : a4 = b4 <;> by_cases h5 : a5 = b5 <;> simp [Op.eqFields, part, Sem.run_bind, run_isAgg, encPlan, eq_int Tryz.underlying3, hs, h1, h2, h3, h4, h5]
instance : EqI Tryz.prog 24 Plan encPlan := ⟨fun a b w => eq_plan a b 9998 w, by kernel_rfl⟩
end Go.Proofs.YtihgpbpcbbgdiaaGreat

/- In which order fields are joined changes nothing, where all joins can be. -/
namespace Go.Proofs.YtihgpbpcbbgdiaaGreat
open Go.RowKit Go.Sort
set_option linter.unusedVariables false
set_option linter.unusedSimpArgs false
/-- R has all that is in these lists, each of its latest state -/
structure Sup (xs : List (List Hold)) (R : List Hold) : Prop where
  right : hRights R = true
  from_ : ∀ h ∈ R, ∃ x ∈ xs, h ∈ x
  top : ∀ h ∈ R, ∀ x ∈ xs, ∀ g ∈ x, hKey g = hKey h → g.amount = h.amount ∧ g.due = h.due ∧ g.state ≤ h.state
  all : ∀ x ∈ xs, ∀ g ∈ x, ∃ h ∈ R, hKey h = hKey g
theorem key_eq {l : List Hold} (h : (l.map hKey).Nodup) {a b : Hold} (ha : a ∈ l) (hb : b ∈ l) (hk : hKey a = hKey b) : a = b := by
  induction l with
  | nil => exact absurd ha List.not_mem_nil
  | cons x l ih =>
    rw [List.map_cons, List.nodup_cons] at h
    rcases List.mem_cons.1 ha with rfl | ha'
    · rcases List.mem_cons.1 hb with rfl | hb'
      · rfl
      · exact absurd (List.mem_map.2 ⟨b, hb', hk.symm⟩) h.1
    · rcases List.mem_cons.1 hb with rfl | hb'
      · exact absurd (List.mem_map.2 ⟨a, ha', hk⟩) h.1
      · exact ih h.2 ha' hb'
theorem Sup.one {a : List Hold} (h : hRights a = true) : Sup [a] a where
  right := h
  from_ := fun x hx => ⟨a, List.mem_singleton.2 rfl, hx⟩
  top := fun x hx y hy g hg hk => by
    obtain rfl := List.mem_singleton.1 hy
    obtain rfl := key_eq (hRights_nodup h) hg hx hk
    exact ⟨rfl, rfl, Int.le_refl _⟩
  all := fun y hy g hg => by
    obtain rfl := List.mem_singleton.1 hy
    exact ⟨g, hg, rfl⟩
theorem hold_ext {a b : Hold} (hk : hKey a = hKey b) (h1 : a.amount = b.amount) (h2 : a.due = b.due) (h3 : a.state = b.state) : a = b := by
  cases a; cases b; simp_all [hKey]
theorem Sup.step {xs : List (List Hold)} {R b : List Hold} (h : Sup xs R) (hj : (hJoin R b).2 = 0) : Sup (xs ++ [b]) (hJoin R b).1 := by
  obtain ⟨hR, hb, hok, _, _⟩ := hJoin_ok hj
  have ok : ∀ z ∈ b, ∀ y ∈ R, hKey y = hKey z → y.amount = z.amount ∧ y.due = z.due := fun z hz y hy hk => by
    have := List.all_eq_true.1 hok z hz
    unfold okJ at this
    exact of_decide_eq_true (List.all_eq_true.1 this y hy) hk
  have nb := hRights_nodup hb
  have nR := hRights_nodup hR
  have mm := fun x => mem_join hj (x := x)
  refine ⟨join_rights hj, fun x hx => ?_, fun x hx y hy g hg hk => ?_, fun y hy g hg => ?_⟩
  · rcases (mm x).1 hx with ⟨h1, _⟩ | ⟨h1, _⟩ | ⟨y, hy, z, hz, hk, rfl⟩
    · obtain ⟨w, hw, hx⟩ := h.from_ x h1
      exact ⟨w, List.mem_append_left _ hw, hx⟩
    · exact ⟨b, List.mem_append_right _ (List.mem_singleton.2 rfl), h1⟩
    · by_cases hs : y.state ≤ z.state
      · refine ⟨b, List.mem_append_right _ (List.mem_singleton.2 rfl), ?_⟩
        have := ok z hz y hy hk.symm
        have e : ({ y with state := max y.state z.state } : Hold) = z := hold_ext (by show hKey y = _; exact hk.symm) this.1 this.2 (by show max _ _ = _; omega)
        rw [e]; exact hz
      · obtain ⟨w, hw, hx⟩ := h.from_ y hy
        refine ⟨w, List.mem_append_left _ hw, ?_⟩
        have e : ({ y with state := max y.state z.state } : Hold) = y := hold_ext rfl rfl rfl (by show max _ _ = _; omega)
        rw [e]; exact hx
  · rcases List.mem_append.1 hy with hy | hy
    · rcases (mm x).1 hx with ⟨h1, _⟩ | ⟨h1, h2⟩ | ⟨u, hu, z, hz, hkz, rfl⟩
      · exact h.top x h1 y hy g hg hk
      · obtain ⟨w, hw, hkw⟩ := h.all y hy g hg
        exact absurd (hkw.trans hk) (h2 w hw)
      · have := h.top u hu y hy g hg hk
        exact ⟨this.1, this.2.1, by show _ ≤ max _ _; omega⟩
    · obtain rfl := List.mem_singleton.1 hy
      rcases (mm x).1 hx with ⟨h1, h2⟩ | ⟨h1, h2⟩ | ⟨u, hu, z, hz, hkz, rfl⟩
      · exact absurd hk (h2 g hg)
      · obtain rfl := key_eq nb hg h1 hk
        exact ⟨rfl, rfl, Int.le_refl _⟩
      · have e : g = z := key_eq nb hg hz (hk.trans hkz.symm)
        subst e
        have := ok g hz u hu hkz.symm
        exact ⟨this.1.symm, this.2.symm, by show _ ≤ max _ _; omega⟩
  · rcases List.mem_append.1 hy with hy | hy
    · obtain ⟨w, hw, hkw⟩ := h.all y hy g hg
      by_cases hc : ∃ z ∈ b, hKey z = hKey w
      · obtain ⟨z, hz, hkz⟩ := hc
        exact ⟨{ w with state := max w.state z.state }, (mm _).2 (.inr (.inr ⟨w, hw, z, hz, hkz, rfl⟩)), hkw⟩
      · exact ⟨w, (mm _).2 (.inl ⟨hw, fun z hz e => hc ⟨z, hz, e⟩⟩), hkw⟩
    · obtain rfl := List.mem_singleton.1 hy
      by_cases hc : ∃ u ∈ R, hKey u = hKey g
      · obtain ⟨u, hu, hku⟩ := hc
        exact ⟨{ u with state := max u.state g.state }, (mm _).2 (.inr (.inr ⟨u, hu, g, hg, hku.symm, rfl⟩)), hku⟩
      · exact ⟨g, (mm _).2 (.inr (.inl ⟨hg, fun u hu e => hc ⟨u, hu, e⟩⟩)), rfl⟩
theorem Sup.uniq {xs ys : List (List Hold)} {R R' : List Hold} (h : Sup xs R) (h' : Sup ys R') (hm : ∀ x, x ∈ xs ↔ x ∈ ys) : R = R' := by
  have half : ∀ {xs ys : List (List Hold)} {R R' : List Hold}, Sup xs R → Sup ys R' → (∀ x, x ∈ xs ↔ x ∈ ys) → ∀ g, g ∈ R → g ∈ R' := fun h h' hm g hg => by
    obtain ⟨x, hx, hgx⟩ := h.from_ g hg
    obtain ⟨u, hu, hk⟩ := h'.all x ((hm x).1 hx) g hgx
    obtain ⟨y, hy, huy⟩ := h'.from_ u hu
    have t1 := h'.top u hu x ((hm x).1 hx) g hgx hk.symm
    have t2 := h.top g hg y ((hm y).2 hy) u huy hk
    rw [hold_ext hk.symm t1.1 t1.2.1 (by omega)]; exact hu
  exact hRights_ext h.right h'.right fun g => ⟨half h h' hm g, half h' h (fun x => (hm x).symm) g⟩
/-! joins one behind another -/
def joinAll (f : Field) : List Field → Option Field
  | [] => some f
  | g :: gs => if (fJoin f g).2 ≠ 0 then none else joinAll (fJoin f g).1 gs
theorem fJoin_ok {f g : Field} (h : (fJoin f g).2 = 0) : f.name = g.name ∧ f.kind = g.kind ∧ f.epoch = g.epoch ∧ (cJoin f.counter g.counter).2 = 0 ∧ (hJoin f.holds g.holds).2 = 0 ∧
    (fJoin f g).1 = { f with counter := (cJoin f.counter g.counter).1, lock := lJoin f.lock g.lock, holds := (hJoin f.holds g.holds).1 } := by
  unfold fJoin at *
  split at h
  · simp at h
  · rename_i c1
    rw [if_neg c1]
    split at h
    · rename_i c2; exact absurd h c2
    · rename_i c2
      rw [if_neg c2]
      split at h
      · rename_i c3; exact absurd h c3
      · rename_i c3; rw [if_neg c3]
        refine ⟨?_, ?_, ?_, Decidable.not_not.1 c2, Decidable.not_not.1 c3, rfl⟩
        · exact Decidable.not_not.1 fun e => c1 (.inl e)
        · exact Decidable.not_not.1 fun e => c1 (.inr (.inl e))
        · exact Decidable.not_not.1 fun e => c1 (.inr (.inr e))
theorem cJoin_ok {a b : Counter} (h : (cJoin a b).2 = 0) : (cJoin a b).1 = { a with down := rJoin a.down b.down, up := rJoin a.up b.up } := by
  unfold cJoin at *
  split at h
  · rename_i c; rw [if_pos c]
  · simp at h
def cJ (a b : Counter) : Counter := { a with down := rJoin a.down b.down, up := rJoin a.up b.up }
theorem joinAll_is {f x : Field} : ∀ {gs : List Field}, joinAll f gs = some x → x.name = f.name ∧ x.kind = f.kind ∧ x.epoch = f.epoch ∧ x.counter = (gs.map (·.counter)).foldl cJ f.counter ∧ x.lock = (gs.map (·.lock)).foldl lJoin f.lock
  | [], h => by cases h; exact ⟨rfl, rfl, rfl, rfl, rfl⟩
  | g :: gs, h => by
    unfold joinAll at h
    split at h
    · cases h
    · rename_i c
      obtain ⟨h1, h2, h3, h4, h5, e⟩ := fJoin_ok (Decidable.not_not.1 c)
      obtain ⟨i1, i2, i3, i4, i5⟩ := joinAll_is h
      rw [e] at i1 i2 i3 i4 i5
      refine ⟨i1, i2, i3, ?_, i5⟩
      rw [i4]
      show List.foldl cJ (cJoin f.counter g.counter).1 _ = List.foldl cJ (cJ f.counter g.counter) _
      rw [cJoin_ok h4]; rfl
theorem joinAll_sup {x : Field} : ∀ {gs : List Field} {f : Field} {xs : List (List Hold)}, Sup xs f.holds → joinAll f gs = some x → Sup (xs ++ gs.map (·.holds)) x.holds
  | [], f, xs, hs, h => by cases h; simpa using hs
  | g :: gs, f, xs, hs, h => by
    unfold joinAll at h
    split at h
    · cases h
    · rename_i c
      obtain ⟨h1, h2, h3, h4, h5, e⟩ := fJoin_ok (Decidable.not_not.1 c)
      have := joinAll_sup (xs := xs ++ [g.holds]) (f := (fJoin f g).1) (by rw [e]; exact hs.step h5) h
      simpa using this
theorem joinAll_right {f x : Field} : ∀ {gs : List Field}, gs ≠ [] → joinAll f gs = some x → hRights f.holds = true
  | [], h, _ => absurd rfl h
  | g :: gs, _, h => by
    unfold joinAll at h
    split at h
    · cases h
    · rename_i c
      obtain ⟨h1, h2, h3, h4, h5, e⟩ := fJoin_ok (Decidable.not_not.1 c)
      exact (hJoin_ok h5).1
/-! what commutes -/
theorem vJoin_rc (a x y : Vec) : vJoin (vJoin a x) y = vJoin (vJoin a y) x := by
  unfold vJoin; ext i hi; simp; omega
theorem rJoin_rc (a x y : Rights) : rJoin (rJoin a x) y = rJoin (rJoin a y) x := by
  unfold rJoin
  have : Vector.zipWith vJoin (Vector.zipWith vJoin a.moved x.moved) y.moved = Vector.zipWith vJoin (Vector.zipWith vJoin a.moved y.moved) x.moved := by
    apply Vector.ext; intro i hi
    simp only [Vector.getElem_zipWith]
    exact vJoin_rc _ _ _
  simp only [this, vJoin_rc a.given x.given y.given, vJoin_rc a.used x.used y.used]
theorem cJ_rc (a x y : Counter) : cJ (cJ a x) y = cJ (cJ a y) x := by
  unfold cJ
  simp only [rJoin_rc a.down x.down y.down, rJoin_rc a.up x.up y.up]
theorem lCmp_lt {a b : Lock} : lCmp a b < 0 ↔ a.seq < b.seq ∨ a.seq = b.seq ∧ (a.ver < b.ver ∨ a.ver = b.ver ∧ (a.holder < b.holder ∨ a.holder = b.holder ∧ a.value < b.value)) := by
  unfold lCmp
  repeat' split
  all_goals (constructor <;> intro h <;> omega)
theorem lock_ext {a b : Lock} (h1 : a.seq = b.seq) (h2 : a.ver = b.ver) (h3 : a.holder = b.holder) (h4 : a.value = b.value) : a = b := by
  cases a; cases b; simp_all
theorem lJoin_rc (a x y : Lock) : lJoin (lJoin a x) y = lJoin (lJoin a y) x := by
  unfold lJoin
  repeat' split
  all_goals simp only [lCmp_lt] at *
  all_goals first | rfl | (exfalso; omega) | (apply lock_ext <;> omega)
theorem foldl_rc {α β : Type} {g : β → α → β} (h : ∀ a x y, g (g a x) y = g (g a y) x) {xs ys : List α} (hp : xs.Perm ys) : ∀ a, xs.foldl g a = ys.foldl g a := by
  induction hp with
  | nil => intro a; rfl
  | cons x _ ih => intro a; exact ih _
  | swap x y l => intro a; show List.foldl g (g (g a y) x) l = List.foldl g (g (g a x) y) l; rw [h]
  | trans _ _ ih1 ih2 => intro a; exact (ih1 a).trans (ih2 a)
theorem joinAll_perm {f x y : Field} {gs hs : List Field} (hp : gs.Perm hs) (h0 : gs ≠ []) (hx : joinAll f gs = some x) (hy : joinAll f hs = some y) : x = y := by
  obtain ⟨a1, a2, a3, a4, a5⟩ := joinAll_is hx
  obtain ⟨b1, b2, b3, b4, b5⟩ := joinAll_is hy
  have hr := joinAll_right h0 hx
  have s1 := joinAll_sup (Sup.one hr) hx
  have s2 := joinAll_sup (Sup.one hr) hy
  have e := s1.uniq s2 fun z => by simp only [List.mem_append, (hp.map (·.holds)).mem_iff]
  have e4 : x.counter = y.counter := by rw [a4, b4]; exact foldl_rc cJ_rc (hp.map _) _
  have e5 : x.lock = y.lock := by rw [a5, b5]; exact foldl_rc lJoin_rc (hp.map _) _
  have e1 := a1.trans b1.symm
  have e2 := a2.trans b2.symm
  have e3 := a3.trans b3.symm
  cases x; cases y
  simp_all
end Go.Proofs.YtihgpbpcbbgdiaaGreat

/- What field.Name and field.Counter tell. -/
namespace Go.Proofs.YtihgpbpcbbgdiaaGreat
open Go.RowKit
set_option linter.unusedVariables false
set_option linter.unusedSimpArgs false
section
variable {cx : Cx} {Q : Post} {E : Env} {M : Mem} {L : List Ent} {ops : Array Oper} {d T : Nat} {pos : String} {af : Array Edge} {rest : List Oper} {x y z : Operand} {v u : Value}
theorem yixs {t : Nat} {s : ByteArray} {k : IntKind} {i : Int} {b : UInt8} (hu : cx.P.underlying t = some .string) (hx : ev E x = some (.string s)) (hy : ev E y = some (.int k i)) (h0 : 0 ≤ i) (hb : s[i.toNat]? = some b) : Y cx ⟨some d, .index t x y, T, pos, af, none⟩ E M L (.int .u8 b.toNat) := fun a w hs ho => by
  simp only [execOp, hs.ev hx, hs.ev hy, Instr.index, asIntOf, Sem.run_bind, Sem.run_pure, run_underlying hu, Result.andThen_ok, h0, if_true, hb]
theorem jixs {t : Nat} {s : ByteArray} {k : IntKind} {i : Int} {b : UInt8} (hn : Nat.blt d cx.n = true) (hu : cx.P.underlying t = some .string) (hx : ev E x = some (.string s)) (hy : ev E y = some (.int k i)) (h0 : 0 ≤ i) (hb : s[i.toNat]? = some b) (hk : J cx ops Q rest ((d, .int .u8 b.toNat) :: E) M L) :
    J cx ops Q (⟨some d, .index t x y, T, pos, af, none⟩ :: rest) E M L := j_y hn (yixs hu hx hy h0 hb) hk
end
theorem fillF {s : ByteArray} {c : Counter} : Instr.fill ([(0, 1), (1, 1), (2, 1), (3, 579), (582, 4), (586, 1)].toArray[·]?) (encF fZ none 0).toArray [(0, .string s), (1, vi 1), (3, .agg (encCounter c).toArray)] = some (encF { fZ with name := s, kind := 1, counter := c } none 0).toArray :=
  fill_put (c := [.string s]) rfl rfl rfl (by rw [len_F]; decide) (X' := encF { fZ with name := s } none 0) rfl <|
  fill_put (c := [vi 1]) rfl rfl rfl (by rw [len_F]; decide) (X' := encF { fZ with name := s, kind := 1 } none 0) rfl <|
  fill_put (c := encCounter c) rfl rfl (len_counter _) (by rw [len_F]; decide) (X' := encF { fZ with name := s, kind := 1, counter := c } none 0) (uF_counter _ _ _ _) fill_end
@[irreducible] def bAt (s : ByteArray) (i : Nat) : UInt8 := s.data.getD i 0
theorem bAt_get {s : ByteArray} {i : Nat} (h : i < s.size) : s[i]? = some (bAt s i) := by
  have h1 : s[i]? = some s[i] := by rw [getElem?_pos s i h]
  rw [h1]; unfold bAt
  congr 1
  have h2 : i < s.data.size := h
  rw [Array.getD, dif_pos h2]; rfl
def okB (s : ByteArray) (i : Nat) : Bool := decide (33 ≤ ((bAt s i).toNat : Int)) && decide (((bAt s i).toNat : Int) ≤ 126)
def nameOk (s : ByteArray) : Bool := (List.range s.size).all (okB s) && decide (1 ≤ s.size) && decide (s.size ≤ 8)

theorem field_Name (s : ByteArray) (hs : s.size ≤ 100000) (M : Mem) : Ctr Tryz.prog 61 [.string s] M [] (fun r _ _ => r = .bool (nameOk s)) := by
  refine ctr Tryz.func61 rfl Tryz.ntmps61 rfl fun w => ?_
  refine c_seq <| c_region <| ja rfl rfl <| j_nil <| p_thn <| c_seq <| c_seq <| c_region <| jm rfl rfl <| jslen rfl rfl Tryz.underlying9 <| jm rfl rfl <| j_nil <| p_thn <| c_block <| c_lp (X := Nat) (fun k => k ≤ s.size ∧ (List.range k).all (okB s) = true) (fun k => s.size - k) (fun k => [(6, vi (k : Int))]) [5, 0] 0 ?_ (sub_c rfl <| sub_c rfl <| sub_c rfl <| sub_n) ?_
  · exact ⟨Nat.zero_le _, rfl⟩
  · intro k hI
    obtain ⟨hk, hall⟩ := hI
    refine c_seq <| c_region <| jlss rfl rfl rfl <| j_nil <| p_thn <| c_seq <| c_cond rfl (fun hb1 => ?_) (fun hb1 => ?_)
    · have phb1 := hb1; try simp at phb1
      refine c_skip <| p_thn <| c_seq <| c_block <| c_seq <| c_region <| jm rfl rfl <| ja rfl rfl <| j_nil <| p_thn <| c_seq <| c_region <| jm rfl rfl <| jm rfl rfl <| jixs rfl Tryz.underlying9 rfl rfl (by omega) (bAt_get (i := k) (by omega)) <| jlss rfl rfl rfl <| jm rfl rfl <| jgs rfl rfl (fun hb2 => ?_) (fun hb2 => ?_)
      · have phb2 := hb2; try simp at phb2
        refine jg_off rfl rfl rfl hb2 <| jg_off rfl rfl rfl hb2 <| jg_off rfl rfl rfl hb2 <| jg_off rfl rfl rfl hb2 <| jpick_t rfl rfl hb2 rfl <| j_nil <| p_thn <| c_cond_kt rfl rfl <| c_seq <| c_region <| ja rfl rfl <| j_nil <| p_thn <| c_ret <| p_inb_ret <| p_thn_ret <| p_lp_ret <| p_inb_ret <| p_thn_ret <| ?_
        refine p_ret0 rfl rfl (.tmp rfl <| .nil) ?_
        show Value.bool _ = _
        congr 1; symm
        unfold nameOk
        rw [range_not (k := k) (by omega) (by simp [okB] <;> omega), Bool.false_and, Bool.false_and]
      · have phb2 := hb2; try simp at phb2
        refine jg rfl rfl hb2 <| jm rfl rfl <| jg rfl rfl hb2 <| jm rfl rfl <| jg rfl rfl hb2 <| jixs rfl Tryz.underlying9 rfl rfl (by omega) (bAt_get (i := k) (by omega)) <| jg rfl rfl hb2 <| jgtr rfl rfl rfl <| jpick_f rfl rfl hb2 rfl <| j_nil <| p_thn <| c_cond rfl (fun hb3 => ?_) (fun hb3 => ?_)
        · have phb3 := hb3; try simp at phb3
          refine c_seq <| c_region <| ja rfl rfl <| j_nil <| p_thn <| c_ret <| p_inb_ret <| p_thn_ret <| p_lp_ret <| p_inb_ret <| p_thn_ret <| ?_
          refine p_ret0 rfl rfl (.tmp rfl <| .nil) ?_
          show Value.bool _ = _
          congr 1; symm
          unfold nameOk
          rw [range_not (k := k) (by omega) (by simp [okB] <;> omega), Bool.false_and, Bool.false_and]
        · have phb3 := hb3; try simp at phb3
          refine c_skip <| p_inb <| p_thn <| c_region <| jadd rfl rfl rfl (by first | exact wr (by omega) (by omega) | rfl) <| jm rfl rfl <| j_nil <| ?_
          refine p_lp (k + 1) ?_ ?_ (sub_c rfl <| sub_c rfl <| sub_c rfl <| sub_n) rfl rfl
          · exact ⟨by omega, range_all hall (by simp [okB, *])⟩
          · omega
    · have phb1 := hb1; try simp at phb1
      refine c_exit <| p_thn_exit <| p_lp_exit <| p_inb_exit <| p_thn <| c_seq <| c_region <| jm rfl rfl <| jslen rfl rfl Tryz.underlying9 <| jgeq rfl rfl rfl <| jm rfl rfl <| jgs rfl rfl (fun hb4 => ?_) (fun hb4 => ?_)
      · have phb4 := hb4; try simp at phb4
        refine jg rfl rfl hb4 <| jm rfl rfl <| jg rfl rfl hb4 <| jslen rfl rfl Tryz.underlying9 <| jg rfl rfl hb4 <| jleq rfl rfl rfl <| jpick_t rfl rfl hb4 rfl <| ja rfl rfl <| j_nil <| p_thn <| c_ret <| ?_
        refine p_ret0 rfl rfl (.tmp rfl <| .nil) ?_
        show Value.bool _ = _
        congr 1; symm
        obtain rfl : k = s.size := by omega
        unfold nameOk
        rw [hall, Bool.true_and, decide_eq_true (show 1 ≤ s.size by omega), Bool.true_and]
        exact decide_eq_decide.2 (by omega)
      · have phb4 := hb4; try simp at phb4
        refine jg_off rfl rfl rfl hb4 <| jg_off rfl rfl rfl hb4 <| jg_off rfl rfl rfl hb4 <| jpick_f rfl rfl hb4 rfl <| ja rfl rfl <| j_nil <| p_thn <| c_ret <| ?_
        refine p_ret0 rfl rfl (.tmp rfl <| .nil) ?_
        show Value.bool _ = _
        congr 1; symm
        obtain rfl : k = s.size := by omega
        unfold nameOk
        rw [hall]; simp <;> omega
def fCounter (s : ByteArray) (i l h : Int) : Field × Int := fDone { fZ with name := s, kind := 1, counter := (cNew i l h).1 } (if nameOk s then (cNew i l h).2 else 1)
attribute [local irreducible] fDone nameOk

theorem field_Counter (s : ByteArray) (hs : s.size ≤ 100000) (i l h : Int) (M : Mem) : Ctr Tryz.prog 22 [.string s, vi i, vi l, vi h] M [] (fun v M' _ => FV M' v (fCounter s i l h)) := by
  refine ctr Tryz.func22 rfl Tryz.ntmps22 rfl fun w => ?_
  refine c_seq <| c_region <| jalloc rfl fun B1 => ja rfl rfl <| j_nil <| p_thn <| c_seq <| c_region <| jm rfl rfl <| jm rfl rfl <| jm rfl rfl <| jcallv rfl rfl rfl (counter_New _ _ _ _) <| jm rfl rfl <| jext rfl rfl rfl <| jext rfl rfl rfl <| jalloc rfl fun B2 => jstw 0 rfl rfl rfl rfl (len_counter _) (one_counter _) (len_counter _) <| ja rfl rfl <| j_nil <| p_thn <| c_seq <| c_seq <| c_region <| jm rfl rfl <| jcallv rfl rfl rfl (field_Name _ hs _) <| jnot rfl rfl <| j_nil <| p_thn <| c_cond rfl (fun hb3 => ?_) (fun hb3 => ?_)
  · have phb3 := hb3; try simp at phb3
    refine c_region <| ja rfl rfl <| j_nil <| p_thn <| c_seq <| c_region <| jm rfl rfl <| jldw 0 rfl rfl rfl (len_counter _) <| jbu (zc := encF fZ none 0) rfl rfl fillF <| jm rfl rfl <| jcalls rfl rfl rfl (field_done { fZ with name := s, kind := 1, counter := (cNew i l h).1 } _ _ (Nat.zero_le _) _ _ SlR.nil) fun A1c cap1c M1c hM1c hS1c => jext rfl rfl rfl <| jext rfl rfl rfl <| jstw 1 rfl rfl rfl rfl (len_F _ _ _) (one_F _ _ _) (len_F _ _ _) <| ja rfl rfl <| j_nil <| p_thn <| c_ret <| ?_
    refine p_ret0 rfl rfl (.agg 1 inferInstance rfl rfl (len_F _ _ _) <| .tmp rfl <| .nil) ?_
    unfold fCounter
    rw [if_neg (by simp [*])]
    exact ⟨A1c, cap1c, hS1c, rfl⟩
  · have phb3 := hb3; try simp at phb3
    refine c_skip <| p_thn <| c_seq <| c_region <| jm rfl rfl <| jldw 0 rfl rfl rfl (len_counter _) <| jbu (zc := encF fZ none 0) rfl rfl fillF <| jm rfl rfl <| jcalls rfl rfl rfl (field_done { fZ with name := s, kind := 1, counter := (cNew i l h).1 } _ _ (Nat.zero_le _) _ _ SlR.nil) fun A2c cap2c M2c hM2c hS2c => jext rfl rfl rfl <| jext rfl rfl rfl <| jstw 1 rfl rfl rfl rfl (len_F _ _ _) (one_F _ _ _) (len_F _ _ _) <| ja rfl rfl <| j_nil <| p_thn <| c_ret <| ?_
    refine p_ret0 rfl rfl (.agg 1 inferInstance rfl rfl (len_F _ _ _) <| .tmp rfl <| .nil) ?_
    unfold fCounter
    rw [if_pos (by simp [*])]
    exact ⟨A2c, cap2c, hS2c, rfl⟩
end Go.Proofs.YtihgpbpcbbgdiaaGreat

/- field.Right, of any kind. -/
namespace Go.Proofs.YtihgpbpcbbgdiaaGreat
open Go.RowKit
set_option linter.unusedVariables false
set_option linter.unusedSimpArgs false
def fRight (f : Field) : Bool := nameOk f.name && decide (0 ≤ f.epoch) && isN f.epoch &&
  (if f.kind = 1 then cRight f.counter && hRights f.holds && decide (f.lock = lZ) else if f.kind = 2 then lRight f.lock && decide (f.holds.length = 0) && decide (f.counter = cZ) else false)
attribute [local irreducible] nameOk hRights

theorem field_Right (f : Field) (A : Option Addr) (cap : Nat) (hl : f.holds.length ≤ 10000) (hs : f.name.size ≤ 100000) (M : Mem) (hS : SlR rHold M A cap f.holds) : Ctr Tryz.prog 64 [.agg (encF f A cap).toArray] M [] (fun v _ _ => v = .bool (fRight f)) := by
  refine ctr Tryz.func64 rfl Tryz.ntmps64 rfl fun w => ?_
  refine c_seq <| c_region <| jbox rfl rfl rfl fun B1 => ja rfl rfl <| j_nil <| p_thn <| c_seq <| c_seq <| c_region <| jfa rfl rfl rfl <| jld1 0 rfl rfl rfl rfl <| jcallv rfl rfl rfl (field_Name _ hs _) <| jnot rfl rfl <| jm rfl rfl <| jgs rfl rfl (fun hb2 => ?_) (fun hb2 => ?_)
  · have phb2 := hb2; try simp at phb2
    refine jg_off rfl rfl rfl hb2 <| jg_off rfl rfl rfl hb2 <| jg_off rfl rfl rfl hb2 <| jpick_t rfl rfl hb2 rfl <| jm rfl rfl <| jg_off rfl rfl rfl rfl <| jg_off rfl rfl rfl rfl <| jg_off rfl rfl rfl rfl <| jg_off rfl rfl rfl rfl <| jpick_t rfl rfl rfl rfl <| j_nil <| p_thn <| c_cond_kt rfl rfl <| c_seq <| c_region <| ja rfl rfl <| j_nil <| p_thn <| c_ret <| p_thn_ret <| ?_
    refine p_ret0 rfl rfl (.tmp rfl <| .nil) ?_
    show Value.bool _ = _
    congr 1; symm
    simp [fRight, *]
  · have phb2 := hb2; try simp at phb2
    refine jg rfl rfl hb2 <| jfa rfl rfl rfl <| jg rfl rfl hb2 <| jld1 0 rfl rfl rfl rfl <| jg rfl rfl hb2 <| jlss rfl rfl rfl <| jpick_f rfl rfl hb2 rfl <| jm rfl rfl <| jgs rfl rfl (fun hb3 => ?_) (fun hb3 => ?_)
    · have phb3 := hb3; try simp at phb3
      refine jg_off rfl rfl rfl hb3 <| jg_off rfl rfl rfl hb3 <| jg_off rfl rfl rfl hb3 <| jg_off rfl rfl rfl hb3 <| jpick_t rfl rfl hb3 rfl <| j_nil <| p_thn <| c_cond_kt rfl rfl <| c_seq <| c_region <| ja rfl rfl <| j_nil <| p_thn <| c_ret <| p_thn_ret <| ?_
      refine p_ret0 rfl rfl (.tmp rfl <| .nil) ?_
      show Value.bool _ = _
      congr 1; symm
      simp [fRight, show ¬ 0 ≤ f.epoch by omega]
    · have phb3 := hb3; try simp at phb3
      refine jg rfl rfl hb3 <| jfa rfl rfl rfl <| jg rfl rfl hb3 <| jld1 0 rfl rfl rfl rfl <| jg rfl rfl hb3 <| jcallv rfl rfl rfl (num_Is _ _) <| jg rfl rfl hb3 <| jnot rfl rfl <| jpick_f rfl rfl hb3 rfl <| j_nil <| p_thn <| c_cond rfl (fun hb4 => ?_) (fun hb4 => ?_)
      · have phb4 := hb4; try simp at phb4
        refine c_seq <| c_region <| ja rfl rfl <| j_nil <| p_thn <| c_ret <| p_thn_ret <| ?_
        refine p_ret0 rfl rfl (.tmp rfl <| .nil) ?_
        show Value.bool _ = _
        congr 1; symm
        simp [fRight, *]
      · have phb4 := hb4; try simp at phb4
        refine c_skip <| p_thn <| c_seq <| c_seq <| c_region <| jfa rfl rfl rfl <| jld1 0 rfl rfl rfl rfl <| j_nil <| p_thn <| c_block <| c_seq <| c_region <| jeql rfl rfl rfl <| ja rfl rfl <| j_nil <| p_thn <| c_cond rfl (fun hb5 => ?_) (fun hb5 => ?_)
        · have phb5 := hb5; try simp at phb5
          refine c_seq <| c_region <| jfa rfl rfl rfl <| jld 0 rfl rfl rfl (pF_counter _ _ _) (len_counter _) <| jcallv rfl rfl rfl (counter_Right _ _) <| jm rfl rfl <| jgs rfl rfl (fun hb6 => ?_) (fun hb6 => ?_)
          · have phb6 := hb6; try simp at phb6
            refine jg rfl rfl hb6 <| jfa rfl rfl rfl <| jg rfl rfl hb6 <| jld1 0 rfl rfl rfl (pF_holds _ _ _) <| jg rfl rfl hb6 <| jcallv rfl rfl rfl (hold_Rights _ _ _ (by omega) _ hS) <| jpick_t rfl rfl hb6 rfl <| jm rfl rfl <| jgs rfl rfl (fun hb7 => ?_) (fun hb7 => ?_)
            · have phb7 := hb7; try simp at phb7
              refine jg rfl rfl hb7 <| jfa rfl rfl rfl <| jg rfl rfl hb7 <| jld 0 rfl rfl rfl (pF_lock _ _ _) (len_lock _) <| jg rfl rfl hb7 <| jbu0 rfl <| jg rfl rfl hb7 <| jeqf rfl rfl rfl <| jpick_t rfl rfl hb7 rfl <| ja rfl rfl <| j_nil <| p_thn <| c_ret <| p_inb_ret <| p_thn_ret <| ?_
              refine p_ret0 rfl rfl (.tmp rfl <| .nil) ?_
              show Value.bool _ = _
              congr 1; symm
              simp [fRight, *]
            · have phb7 := hb7; try simp at phb7
              refine jg_off rfl rfl rfl hb7 <| jg_off rfl rfl rfl hb7 <| jg_off rfl rfl rfl hb7 <| jg_off rfl rfl rfl hb7 <| jpick_f rfl rfl hb7 rfl <| ja rfl rfl <| j_nil <| p_thn <| c_ret <| p_inb_ret <| p_thn_ret <| ?_
              refine p_ret0 rfl rfl (.tmp rfl <| .nil) ?_
              show Value.bool _ = _
              congr 1; symm
              simp [fRight, *]
          · have phb6 := hb6; try simp at phb6
            refine jg_off rfl rfl rfl hb6 <| jg_off rfl rfl rfl hb6 <| jg_off rfl rfl rfl hb6 <| jpick_f rfl rfl hb6 rfl <| jm rfl rfl <| jg_off rfl rfl rfl rfl <| jg_off rfl rfl rfl rfl <| jg_off rfl rfl rfl rfl <| jg_off rfl rfl rfl rfl <| jpick_f rfl rfl rfl rfl <| ja rfl rfl <| j_nil <| p_thn <| c_ret <| p_inb_ret <| p_thn_ret <| ?_
            refine p_ret0 rfl rfl (.tmp rfl <| .nil) ?_
            show Value.bool _ = _
            congr 1; symm
            simp [fRight, *]
        · have phb5 := hb5; try simp at phb5
          refine c_seq <| c_region <| jeql rfl rfl rfl <| ja rfl rfl <| j_nil <| p_thn <| c_cond rfl (fun hb8 => ?_) (fun hb8 => ?_)
          · have phb8 := hb8; try simp at phb8
            refine c_seq <| c_region <| jfa rfl rfl rfl <| jld 0 rfl rfl rfl (pF_lock _ _ _) (len_lock _) <| jcallv rfl rfl rfl (lock_Right _ _) <| jm rfl rfl <| jgs rfl rfl (fun hb9 => ?_) (fun hb9 => ?_)
            · have phb9 := hb9; try simp at phb9
              refine jg rfl rfl hb9 <| jfa rfl rfl rfl <| jg rfl rfl hb9 <| jld1 0 rfl rfl rfl (pF_holds _ _ _) <| jg rfl rfl hb9 <| jlen rfl rfl <| jg rfl rfl hb9 <| jeql rfl rfl rfl <| jpick_t rfl rfl hb9 rfl <| jm rfl rfl <| jgs rfl rfl (fun hb10 => ?_) (fun hb10 => ?_)
              · have phb10 := hb10; try simp at phb10
                refine jg rfl rfl hb10 <| jfa rfl rfl rfl <| jg rfl rfl hb10 <| jld 0 rfl rfl rfl (pF_counter _ _ _) (len_counter _) <| jg rfl rfl hb10 <| jbu0 rfl <| jg rfl rfl hb10 <| jeqf rfl rfl rfl <| jpick_t rfl rfl hb10 rfl <| ja rfl rfl <| j_nil <| p_thn <| c_ret <| p_inb_ret <| p_thn_ret <| ?_
                refine p_ret0 rfl rfl (.tmp rfl <| .nil) ?_
                show Value.bool _ = _
                congr 1; symm
                simp [fRight, *]
              · have phb10 := hb10; try simp at phb10
                refine jg_off rfl rfl rfl hb10 <| jg_off rfl rfl rfl hb10 <| jg_off rfl rfl rfl hb10 <| jg_off rfl rfl rfl hb10 <| jpick_f rfl rfl hb10 rfl <| ja rfl rfl <| j_nil <| p_thn <| c_ret <| p_inb_ret <| p_thn_ret <| ?_
                refine p_ret0 rfl rfl (.tmp rfl <| .nil) ?_
                show Value.bool _ = _
                congr 1; symm
                simp [fRight, *]
            · have phb9 := hb9; try simp at phb9
              refine jg_off rfl rfl rfl hb9 <| jg_off rfl rfl rfl hb9 <| jg_off rfl rfl rfl hb9 <| jg_off rfl rfl rfl hb9 <| jpick_f rfl rfl hb9 rfl <| jm rfl rfl <| jg_off rfl rfl rfl rfl <| jg_off rfl rfl rfl rfl <| jg_off rfl rfl rfl rfl <| jg_off rfl rfl rfl rfl <| jpick_f rfl rfl rfl rfl <| ja rfl rfl <| j_nil <| p_thn <| c_ret <| p_inb_ret <| p_thn_ret <| ?_
              refine p_ret0 rfl rfl (.tmp rfl <| .nil) ?_
              show Value.bool _ = _
              congr 1; symm
              simp [fRight, *]
          · have phb8 := hb8; try simp at phb8
            refine c_skip <| p_inb <| p_thn <| c_seq <| c_region <| ja rfl rfl <| j_nil <| p_thn <| c_ret <| ?_
            refine p_ret0 rfl rfl (.tmp rfl <| .nil) ?_
            show Value.bool _ = _
            congr 1; symm
            simp [fRight, *]
end Go.Proofs.YtihgpbpcbbgdiaaGreat

/- Keys that are integers; maps written out; a bounded loop's odds and ends. -/
namespace Go.Proofs.YtihgpbpcbbgdiaaGreat
open Go.RowKit
set_option linter.unusedVariables false
set_option linter.unusedSimpArgs false
theorem findNow_int (k : Int) : ∀ (es : List MapEntry) (m : List (Int × Value)) (i : Nat), es.map (fun e => (e.key, e.val)) = m.map (fun p => (Value.int .i64 p.1, p.2)) →
    Instr.findNow (.int .i64) (.int .i64 k) es i = some ((m.findIdx? fun p => decide (p.1 = k)).bind fun j => (m[j]?).map fun p => (i + j, p.2))
  | [], [], i, _ => rfl
  | [], p :: m, i, h => by cases h
  | e :: es, [], i, h => by cases h
  | e :: es, p :: m, i, h => by
    simp only [List.map_cons, List.cons.injEq, Prod.mk.injEq] at h
    obtain ⟨⟨h1, h2⟩, h3⟩ := h
    unfold Instr.findNow
    rw [h1]
    have hs : Instr.sameNow (.int .i64) (.int .i64 k) (.int .i64 p.1) = some (k == p.1) := rfl
    rw [hs, List.findIdx?_cons]
    by_cases hk : p.1 = k
    · simp [hk, h2]
    · have : (k == p.1) = false := by simpa using fun e => hk e.symm
      rw [this]
      simp only [hk, decide_false, Bool.false_eq_true, if_false]
      rw [findNow_int k es m (i + 1) h3]
      cases m.findIdx? (fun p => decide (p.1 = k)) with
      | none => rfl
      | some j => simp [Nat.add_assoc, Nat.add_comm 1 j]
theorem KeyI.int {P : Program} {t : Nat} (ht : P.underlying t = some (.int .i64)) : KeyI P t Int (fun n => .int .i64 n) where
  check := fun b k w => check_leaf ht b 9999 w
  find := fun k es m h w => by
    unfold Instr.findKey
    rw [Sem.run_bind, run_underlying ht, Result.andThen_ok, findNow_int k es m 0 h]
    simp
section
variable {cx : Cx} {Q : Post} {E : Env} {M : Mem} {L : List Ent} {ops : Array Oper} {d T : Nat} {pos : String} {af : Array Edge} {rest : List Oper} {x y z : Operand} {v u : Value}
theorem jins {κ : Type} [DecidableEq κ] {enc : κ → Value} {t kt et B : Nat} {m : List (κ × Value)} {k : κ} (i : Nat) [K : KeyI cx.P kt κ enc] (hu : cx.P.underlying t = some (.map kt et)) (hx : ev E x = some (.map (some B))) (hy : ev E y = some (enc k)) (hz : ev E z = some v)
    (hL : L[i]? = some (.mp B (encMap enc m))) (hnew : ∀ p ∈ m, p.1 ≠ k) (hk : J cx ops Q rest E M (L.set i (.mp B (encMap enc (m ++ [(k, v)]))))) : J cx ops Q (⟨none, .insert t x y z, T, pos, af, none⟩ :: rest) E M L :=
  j_skip (M' := M) (L' := L.set i (.mp B (encMap enc (m ++ [(k, v)])))) (fun a w hs ho => by
    obtain ⟨es, clock, h1, h2⟩ := ho.at' hL
    refine ⟨{ w with heap := w.heap.setIfInBounds B (.map (es.push { key := enc k, val := v, born := clock }) (clock + 1)) }, ?_, ho.putObj hL rfl rfl _ ⟨es.push { key := enc k, val := v, born := clock }, clock + 1, ?_, ?_⟩⟩
    · have hf := K.find k es.toList m h2 w
      have hn : (m.findIdx? fun p => decide (p.1 = k)) = none := by
        rw [List.findIdx?_eq_none_iff]; intro p hp; simp [hnew p hp]
      rw [hn] at hf
      have hg : (getObj B).run cx.P w = .ok (.map es clock) w := by simp [getObj, Sem.run, h1]
      have hset : (setObj B (.map (es.push { key := enc k, val := v, born := clock }) (clock + 1))).run cx.P w = .ok () { w with heap := w.heap.setIfInBounds B (.map (es.push { key := enc k, val := v, born := clock }) (clock + 1)) } := by simp [setObj, Sem.run, h1]
      simp only [execOp, hs.ev hx, hs.ev hy, hs.ev hz, Instr.mapUpdate, Sem.run_bind, run_underlying hu, Result.andThen_ok, hg, K.check, hf, Option.bind_none, hset]
      rfl
    · have hlt := (Array.getElem?_eq_some_iff.1 h1).1
      simp [hlt]
    · simp [h2]; simp [encMap]) hk
end
end Go.Proofs.YtihgpbpcbbgdiaaGreat
