/- Several texts in one. -/
import Derived.Test.YtihgpbpcbbgdiaaGreatOrd14
import Derived.Test.YtihgpbpcbbgdiaaGreatOrd22
import Derived.Test.YtihgpbpcbbgdiaaGreatOrd15
import Derived.Test.YtihgpbpcbbgdiaaGreatOrd25
/- Names in order; fields sorted by their names. -/
namespace Go.Proofs.YtihgpbpcbbgdiaaGreat
open Go.RowKit Go.Sort
set_option linter.unusedVariables false
set_option linter.unusedSimpArgs false
theorem bl_irrefl : ∀ x : List UInt8, Op.bytesLess x x = false
  | [] => rfl
  | a :: x => by simp [Op.bytesLess, bl_irrefl x]
theorem bl_trans : ∀ {x y z : List UInt8}, Op.bytesLess x y = true → Op.bytesLess y z = true → Op.bytesLess x z = true
  | _, [], _, h, _ => by cases ‹List UInt8› <;> simp [Op.bytesLess] at h
  | _, _ :: _, [], _, h => by simp [Op.bytesLess] at h
  | [], _ :: _, _ :: _, _, _ => rfl
  | a :: x, b :: y, c :: z, h, h' => by
    simp only [Op.bytesLess, Bool.or_eq_true, decide_eq_true_eq, Bool.and_eq_true, beq_iff_eq] at *
    rcases h with h | ⟨rfl, h⟩ <;> rcases h' with h' | ⟨rfl, h'⟩
    · exact .inl (UInt8.lt_trans h h')
    · exact .inl h
    · exact .inl h'
    · exact .inr ⟨rfl, bl_trans h h'⟩
theorem bl_tri : ∀ {x y : List UInt8}, Op.bytesLess x y = false → Op.bytesLess y x = false → x = y
  | [], [], _, _ => rfl
  | [], _ :: _, h, _ => by simp [Op.bytesLess] at h
  | _ :: _, [], _, h => by simp [Op.bytesLess] at h
  | a :: x, b :: y, h, h' => by
    simp only [Op.bytesLess, Bool.or_eq_false_iff, decide_eq_false_iff_not, Bool.and_eq_false_iff, beq_eq_false_iff_ne] at *
    have e : a = b := UInt8.le_antisymm (UInt8.not_lt.1 h'.1) (UInt8.not_lt.1 h.1)
    subst e
    rw [bl_tri (h.2.resolve_left (fun q => q rfl)) (h'.2.resolve_left (fun q => q rfl))]
theorem toList_inj {p q : ByteArray} (h : p.toList = q.toList) : p = q := by
  have := str_beq p q
  rw [h] at this; simpa using this.symm
def nLess (a b : Field) : Bool := Op.bytesLess a.name.toList b.name.toList
theorem nLess_irrefl (a : Field) : nLess a a = false := bl_irrefl _
theorem nLess_trans {a b c : Field} (h : nLess a b = true) (h' : nLess b c = true) : nLess a c = true := bl_trans h h'
theorem nLess_tri {a b : Field} (h : nLess a b = false) (h' : nLess b a = false) : a.name = b.name := toList_inj (bl_tri h h')
theorem nLess_name {a b : Field} (h : nLess a b = true) : a.name ≠ b.name := fun e => by unfold nLess at h; rw [e, bl_irrefl] at h; cases h
theorem nLess_asymm {a b : Field} (h : nLess a b = true) : nLess b a = false := by
  cases h' : nLess b a with
  | false => rfl
  | true => have := nLess_trans h h'; rw [nLess_irrefl] at this; cases this
def nIns (f : Field) : List Field → List Field
  | [] => [f]
  | g :: l => if nLess f g then f :: g :: l else g :: nIns f l
def nSort (l : List Field) : List Field := l.foldr nIns []
theorem nIns_perm (f : Field) : ∀ l : List Field, (nIns f l).Perm (f :: l)
  | [] => .refl _
  | g :: l => by
    unfold nIns; split
    · exact .refl _
    · exact ((nIns_perm f l).cons g).trans (.swap ..)
theorem nSort_perm : ∀ l : List Field, (nSort l).Perm l
  | [] => .refl _
  | f :: l => (nIns_perm f _).trans ((nSort_perm l).cons f)
theorem nIns_sorted {f : Field} : ∀ {l : List Field}, l.Pairwise (fun a b => nLess b a = false) → (nIns f l).Pairwise (fun a b => nLess b a = false)
  | [], _ => List.pairwise_singleton _ _
  | g :: l, h => by
    rw [List.pairwise_cons] at h
    unfold nIns; split
    · rename_i hc
      refine List.pairwise_cons.2 ⟨fun x hx => ?_, List.pairwise_cons.2 h⟩
      rcases List.mem_cons.1 hx with rfl | hx
      · exact nLess_asymm hc
      · cases hx2 : nLess x f with
        | false => rfl
        | true => have := nLess_trans hx2 hc; rw [h.1 x hx] at this; cases this
    · rename_i hc
      refine List.pairwise_cons.2 ⟨fun x hx => ?_, nIns_sorted h.2⟩
      rcases List.mem_cons.1 ((nIns_perm f l).mem_iff.1 hx) with rfl | hx
      · simpa using hc
      · exact h.1 x hx
theorem nSort_sorted : ∀ l : List Field, (nSort l).Pairwise (fun a b => nLess b a = false)
  | [] => .nil
  | f :: l => nIns_sorted (nSort_sorted l)
theorem nSort_uniq {l ys : List Field} (hn : (l.map (·.name)).Nodup) (hp : ys.Perm l) (hs : ys.Pairwise (fun a b => nLess b a = false)) : ys = nSort l := by
  have key : ∀ zs : List Field, zs.Perm l → zs.Pairwise (fun a b => nLess b a = false) → zs.Pairwise (fun a b => nLess a b = true) := fun zs hz hq => by
    have h1 : (zs.map (·.name)).Nodup := (hz.map _).nodup_iff.2 hn
    unfold List.Nodup at h1
    rw [List.pairwise_map] at h1
    refine (h1.and hq).imp (fun {a b} h => ?_)
    cases e : nLess a b with
    | true => rfl
    | false => exact absurd (nLess_tri e h.2) h.1
  refine (hp.trans (nSort_perm l).symm).eq_of_pairwise (le := fun a b => nLess a b = true) (fun a b _ _ h1 h2 => ?_) (key _ hp hs) (key _ (nSort_perm l) (nSort_sorted l))
  rw [nLess_asymm h1] at h2; cases h2
/-! the sort's own order -/
instance : Inhabited FS := ⟨sZ⟩
def nmCmp (a b : FS) : Int := if nLess a.f b.f then -1 else 1
theorem nmCmp_lt {a b : FS} : ltOf nmCmp a b = nLess a.f b.f := by
  unfold ltOf nmCmp; split <;> simp_all
theorem nmCmp_swo : SWO (ltOf nmCmp) where
  irrefl := fun x => by rw [nmCmp_lt]; exact nLess_irrefl _
  trans := fun x y z h h' => by rw [nmCmp_lt] at *; exact nLess_trans h h'
  ntrans := fun x y z h h' => by
    rw [nmCmp_lt] at *
    cases hc : nLess x.f z.f with
    | false => rfl
    | true =>
      cases hb : nLess y.f x.f with
      | true => rw [nLess_trans hb hc] at h'; cases h'
      | false =>
        have e := nLess_tri h hb
        have : nLess y.f z.f = true := by unfold nLess at *; rw [← e]; exact hc
        rw [this] at h'; cases h'
theorem pdq_nSort {ts : List FS} (hn : ((ts.map FS.f).map (·.name)).Nodup) : (pdqL nmCmp ts).map FS.f = nSort (ts.map FS.f) := by
  refine nSort_uniq hn ((pdqL_perm nmCmp_swo ts).map _) ?_
  have := pdqL_sorted nmCmp_swo ts
  rw [List.pairwise_map]
  exact this.imp (fun {a b} h => by rw [nmCmp_lt] at h; exact h)
end Go.Proofs.YtihgpbpcbbgdiaaGreat

/- plan.Apply. -/
namespace Go.Proofs.YtihgpbpcbbgdiaaGreat
open Go.RowKit
set_option linter.unusedVariables false
set_option linter.unusedSimpArgs false
/-- a field of a known slice, read at once -/
theorem SlR.fld {M : Mem} {A : Option Addr} {cap : Nat} {xs : List Field} {i : Nat} (h : SlR rField M A cap xs) (hi : i < xs.length) :
    ∃ Af capf, SlR rHold M Af capf (ix fZ xs i).holds ∧ ∃ b o, A = some ⟨b, o, none⟩ ∧ ∀ j u, (encF (ix fZ xs i) Af capf)[j]? = some u → M ⟨b, o + (i * 587 + j), none⟩ = some u := by
  obtain ⟨b, o, c, h1, ⟨Af, capf, rfl, h2⟩, h3⟩ := h.el i _ (ix_get (z := fZ) hi)
  exact ⟨Af, capf, h2, b, o, h1, h3⟩
section
variable {cx : Cx} {Q : Post} {E : Env} {M : Mem} {L : List Ent} {ops : Array Oper} {d T : Nat} {pos : String} {af : Array Edge} {rest : List Oper} {x y z : Operand} {v u : Value}
theorem ylF {t i : Nat} {A Af : Option Addr} {capf : Nat} {f : Field} [TyI cx.P t true 587] (hx : ev E x = some (.pointer (eptr A (i * 587)))) (hc : ∃ b o, A = some ⟨b, o, none⟩ ∧ ∀ j u, (encF f Af capf)[j]? = some u → M ⟨b, o + (i * 587 + j), none⟩ = some u) :
    Y cx ⟨some d, .load t x, T, pos, af, none⟩ E M L (.agg (encF f Af capf).toArray) := by
  obtain ⟨b, o, rfl, hc⟩ := hc
  exact ylm (b := b) (o := o + i * 587) hx (fun j v hj => by rw [Nat.add_assoc]; exact hc j v hj) (len_F _ _ _)
end
def plFld (l : List Field) (p : Plan) : Field := ix fZ l (plFind l p.name).toNat
def plOth (l : List Field) (p : Plan) : Field := if 0 ≤ plFind l p.other then ix fZ l (plFind l p.other).toNat else fZ
def plRest (l : List Field) (p : Plan) : List Field := l.filter fun f => !touched p f.name
def plOut (l : List Field) (p : Plan) : List Field := (plChange (plFld l p) (plOth l p) p).1 ++ plRest l p
def plErr (l : List Field) (p : Plan) : Int := if plFits l p ≠ 0 then plFits l p else (plChange (plFld l p) (plOth l p) p).2
def plApply (l : List Field) (p : Plan) : List Field × Int := if plErr l p ≠ 0 then ([], plErr l p) else (nSort (plOut l p), 0)
theorem plFields_less {l : List Field} (h : plFields l = true) : l.Pairwise (fun a b => nLess a b = true) := by
  unfold plFields at h
  rw [Bool.and_eq_true] at h
  have hall : ∀ j, j < l.length → fsOk l j = true := fun j hj => List.all_eq_true.1 h.1 j (List.mem_range.2 hj)
  rw [List.pairwise_iff_getElem]
  intro i j
  induction j with
  | zero => intro hi hj hij; omega
  | succ j ih =>
    intro hi hj hij
    have h1 := hall (j + 1) hj
    unfold fsOk at h1
    rw [Bool.and_eq_true] at h1
    have h2 : nLess l[j] l[j + 1] = true := by
      have := h1.2
      rw [decide_eq_false (by omega), Bool.false_or, Nat.add_sub_cancel, ix_eq (show j < l.length by omega), ix_eq hj] at this
      exact this
    rcases Nat.lt_succ_iff_lt_or_eq.1 hij with h3 | rfl
    · exact nLess_trans (ih hi (by omega) h3) h2
    · exact h2
theorem plFields_nodup {l : List Field} (h : plFields l = true) : (l.map (·.name)).Nodup := by
  unfold List.Nodup
  rw [List.pairwise_map]
  exact (plFields_less h).imp (fun {a b} hab => nLess_name hab)
theorem plFields_right {l : List Field} (h : plFields l = true) : ∀ f ∈ l, fRight f = true := by
  unfold plFields at h
  rw [Bool.and_eq_true] at h
  intro f hf
  obtain ⟨i, hi, rfl⟩ := List.getElem_of_mem hf
  have h1 := List.all_eq_true.1 h.1 i (List.mem_range.2 hi)
  unfold fsOk at h1
  rw [Bool.and_eq_true, ix_eq hi] at h1
  exact h1.1
theorem plMade_name {s : ByteArray} {ep v lo hi : Int} (h : (plMade s ep v lo hi).2 = 0) : (plMade s ep v lo hi).1.name = s := by
  unfold plMade at *
  split at h
  · rename_i c; rw [if_pos c]
    split at h
    · simp at h
    · rename_i c2; rw [if_neg c2]
  · simp at h
structure PlOk (l : List Field) (p : Plan) : Prop where
  fields : plFields l = true
  right : plRight p = true
  found : 0 ≤ plFind l p.name
  other : p.kind = 6 → 0 ≤ plFind l p.other
  split_ : p.kind = 5 → plFind l p.other < 0 ∧ l.length ≠ 4
  kind : (plTouched l p).any (fun f => decide (f.kind ≠ if p.kind = 4 then 2 else 1)) = false
  held : (plTouched l p).any (fun f => f.holds.any isHeld) = false
theorem plFits_ok {l : List Field} {p : Plan} (h : plFits l p = 0) : PlOk l p := by
  unfold plFits at h
  generalize hK : (if p.kind = 4 then (2 : Int) else 1) = K at h
  split at h
  · simp at h
  rename_i h1; split at h
  · simp at h
  rename_i h2; split at h
  · simp at h
  rename_i h3; split at h
  · simp at h
  rename_i h4; split at h
  · simp at h
  rename_i h5; split at h
  · simp at h
  rename_i h6; split at h
  · simp at h
  rename_i h7
  have h3 : (plNames p).all (fun s => decide (0 ≤ plFind l s)) = true := by simpa using h3
  have hf : 0 ≤ plFind l p.name := by
    have := List.all_eq_true.1 h3 p.name (by unfold plNames; split <;> simp)
    simpa using this
  refine ⟨by simpa using h1, by simpa using h2, hf, fun hk => ?_, fun hk => ⟨by omega, by omega⟩, by rw [hK]; exact Bool.eq_false_iff.2 h6, Bool.eq_false_iff.2 h7⟩
  have := List.all_eq_true.1 h3 p.other (by unfold plNames; rw [if_pos hk]; simp)
  simpa using this
theorem plFind_name {l : List Field} {s : ByteArray} (h : 0 ≤ plFind l s) : (ix fZ l (plFind l s).toNat).name = s := by
  unfold plFind lFind at *
  cases e : l.findIdx? (fun f => decide (f.name = s)) with
  | none => rw [e] at h; simp at h
  | some i =>
    obtain ⟨h1, h2, _⟩ := List.findIdx?_eq_some_iff_getElem.1 e
    simp only [Int.toNat_natCast]
    rw [ix_eq h1]; simpa using h2
theorem plFind_none {l : List Field} {s : ByteArray} (h : plFind l s < 0) : ∀ f ∈ l, f.name ≠ s := by
  unfold plFind lFind at h
  cases e : l.findIdx? (fun f => decide (f.name = s)) with
  | none => rw [List.findIdx?_eq_none_iff] at e; intro f hf; simpa using e f hf
  | some i => rw [e] at h; simp at h; omega
theorem plFld_name {l : List Field} {p : Plan} (h : PlOk l p) : (plFld l p).name = p.name := plFind_name h.found
theorem plRight_other {p : Plan} (h : plRight p = true) (hk : p.kind = 5) : p.other ≠ p.name := by
  unfold plRight ruleB at h
  simp only [Bool.and_eq_true] at h
  have := h.2
  rw [if_neg (by omega), if_neg (by omega), if_neg (by omega), if_pos hk] at this
  simp [rOther] at this
  exact this.1.1.2
theorem plChange_names {l : List Field} {p : Plan} (h : PlOk l p) (he : (plChange (plFld l p) (plOth l p) p).2 = 0) : (plChange (plFld l p) (plOth l p) p).1.map (·.name) = if p.kind = 5 then [p.name, p.other] else [p.name] := by
  have hn := plFld_name h
  unfold plChange at *
  split at he
  · simp at he
  rename_i c0; rw [if_neg c0]
  split at he
  · rename_i c; rw [if_pos c, if_neg (by omega)]; show [(plMade _ _ _ _ _).1.name] = _; rw [plMade_name he, hn]
  rename_i c1; rw [if_neg c1]
  split at he
  · rename_i c; rw [if_pos c, if_neg (by omega)]; show [(plMade _ _ _ _ _).1.name] = _; rw [plMade_name he, hn]
  rename_i c2; rw [if_neg c2]
  split at he
  · rename_i c; rw [if_pos c, if_neg (by omega)]; show [(plMade _ _ _ _ _).1.name] = _; rw [plMade_name he, hn]
  rename_i c4; rw [if_neg c4]
  split at he
  · rename_i c; rw [if_pos c, if_neg (by omega)]; show [(plMade _ _ _ _ _).1.name] = _; rw [plMade_name he, hn]
  rename_i c6; rw [if_neg c6]
  split at he
  · rename_i c
    rw [if_pos c, if_pos c]
    split at he
    · rename_i c7; exact absurd he c7
    · rename_i c7
      rw [if_neg c7]
      show [(plMade _ _ _ _ _).1.name, (plMade _ _ _ _ _).1.name] = _
      rw [plMade_name he, plMade_name (Decidable.not_not.1 c7), hn]
  rename_i c5; rw [if_neg c5]
  split at he
  · simp at he
  · rename_i c7; rw [if_neg c7, if_neg c5]; simp [hn]
theorem plOut_nodup {l : List Field} {p : Plan} (he : plErr l p = 0) : ((plOut l p).map (·.name)).Nodup := by
  unfold plErr at he
  split at he
  · rename_i c; exact absurd he c
  rename_i c
  have h := plFits_ok (by omega : plFits l p = 0)
  unfold plOut
  rw [List.map_append, plChange_names h he, List.nodup_append]
  have hrest : ∀ s ∈ (plRest l p).map (·.name), s ≠ p.name ∧ (s = p.other → p.other = nil_) ∧ s ∈ l.map (·.name) := fun s hs => by
    obtain ⟨f, hf, rfl⟩ := List.mem_map.1 hs
    unfold plRest at hf
    rw [List.mem_filter] at hf
    have := hf.2
    simp only [touched, Bool.not_eq_true', Bool.or_eq_false_iff, decide_eq_false_iff_not, Bool.and_eq_false_iff, ne_eq, Decidable.not_not] at this
    refine ⟨this.1, fun e => ?_, List.mem_map_of_mem hf.1⟩
    rcases this.2 with h2 | h2
    · exact h2
    · exact absurd e h2
  refine ⟨?_, List.Nodup.sublist (List.Sublist.map _ List.filter_sublist) (plFields_nodup h.fields), ?_⟩
  · split
    · rename_i hk; have := plRight_other h.right hk; simp; exact fun e => this e.symm
    · simp
  · intro a ha b hb e
    subst e
    have hr := hrest a hb
    split at ha
    · rename_i hk
      rcases List.mem_cons.1 ha with rfl | ha
      · exact hr.1 rfl
      · rw [List.mem_singleton] at ha
        obtain ⟨f, hf, e⟩ := List.mem_map.1 hr.2.2
        exact plFind_none (h.split_ hk).1 f hf (e.trans ha)
    · rw [List.mem_singleton] at ha; exact hr.1 ha
theorem sort_Field (ts : List FS) {v : Value} {T n : Nat} {c : List Value} (M : Mem) (hl : ts.length ≤ 100000) (hn : n = ts.length) (hc : c = ts.flatMap encS)
    (hcmp : ∀ M x y, Ctr Tryz.prog 95 [.agg (encS x).toArray, .agg (encS y).toArray] M [] (fun v _ _ => v = .int .i64 (nmCmp x y))) :
    Ctr Tryz.prog 94 [v, .func (.func 95) #[] #[]] M [.row v T 587 n c] (fun r _ L' => r = .tuple #[] ∧ L' = [.row v T 587 n ((pdqL nmCmp ts).flatMap encS)]) :=
  haveI : TyI Tryz.prog (Tryz.laysSortField_ren.t 24) true 587 := inferInstanceAs (TyI Tryz.prog 49 true 587)
  ctr_sort (ρ := Tryz.laysSortField_ren) Tryz.laysSortField len_S one_S nmCmp_swo (g := 95) hcmp ts M hl hn hc
attribute [local irreducible] plChange plFits plFind

theorem plan_Apply1 (x y : FS) (M : Mem) : Ctr Tryz.prog 95 [.agg (encS x).toArray, .agg (encS y).toArray] M [] (fun v _ _ => v = vi (nmCmp x y)) := by
  refine ctr Tryz.func95 rfl Tryz.ntmps95 rfl fun w => ?_
  refine c_seq <| c_region <| jbox rfl rfl rfl fun B1 => jbox rfl rfl rfl fun B2 => ja rfl rfl <| j_nil <| p_thn <| c_seq <| c_seq <| c_region <| jfa rfl rfl rfl <| jld1 1 rfl rfl rfl rfl <| jfa rfl rfl rfl <| jld1 0 rfl rfl rfl rfl <| jslss rfl rfl rfl <| j_nil <| p_thn <| c_cond rfl (fun hb3 => ?_) (fun hb3 => ?_)
  · have phb3 := hb3; try simp at phb3
    refine c_seq <| c_region <| ja rfl rfl <| j_nil <| p_thn <| c_ret <| p_thn_ret <| ?_
    refine p_ret0 rfl rfl (.tmp rfl <| .nil) ?_
    show vi _ = vi _
    unfold nmCmp nLess
    simp [*]
  · have phb3 := hb3; try simp at phb3
    refine c_skip <| p_thn <| c_seq <| c_region <| ja rfl rfl <| j_nil <| p_thn <| c_ret <| ?_
    refine p_ret0 rfl rfl (.tmp rfl <| .nil) ?_
    show vi _ = vi _
    unfold nmCmp nLess
    simp [*]
theorem pdq_len (ts : List FS) : (pdqL nmCmp ts).length = ts.length := (pdqL_perm nmCmp_swo ts).length_eq
theorem FSk.bare {M : Mem} {fs : List Field} (h : ∀ f ∈ fs, f.holds = []) : FSk M (fs.map bare) := fun s hs => by
  obtain ⟨f, hf, rfl⟩ := List.mem_map.1 hs
  show SlR rHold M none 0 f.holds
  rw [h f hf]; exact SlR.nil
theorem plMade_holds (s : ByteArray) (ep v lo hi : Int) : (plMade s ep v lo hi).1.holds = [] := by
  unfold plMade; split
  · split <;> rfl
  · rfl
section
attribute [local semireducible] plChange
theorem plChange_holds (f g : Field) (p : Plan) : ∀ x ∈ (plChange f g p).1, x.holds = [] := by
  unfold plChange
  repeat' split
  all_goals simp [plMade_holds, fZ]
theorem plChange_len (f g : Field) (p : Plan) : (plChange f g p).1.length ≤ 2 := by
  unfold plChange
  repeat' split
  all_goals simp
end
theorem rest_take {l : List Field} {p : Plan} {k : Nat} (h : k < l.length) : (l.take (k + 1)).filter (fun f => !touched p f.name) = (l.take k).filter (fun f => !touched p f.name) ++ (if touched p (ix fZ l k).name then [] else [ix fZ l k]) := by
  rw [List.take_add_one, ix_get (z := fZ) h, List.filter_append]
  congr 1
  cases e : touched p (ix fZ l k).name <;> simp [e]
attribute [local irreducible] plRest plErr

theorem plan_Apply (l : List Field) (A : Option Addr) (cap : Nat) (hf : FsOk l) (p : Plan) (hs1 : p.name.size ≤ 100000) (hs2 : p.other.size ≤ 100000) (M : Mem) (hS : SlR rField M A cap l) : Ctr Tryz.prog 47 [.slice A l.length cap, .agg (encPlan p).toArray] M [] (fun v M' L' => ∃ ys, ys.map FS.f = (plApply l p).1 ∧ FSk M' ys ∧ ∃ u : Value, v = .tuple #[u, vi (plApply l p).2] ∧ L' = [.row u 49 587 ys.length (ys.flatMap encS)]) := by
  have hl := hf.1
  refine ctr Tryz.func47 rfl Tryz.ntmps47 rfl fun w => ?_
  refine c_seq <| c_region <| jbox rfl rfl rfl fun B1 => ja rfl rfl <| ja rfl rfl <| j_nil <| p_thn <| c_seq <| c_seq <| c_region <| jm rfl rfl <| jldw 0 rfl rfl rfl (len_plan _) <| jcallv rfl rfl rfl (plan_Fits _ _ _ hf _ hs1 hs2 _ hS) <| ja rfl rfl <| j_nil <| p_thn <| c_seq <| c_region <| jm rfl rfl <| jneq rfl rfl rfl <| j_nil <| p_thn <| c_cond rfl (fun hb2 => ?_) (fun hb2 => ?_)
  · have phb2 := hb2; try simp at phb2
    refine c_seq <| c_region <| jm rfl rfl <| ja rfl rfl <| ja rfl rfl <| j_nil <| p_thn <| c_ret <| p_thn_ret <| ?_
    refine jp_nilrow none 49 587 <| ?_
    refine p_retK (ap_s <| ap_0) rfl rfl (.tmp rfl <| .tmp rfl <| .nil) ?_
    have hp : plErr l p = plFits l p := by unfold plErr; rw [if_pos phb2]
    have e : plApply l p = ([], plFits l p) := by unfold plApply; rw [hp, if_pos phb2]
    rw [e]; exact ⟨[], rfl, FSk.nil, _, rfl, rfl⟩
  · have phb2 := hb2; try simp at phb2
    have hOk := plFits_ok phb2
    refine c_skip <| p_thn <| c_seq <| c_region <| jm rfl rfl <| jfa rfl rfl rfl <| jld1 0 rfl rfl rfl rfl <| jcallv rfl rfl rfl (plan_Find _ _ _ hf _ _ hS) <| jm rfl rfl <| jext rfl rfl rfl <| jext rfl rfl rfl <| ja rfl rfl <| ja rfl rfl <| j_nil <| p_thn <| c_seq <| c_region <| jalloc rfl fun B3 => j_nil <| p_thn <| c_seq <| c_seq <| c_region <| jm rfl rfl <| jfa rfl rfl rfl <| jld1 1 rfl rfl rfl rfl <| jcallv rfl rfl rfl (plan_Find _ _ _ hf _ _ hS) <| jm rfl rfl <| jext rfl rfl rfl <| jext rfl rfl rfl <| ja rfl rfl <| ja rfl rfl <| j_nil <| p_thn <| c_seq <| c_region <| jm rfl rfl <| j_nil <| p_thn <| c_cond rfl (fun hb4 => ?_) (fun hb4 => ?_)
    · have phb4 := hb4; try simp at phb4
      refine c_region <| jm rfl rfl <| ?_
      obtain ⟨n2, hn2⟩ : ∃ n : Nat, plFind l p.other = n := ⟨_, (Int.toNat_of_nonneg (by simpa using hb4)).symm⟩
      have hl2 : n2 < l.length := by { have := plFind_lt (l := l) (s := p.other) (by omega); rw [hn2] at this; simpa using this }
      rw [hn2, show max (n2 : Int) 0 = n2 by omega]
      refine jm rfl rfl <| ji rfl rfl rfl (by omega) (by omega) (hS.adr (i := n2) (by omega)) <| jle rfl hS (ix_get (z := fZ) (i := n2) (by omega)) rfl rfl fun c40 hc40 => ?_
      obtain ⟨Af40, capf40, rfl, hH40⟩ := hc40
      refine jstw 0 rfl rfl rfl rfl (len_F _ _ _) (one_F _ _ _) (len_F _ _ _) <| j_nil <| p_thn <| c_seq <| c_draw [2, 3, 4, 5] (by kernel_rfl) <| jd_z (i := 0) rfl rfl (by kernel_rfl) (by kernel_rfl) (by kernel_rfl) (by kernel_rfl) rfl (zm rfl) <| jd_z (i := 1) rfl rfl (by kernel_rfl) (by kernel_rfl) (by kernel_rfl) (by kernel_rfl) rfl (zm rfl) <| ?_
      obtain ⟨n1, hn1⟩ : ∃ n : Nat, plFind l p.name = n := ⟨_, (Int.toNat_of_nonneg hOk.found).symm⟩
      have hl1 : n1 < l.length := by { have := plFind_lt hOk.found; rw [hn1] at this; simpa using this }
      rw [hn1, show max (n1 : Int) 0 = n1 by omega]
      refine jd_first (i := 2) rfl rfl (by kernel_rfl) (by kernel_rfl) (by kernel_rfl) (by kernel_rfl) (by kernel_rfl) rfl (fun _ h => h) (yi rfl rfl (by omega) (by omega) (hS.adr (i := n1) (by omega))) <| ?_
      obtain ⟨Af45, capf45, hH45, hc45⟩ := hS.fld (i := n1) (by omega)
      refine jd_first (i := 3) rfl rfl (by kernel_rfl) (by kernel_rfl) (by kernel_rfl) (by kernel_rfl) (by kernel_rfl) rfl (fun _ h => h) (ylF rfl hc45) <| jd_first (i := 4) rfl rfl (by kernel_rfl) (by kernel_rfl) (by kernel_rfl) (by kernel_rfl) (by kernel_rfl) rfl (fun _ h => h) (yldw 0 rfl rfl (len_F _ _ _)) <| jd_first (i := 5) rfl rfl (by kernel_rfl) (by kernel_rfl) (by kernel_rfl) (by kernel_rfl) (by kernel_rfl) rfl (fun _ h => h) (yldw 1 rfl rfl (len_plan _)) <| jd_one (i := 6) (by kernel_rfl) rfl <| jcallx rfl rfl rfl ap_0 (plan_change _ _ _ _ _ _ _ _) (fun _ => ap_s <| ap_0) fun vB5 _ => j_nil <| p_jd rfl (.inl (by kernel_rfl)) <| jd_z (i := 7) rfl rfl (by kernel_rfl) (by kernel_rfl) (by kernel_rfl) (by kernel_rfl) rfl (zm rfl) <| jd_z (i := 8) rfl rfl (by kernel_rfl) (by kernel_rfl) (by kernel_rfl) (by kernel_rfl) rfl (zext rfl rfl) <| jd_z (i := 9) rfl rfl (by kernel_rfl) (by kernel_rfl) (by kernel_rfl) (by kernel_rfl) rfl (zext rfl rfl) <| jd_z (i := 10) rfl rfl (by kernel_rfl) (by kernel_rfl) (by kernel_rfl) (by kernel_rfl) rfl (za rfl) <| jd_z (i := 11) rfl rfl (by kernel_rfl) (by kernel_rfl) (by kernel_rfl) (by kernel_rfl) rfl (za rfl) <| jd_done (by kernel_rfl) <| p_thn <| c_seq <| c_seq <| c_region <| jm rfl rfl <| jneq rfl rfl rfl <| j_nil <| p_thn <| c_cond rfl (fun hb6 => ?_) (fun hb6 => ?_)
      · have phb6 := hb6; try simp at phb6
        have hF : plFld l p = ix fZ l n1 := by unfold plFld; rw [hn1]; simp
        have hO : plOth l p = ix fZ l n2 := by unfold plOth; rw [hn2, if_pos (by omega)]; simp
        refine c_seq <| c_region <| jm rfl rfl <| ja rfl rfl <| ja rfl rfl <| j_nil <| p_thn <| c_ret <| p_thn_ret <| ?_
        refine jp_nilrow none 49 587 <| ?_
        refine p_retK (ap_s <| ap_0) rfl rfl (.tmp rfl <| .tmp rfl <| .nil) ?_
        have hp : plErr l p = (plChange (ix fZ l n1) (ix fZ l n2) p).2 := by unfold plErr; rw [if_neg (fun h => h phb2), hF, hO]
        have e : plApply l p = ([], (plChange (ix fZ l n1) (ix fZ l n2) p).2) := by unfold plApply; rw [hp, if_pos phb6]
        rw [e]; exact ⟨[], rfl, FSk.nil, _, rfl, rfl⟩
      · have phb6 := hb6; try simp at phb6
        have hF : plFld l p = ix fZ l n1 := by unfold plFld; rw [hn1]; simp
        have hO : plOth l p = ix fZ l n2 := by unfold plOth; rw [hn2, if_pos (by omega)]; simp
        refine c_skip <| p_thn <| c_seq <| c_seq <| c_region <| jm rfl rfl <| jlen rfl rfl <| jm rfl rfl <| j_nil <| p_thn <| c_block <| c_lpML (X := Nat × Mem × List FS × Value) (fun q => q.1 ≤ l.length ∧ MLe M q.2.1 ∧ FSk q.2.1 q.2.2.1 ∧ q.2.2.1.map FS.f = (plChange (ix fZ l n1) (ix fZ l n2) p).1 ++ (l.take q.1).filter (fun f => !touched p f.name)) (fun q => l.length - q.1) (fun q => [(56, vi (q.1 : Int)), (12, q.2.2.2)]) [55, 54, 5, 4, 3] (fun q => q.2.1) (fun q => [.row q.2.2.2 49 587 q.2.2.1.length (q.2.2.1.flatMap encS), .blk B3 49 (encF (ix fZ l n2) Af40 capf40), .blk B1 24 (encPlan p)]) (0, M, (plChange (ix fZ l n1) (ix fZ l n2) p).1.map bare, vB5) ?_ (sub_c rfl <| sub_c rfl <| sub_c rfl <| sub_c rfl <| sub_c rfl <| sub_c rfl <| sub_c rfl <| sub_n) rfl (by simp) ?_
        · exact ⟨Nat.zero_le _, MLe.refl _, FSk.bare (plChange_holds _ _ _), by simp [Function.comp_def]⟩
        · intro q hI
          obtain ⟨k, M1, ts, u⟩ := q
          dsimp only at hI ⊢
          obtain ⟨hk, hm, hfk, hts⟩ := hI
          have htl : ts.length ≤ k + 2 := by { have q1 := congrArg List.length hts; have q2 := plChange_len (ix fZ l n1) (ix fZ l n2) p; have q3 := List.length_filter_le (fun f => !touched p f.name) (l.take k); simp at q1 q3; omega }
          have hS := hS.mono hm
          refine c_seq <| c_region <| jlss rfl rfl rfl <| j_nil <| p_thn <| c_seq <| c_cond rfl (fun hb7 => ?_) (fun hb7 => ?_)
          · have phb7 := hb7; try simp at phb7
            refine c_skip <| p_thn <| c_seq <| c_block <| c_seq <| c_region <| ji rfl rfl rfl (by omega) (by omega) (hS.adr (i := k) (by omega)) <| jle rfl hS (ix_get (z := fZ) (i := k) (by omega)) rfl rfl fun c59 hc59 => ?_
            obtain ⟨Af59, capf59, rfl, hH59⟩ := hc59
            refine jalloc rfl fun B8 => jstw 0 rfl rfl rfl rfl (len_F _ _ _) (one_F _ _ _) (len_F _ _ _) <| j_nil <| p_thn <| c_seq <| c_region <| jldw 3 rfl rfl rfl (len_plan _) <| jfa rfl rfl rfl <| jld1 0 rfl rfl rfl rfl <| jcallv rfl rfl rfl (plan_Touched _ _ _) <| jnot rfl rfl <| j_nil <| p_thn <| c_cond rfl (fun hb9 => ?_) (fun hb9 => ?_)
            · have phb9 := hb9; try simp at phb9
              have hfl : (ix fZ l k).holds.length ≤ 10000 := (hf.2 _ (ix_mem (by omega))).1
              refine c_seq <| c_region <| jfa rfl rfl rfl <| jld1 0 rfl rfl rfl (pF_holds _ _ _) <| jcallr rfl rfl rfl (ap_0) (clone_Hold _ _ _ (by omega) _ hH59) (fun _ => (ap_s <| ap_0)) fun vc => j_freeze fun M1z hM1z hz1 => ?_
              obtain ⟨A1z, cap1z, rfl, hS1z⟩ := frz (r := rHold) (xs := (ix fZ l k).holds) hz1 (Rows.flat (fun _ => rfl) _) rfl
              refine jfa rfl rfl rfl <| jst 0 rfl rfl rfl rfl rfl rfl (by rw [len_F]; exact Nat.le_of_ble_eq_true rfl) (uF_holds _ _ _ _ _ _) <| j_nil <| p_thn <| c_region <| jm rfl rfl <| jldw 0 rfl rfl rfl (len_F _ _ _) <| jbsl (vs := [_]) [_] rfl rfl rfl (by simp [len_F]) rfl (len_F _ _ _) (by decide) (by decide) fun B12 => j_perm (fr_s <| fr_s <| fr_0) <| japp rfl rfl rfl (fun w ho => Src.blk (i := 1) rfl (by simp [len_vec, len_rights, len_counter, len_lock, len_hold, len_plan, len_F])) (by simp [one_vec, one_hold, one_plan, one_F, List.all_append, -List.all_eq_true]) (len_F _ _ _) (by decide) (by omega) (by omega) fun vB13 => ja rfl rfl <| j_nil <| p_inb <| p_thn <| c_region <| jadd rfl rfl rfl (by first | exact wr (by omega) (by omega) | rfl) <| jm rfl rfl <| j_nil <| jp_perm (fr_s <| fr_s <| fr_s <| fr_s <| fr_0) <| jp_perm (fr_s <| fr_s <| fr_s <| fr_s <| fr_0) <| jp_perm (fr_s <| fr_s <| fr_0) <| jp_tk (ap_s <| ap_s <| ap_s <| ap_0) <| ?_
              refine p_lp ((k + 1, M1z, ts ++ [⟨ix fZ l k, A1z, cap1z⟩], _)) ?_ ?_ (sub_c rfl <| sub_c rfl <| sub_c rfl <| sub_c rfl <| sub_c rfl <| sub_c rfl <| sub_c rfl <| sub_n) rfl (by simp)
              · have hfl : (ix fZ l k).holds.length ≤ 10000 := (hf.2 _ (ix_mem (by omega))).1
                refine ⟨by show _ ≤ _; omega, hm.trans hM1z, (hfk.mono hM1z).app hS1z, ?_⟩
                show (ts ++ _).map FS.f = _
                rw [List.map_append, hts, rest_take (by omega), phb9]; simp
              · show _ - _ < _ - _; omega
            · have phb9 := hb9; try simp at phb9
              refine c_skip <| p_inb <| p_thn <| c_region <| jadd rfl rfl rfl (by first | exact wr (by omega) (by omega) | rfl) <| jm rfl rfl <| j_nil <| jp_perm (fr_s <| fr_s <| fr_s <| fr_0) <| jp_perm (fr_s <| fr_s <| fr_s <| fr_0) <| jp_perm (fr_s <| fr_s <| fr_s <| fr_0) <| jp_tk (ap_s <| ap_s <| ap_s <| ap_0) <| ?_
              refine p_lp ((k + 1, M1, ts, _)) ?_ ?_ (sub_c rfl <| sub_c rfl <| sub_c rfl <| sub_c rfl <| sub_c rfl <| sub_c rfl <| sub_c rfl <| sub_n) rfl rfl
              · refine ⟨by show _ ≤ _; omega, hm, hfk, ?_⟩
                show ts.map FS.f = _
                rw [hts, rest_take (by omega), phb9]; simp
              · show _ - _ < _ - _; omega
          · have phb7 := hb7; try simp at phb7
            have hke : k = l.length := by omega
            rw [hke, List.take_length] at hts
            have hpe : plErr l p = 0 := by unfold plErr; rw [if_neg (fun h => h phb2), hF, hO]; exact phb6
            have hts2 : ts.map FS.f = plOut l p := by rw [hts]; unfold plOut plRest; rw [hF, hO]
            have hnd : ((ts.map FS.f).map (·.name)).Nodup := by rw [hts2]; exact plOut_nodup hpe
            have hfk2 : FSk M1 (pdqL nmCmp ts) := fun s hs => hfk s ((pdqL_perm nmCmp_swo ts).mem_iff.1 hs)
            refine c_exit <| p_thn_exit <| p_lp_exit <| p_inb_exit <| p_thn <| c_seq <| c_region <| jm rfl rfl <| jcallb rfl rfl rfl (ap_s <| ap_0) (sort_Field ts _ (by omega) rfl rfl (fun M x y => plan_Apply1 x y M)) (ap_s <| ap_0) <| j_nil <| p_thn <| c_seq <| c_region <| jm rfl rfl <| ja rfl rfl <| ja rfl rfl <| j_nil <| p_thn <| c_ret <| ?_
            refine p_retK (ap_s <| ap_0) rfl rfl (.tmp rfl <| .tmp rfl <| .nil) ?_
            have e : plApply l p = ((pdqL nmCmp ts).map FS.f, 0) := by unfold plApply; rw [if_neg (fun h => h hpe), pdq_nSort hnd, hts2]
            rw [e]; exact ⟨pdqL nmCmp ts, rfl, hfk2, _, rfl, by rw [pdq_len]⟩
    · have phb4 := hb4; try simp at phb4
      refine c_skip <| p_thn <| c_seq <| c_draw [2, 3, 4, 5] (by kernel_rfl) <| jd_z (i := 0) rfl rfl (by kernel_rfl) (by kernel_rfl) (by kernel_rfl) (by kernel_rfl) rfl (zm rfl) <| jd_z (i := 1) rfl rfl (by kernel_rfl) (by kernel_rfl) (by kernel_rfl) (by kernel_rfl) rfl (zm rfl) <| ?_
      obtain ⟨n1, hn1⟩ : ∃ n : Nat, plFind l p.name = n := ⟨_, (Int.toNat_of_nonneg hOk.found).symm⟩
      have hl1 : n1 < l.length := by { have := plFind_lt hOk.found; rw [hn1] at this; simpa using this }
      rw [hn1, show max (n1 : Int) 0 = n1 by omega]
      refine jd_first (i := 2) rfl rfl (by kernel_rfl) (by kernel_rfl) (by kernel_rfl) (by kernel_rfl) (by kernel_rfl) rfl (fun _ h => h) (yi rfl rfl (by omega) (by omega) (hS.adr (i := n1) (by omega))) <| ?_
      obtain ⟨Af45, capf45, hH45, hc45⟩ := hS.fld (i := n1) (by omega)
      refine jd_first (i := 3) rfl rfl (by kernel_rfl) (by kernel_rfl) (by kernel_rfl) (by kernel_rfl) (by kernel_rfl) rfl (fun _ h => h) (ylF rfl hc45) <| jd_first (i := 4) rfl rfl (by kernel_rfl) (by kernel_rfl) (by kernel_rfl) (by kernel_rfl) (by kernel_rfl) rfl (fun _ h => h) (yldw 0 rfl rfl (len_F _ _ _)) <| jd_first (i := 5) rfl rfl (by kernel_rfl) (by kernel_rfl) (by kernel_rfl) (by kernel_rfl) (by kernel_rfl) rfl (fun _ h => h) (yldw 1 rfl rfl (len_plan _)) <| jd_one (i := 6) (by kernel_rfl) rfl <| jcallx rfl rfl rfl ap_0 (plan_change _ _ _ _ _ _ _ _) (fun _ => ap_s <| ap_0) fun vB14 _ => j_nil <| p_jd rfl (.inl (by kernel_rfl)) <| jd_z (i := 7) rfl rfl (by kernel_rfl) (by kernel_rfl) (by kernel_rfl) (by kernel_rfl) rfl (zm rfl) <| jd_z (i := 8) rfl rfl (by kernel_rfl) (by kernel_rfl) (by kernel_rfl) (by kernel_rfl) rfl (zext rfl rfl) <| jd_z (i := 9) rfl rfl (by kernel_rfl) (by kernel_rfl) (by kernel_rfl) (by kernel_rfl) rfl (zext rfl rfl) <| jd_z (i := 10) rfl rfl (by kernel_rfl) (by kernel_rfl) (by kernel_rfl) (by kernel_rfl) rfl (za rfl) <| jd_z (i := 11) rfl rfl (by kernel_rfl) (by kernel_rfl) (by kernel_rfl) (by kernel_rfl) rfl (za rfl) <| jd_done (by kernel_rfl) <| p_thn <| c_seq <| c_seq <| c_region <| jm rfl rfl <| jneq rfl rfl rfl <| j_nil <| p_thn <| c_cond rfl (fun hb15 => ?_) (fun hb15 => ?_)
      · have phb15 := hb15; try simp at phb15
        have hF : plFld l p = ix fZ l n1 := by unfold plFld; rw [hn1]; simp
        have hO : plOth l p = fZ := by unfold plOth; rw [if_neg (by omega)]
        refine c_seq <| c_region <| jm rfl rfl <| ja rfl rfl <| ja rfl rfl <| j_nil <| p_thn <| c_ret <| p_thn_ret <| ?_
        refine jp_nilrow none 49 587 <| ?_
        refine p_retK (ap_s <| ap_0) rfl rfl (.tmp rfl <| .tmp rfl <| .nil) ?_
        have hp : plErr l p = (plChange (ix fZ l n1) fZ p).2 := by unfold plErr; rw [if_neg (fun h => h phb2), hF, hO]
        have e : plApply l p = ([], (plChange (ix fZ l n1) fZ p).2) := by unfold plApply; rw [hp, if_pos phb15]
        rw [e]; exact ⟨[], rfl, FSk.nil, _, rfl, rfl⟩
      · have phb15 := hb15; try simp at phb15
        have hF : plFld l p = ix fZ l n1 := by unfold plFld; rw [hn1]; simp
        have hO : plOth l p = fZ := by unfold plOth; rw [if_neg (by omega)]
        refine c_skip <| p_thn <| c_seq <| c_seq <| c_region <| jm rfl rfl <| jlen rfl rfl <| jm rfl rfl <| j_nil <| p_thn <| c_block <| c_lpML (X := Nat × Mem × List FS × Value) (fun q => q.1 ≤ l.length ∧ MLe M q.2.1 ∧ FSk q.2.1 q.2.2.1 ∧ q.2.2.1.map FS.f = (plChange (ix fZ l n1) (fZ) p).1 ++ (l.take q.1).filter (fun f => !touched p f.name)) (fun q => l.length - q.1) (fun q => [(56, vi (q.1 : Int)), (12, q.2.2.2)]) [55, 54, 5, 4, 3] (fun q => q.2.1) (fun q => [.row q.2.2.2 49 587 q.2.2.1.length (q.2.2.1.flatMap encS), .blk B3 49 (encF fZ none 0), .blk B1 24 (encPlan p)]) (0, M, (plChange (ix fZ l n1) (fZ) p).1.map bare, vB14) ?_ (sub_c rfl <| sub_c rfl <| sub_c rfl <| sub_c rfl <| sub_c rfl <| sub_c rfl <| sub_c rfl <| sub_n) rfl (by simp) ?_
        · exact ⟨Nat.zero_le _, MLe.refl _, FSk.bare (plChange_holds _ _ _), by simp [Function.comp_def]⟩
        · intro q hI
          obtain ⟨k, M1, ts, u⟩ := q
          dsimp only at hI ⊢
          obtain ⟨hk, hm, hfk, hts⟩ := hI
          have htl : ts.length ≤ k + 2 := by { have q1 := congrArg List.length hts; have q2 := plChange_len (ix fZ l n1) (fZ) p; have q3 := List.length_filter_le (fun f => !touched p f.name) (l.take k); simp at q1 q3; omega }
          have hS := hS.mono hm
          refine c_seq <| c_region <| jlss rfl rfl rfl <| j_nil <| p_thn <| c_seq <| c_cond rfl (fun hb16 => ?_) (fun hb16 => ?_)
          · have phb16 := hb16; try simp at phb16
            refine c_skip <| p_thn <| c_seq <| c_block <| c_seq <| c_region <| ji rfl rfl rfl (by omega) (by omega) (hS.adr (i := k) (by omega)) <| jle rfl hS (ix_get (z := fZ) (i := k) (by omega)) rfl rfl fun c59 hc59 => ?_
            obtain ⟨Af59, capf59, rfl, hH59⟩ := hc59
            refine jalloc rfl fun B17 => jstw 0 rfl rfl rfl rfl (len_F _ _ _) (one_F _ _ _) (len_F _ _ _) <| j_nil <| p_thn <| c_seq <| c_region <| jldw 3 rfl rfl rfl (len_plan _) <| jfa rfl rfl rfl <| jld1 0 rfl rfl rfl rfl <| jcallv rfl rfl rfl (plan_Touched _ _ _) <| jnot rfl rfl <| j_nil <| p_thn <| c_cond rfl (fun hb18 => ?_) (fun hb18 => ?_)
            · have phb18 := hb18; try simp at phb18
              have hfl : (ix fZ l k).holds.length ≤ 10000 := (hf.2 _ (ix_mem (by omega))).1
              refine c_seq <| c_region <| jfa rfl rfl rfl <| jld1 0 rfl rfl rfl (pF_holds _ _ _) <| jcallr rfl rfl rfl (ap_0) (clone_Hold _ _ _ (by omega) _ hH59) (fun _ => (ap_s <| ap_0)) fun vc => j_freeze fun M2z hM2z hz2 => ?_
              obtain ⟨A2z, cap2z, rfl, hS2z⟩ := frz (r := rHold) (xs := (ix fZ l k).holds) hz2 (Rows.flat (fun _ => rfl) _) rfl
              refine jfa rfl rfl rfl <| jst 0 rfl rfl rfl rfl rfl rfl (by rw [len_F]; exact Nat.le_of_ble_eq_true rfl) (uF_holds _ _ _ _ _ _) <| j_nil <| p_thn <| c_region <| jm rfl rfl <| jldw 0 rfl rfl rfl (len_F _ _ _) <| jbsl (vs := [_]) [_] rfl rfl rfl (by simp [len_F]) rfl (len_F _ _ _) (by decide) (by decide) fun B21 => j_perm (fr_s <| fr_s <| fr_0) <| japp rfl rfl rfl (fun w ho => Src.blk (i := 1) rfl (by simp [len_vec, len_rights, len_counter, len_lock, len_hold, len_plan, len_F])) (by simp [one_vec, one_hold, one_plan, one_F, List.all_append, -List.all_eq_true]) (len_F _ _ _) (by decide) (by omega) (by omega) fun vB22 => ja rfl rfl <| j_nil <| p_inb <| p_thn <| c_region <| jadd rfl rfl rfl (by first | exact wr (by omega) (by omega) | rfl) <| jm rfl rfl <| j_nil <| jp_perm (fr_s <| fr_s <| fr_s <| fr_s <| fr_0) <| jp_perm (fr_s <| fr_s <| fr_s <| fr_s <| fr_0) <| jp_perm (fr_s <| fr_s <| fr_0) <| jp_tk (ap_s <| ap_s <| ap_s <| ap_0) <| ?_
              refine p_lp ((k + 1, M2z, ts ++ [⟨ix fZ l k, A2z, cap2z⟩], _)) ?_ ?_ (sub_c rfl <| sub_c rfl <| sub_c rfl <| sub_c rfl <| sub_c rfl <| sub_c rfl <| sub_c rfl <| sub_n) rfl (by simp)
              · have hfl : (ix fZ l k).holds.length ≤ 10000 := (hf.2 _ (ix_mem (by omega))).1
                refine ⟨by show _ ≤ _; omega, hm.trans hM2z, (hfk.mono hM2z).app hS2z, ?_⟩
                show (ts ++ _).map FS.f = _
                rw [List.map_append, hts, rest_take (by omega), phb18]; simp
              · show _ - _ < _ - _; omega
            · have phb18 := hb18; try simp at phb18
              refine c_skip <| p_inb <| p_thn <| c_region <| jadd rfl rfl rfl (by first | exact wr (by omega) (by omega) | rfl) <| jm rfl rfl <| j_nil <| jp_perm (fr_s <| fr_s <| fr_s <| fr_0) <| jp_perm (fr_s <| fr_s <| fr_s <| fr_0) <| jp_perm (fr_s <| fr_s <| fr_s <| fr_0) <| jp_tk (ap_s <| ap_s <| ap_s <| ap_0) <| ?_
              refine p_lp ((k + 1, M1, ts, _)) ?_ ?_ (sub_c rfl <| sub_c rfl <| sub_c rfl <| sub_c rfl <| sub_c rfl <| sub_c rfl <| sub_c rfl <| sub_n) rfl rfl
              · refine ⟨by show _ ≤ _; omega, hm, hfk, ?_⟩
                show ts.map FS.f = _
                rw [hts, rest_take (by omega), phb18]; simp
              · show _ - _ < _ - _; omega
          · have phb16 := hb16; try simp at phb16
            have hke : k = l.length := by omega
            rw [hke, List.take_length] at hts
            have hpe : plErr l p = 0 := by unfold plErr; rw [if_neg (fun h => h phb2), hF, hO]; exact phb15
            have hts2 : ts.map FS.f = plOut l p := by rw [hts]; unfold plOut plRest; rw [hF, hO]
            have hnd : ((ts.map FS.f).map (·.name)).Nodup := by rw [hts2]; exact plOut_nodup hpe
            have hfk2 : FSk M1 (pdqL nmCmp ts) := fun s hs => hfk s ((pdqL_perm nmCmp_swo ts).mem_iff.1 hs)
            refine c_exit <| p_thn_exit <| p_lp_exit <| p_inb_exit <| p_thn <| c_seq <| c_region <| jm rfl rfl <| jcallb rfl rfl rfl (ap_s <| ap_0) (sort_Field ts _ (by omega) rfl rfl (fun M x y => plan_Apply1 x y M)) (ap_s <| ap_0) <| j_nil <| p_thn <| c_seq <| c_region <| jm rfl rfl <| ja rfl rfl <| ja rfl rfl <| j_nil <| p_thn <| c_ret <| ?_
            refine p_retK (ap_s <| ap_0) rfl rfl (.tmp rfl <| .tmp rfl <| .nil) ?_
            have e : plApply l p = ((pdqL nmCmp ts).map FS.f, 0) := by unfold plApply; rw [if_neg (fun h => h hpe), pdq_nSort hnd, hts2]
            rw [e]; exact ⟨pdqL nmCmp ts, rfl, hfk2, _, rfl, by rw [pdq_len]⟩
end Go.Proofs.YtihgpbpcbbgdiaaGreat
