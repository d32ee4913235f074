/- Several texts in one. -/
import Derived.Test.YtihgpbpcbbgdiaaGreatOrd18
import Derived.Test.YtihgpbpcbbgdiaaGreatOrd19
import Derived.Test.YtihgpbpcbbgdiaaGreatRows
import Derived.ProofKit
import Derived.Test.YtihgpbpcbbgdiaaGreatOrd31
/- Fields, plans, and lists of fields, as they are read where a statement hands them in. -/
namespace Go.Proofs.YtihgpbpcbbgdiaaGreat
open Go.RowKit
set_option linter.unusedVariables false
set_option linter.unusedSimpArgs false
theorem part_of {H : Type} {enc : TypeId × Value → H} {P : Program} {W : World} {sp : Nat → Bool} {held : Bool} {n T : Nat} {cs : List Value} {x : DataW H × List MemPlace} {fs : Array Go.Field}
    (hu : P.underlying T = some (.struct fs)) (h : DataW.trod enc P W 0 sp held n T cs = some x) :
    cs.length = P.cellsOf T ∧ ∃ m, ∀ (i : Nat) (f : Go.Field) (ty off sz : Nat), fs[i]? = some f → f.type = ty → f.offset = off → P.cellsOf ty = sz → ∃ y, DataW.trod enc P W 0 sp held m ty ((cs.drop off).take sz) = some y := by
  obtain ⟨xs, m, _, _, hl, hxl, hx⟩ := DataW.trod_struct hu h
  refine ⟨hl, m, fun i f ty off sz hf h1 h2 h3 => ?_⟩
  subst h1 h2 h3
  have hlt : i < xs.length := by rw [hxl]; exact (Array.getElem?_eq_some_iff.1 hf).1
  exact ⟨xs[i], by rw [hx i f hf, List.getElem?_eq_getElem hlt]⟩
theorem read_plan : Reads Tryz.prog 24 rPlan (fun _ => True) := fun enc W sp held n cs x h => by
  obtain ⟨hl, m, hp⟩ := part_of Tryz.underlying24 h
  have hl : cs.length = 5 := hl.trans (by kernel_rfl)
  obtain ⟨y0, h0⟩ := hp 0 _ 3 0 1 rfl rfl rfl (by kernel_rfl)
  obtain ⟨y1, h1⟩ := hp 1 _ 9 1 1 rfl rfl rfl (by kernel_rfl)
  obtain ⟨y2, h2⟩ := hp 2 _ 9 2 1 rfl rfl rfl (by kernel_rfl)
  obtain ⟨y3, h3⟩ := hp 3 _ 3 3 1 rfl rfl rfl (by kernel_rfl)
  obtain ⟨y4, h4⟩ := hp 4 _ 3 4 1 rfl rfl rfl (by kernel_rfl)
  obtain ⟨a0, r0, _⟩ := Reads.int Tryz.underlying3 enc W sp held m _ _ h0
  obtain ⟨a1, r1, _⟩ := Reads.str Tryz.underlying9 enc W sp held m _ _ h1
  obtain ⟨a2, r2, _⟩ := Reads.str Tryz.underlying9 enc W sp held m _ _ h2
  obtain ⟨a3, r3, _⟩ := Reads.int Tryz.underlying3 enc W sp held m _ _ h3
  obtain ⟨a4, r4, _⟩ := Reads.int Tryz.underlying3 enc W sp held m _ _ h4
  match cs, hl with
  | [c0, c1, c2, c3, c4], _ =>
    refine ⟨⟨a0, a1, a2, a3, a4⟩, ?_, trivial⟩
    have e0 : [c0] = [vi a0] := r0
    have e1 : [c1] = [.string a1] := r1
    have e2 : [c2] = [.string a2] := r2
    have e3 : [c3] = [vi a3] := r3
    have e4 : [c4] = [vi a4] := r4
    simp only [List.cons.injEq, and_true] at e0 e1 e2 e3 e4
    rw [e0, e1, e2, e3, e4]; rfl
theorem vecs_of : ∀ (k : Nat) (zs : List Int), zs.length = k * 16 → ∃ vs : List Vec, vs.length = k ∧ vs.flatMap (·.toList) = zs
  | 0, zs, h => ⟨[], rfl, by have : zs = [] := List.length_eq_zero_iff.1 (by omega); rw [this]; rfl⟩
  | k + 1, zs, h => by
    obtain ⟨vs, h1, h2⟩ := vecs_of k (zs.drop 16) (by rw [List.length_drop]; omega)
    have hl : (zs.take 16).toArray.size = 16 := by simp; omega
    refine ⟨⟨(zs.take 16).toArray, hl⟩ :: vs, by simp [h1], ?_⟩
    rw [List.flatMap_cons, h2]
    show zs.take 16 ++ zs.drop 16 = zs
    exact List.take_append_drop _ _
theorem rights_of (zs : List Int) (h : zs.length = 288) : ∃ r : Rights, zRights r = zs := by
  obtain ⟨vs, h1, h2⟩ := vecs_of 18 zs h
  match vs, h1 with
  | a :: b :: ms, h1 =>
    refine ⟨⟨a, b, ⟨ms.toArray, by simp at h1; simp [h1]⟩⟩, ?_⟩
    rw [← h2]; rfl
theorem counter_of (zs : List Int) (h : zs.length = 579) : ∃ c : Counter, zCounter c = zs := by
  match zs, h with
  | i :: l :: g :: ys, h =>
    have h : ys.length = 576 := by simpa using h
    obtain ⟨d, hd⟩ := rights_of (ys.take 288) (by rw [List.length_take]; omega)
    obtain ⟨u, hu⟩ := rights_of (ys.drop 288) (by rw [List.length_drop]; omega)
    refine ⟨⟨i, l, g, d, u⟩, ?_⟩
    unfold zCounter
    simp only [hd, hu, List.take_append_drop]
theorem read_counter : Reads Tryz.prog 44 (Rep.enc 579 encCounter len_counter one_counter) (fun _ => True) :=
  Reads.flat 6 (by kernel_rfl) (fun zs hl _ => by
    obtain ⟨c, hc⟩ := counter_of zs hl
    exact ⟨c, by rw [zCounter_enc, hc], trivial⟩)
theorem read_lock : Reads Tryz.prog 46 (Rep.enc 4 encLock (fun _ => rfl) (fun _ => rfl)) (fun _ => True) :=
  Reads.flat 3 (by kernel_rfl) (fun zs hl _ => by
    match zs, hl with
    | [a, b, c, d], _ => exact ⟨⟨a, b, c, d⟩, rfl, trivial⟩)
theorem read_hold : Reads Tryz.prog 129 rHold (fun _ => True) :=
  Reads.flat 3 (by kernel_rfl) (fun zs hl _ => by
    match zs, hl with
    | [a, b, c, d, e], _ => exact ⟨⟨a, b, c, d, e⟩, rfl, trivial⟩)
instance inh16h : Inhabited Hold := ⟨hZ⟩
instance inh16f : Inhabited Field := ⟨fZ⟩
theorem read_holds : Reads Tryz.prog 47 (rSl rHold) (fun xs => xs.length ≤ maxLen ∧ ∀ x ∈ xs, True) := Reads.slice Tryz.underlying47 (by kernel_rfl) (by decide) read_hold
theorem cells_cut {cs : List Value} (h : cs.length = 587) : cs = (cs.drop 0).take 1 ++ ((cs.drop 1).take 1 ++ ((cs.drop 2).take 1 ++ ((cs.drop 3).take 579 ++ ((cs.drop 582).take 4 ++ (cs.drop 586).take 1)))) := by
  have key : ∀ (a b : Nat), cs.drop a = (cs.drop a).take b ++ cs.drop (a + b) := fun a b => by
    rw [← List.drop_drop]; exact (List.take_append_drop _ _).symm
  have k5 : (cs.drop 586).take 1 = cs.drop 586 := List.take_of_length_le (by rw [List.length_drop]; omega)
  rw [k5, ← key 582 4, ← key 3 579, ← key 2 1, ← key 1 1, ← key 0 1]; rfl
theorem read_field : Reads Tryz.prog 49 rField (fun _ => True) := fun enc W sp held n cs x h => by
  obtain ⟨hl, m, hp⟩ := part_of Tryz.underlying49 h
  have hl : cs.length = 587 := hl.trans (by kernel_rfl)
  obtain ⟨y0, h0⟩ := hp 0 _ 9 0 1 rfl rfl rfl (by kernel_rfl)
  obtain ⟨y1, h1⟩ := hp 1 _ 3 1 1 rfl rfl rfl (by kernel_rfl)
  obtain ⟨y2, h2⟩ := hp 2 _ 3 2 1 rfl rfl rfl (by kernel_rfl)
  obtain ⟨y3, h3⟩ := hp 3 _ 44 3 579 rfl rfl rfl (by kernel_rfl)
  obtain ⟨y4, h4⟩ := hp 4 _ 46 582 4 rfl rfl rfl (by kernel_rfl)
  obtain ⟨y5, h5⟩ := hp 5 _ 47 586 1 rfl rfl rfl (by kernel_rfl)
  obtain ⟨a0, r0, _⟩ := Reads.str Tryz.underlying9 enc W sp held m _ _ h0
  obtain ⟨a1, r1, _⟩ := Reads.int Tryz.underlying3 enc W sp held m _ _ h1
  obtain ⟨a2, r2, _⟩ := Reads.int Tryz.underlying3 enc W sp held m _ _ h2
  obtain ⟨a3, r3, _⟩ := read_counter enc W sp held m _ _ h3
  obtain ⟨a4, r4, _⟩ := read_lock enc W sp held m _ _ h4
  obtain ⟨a5, ⟨A, cap, r5, hS⟩, _⟩ := read_holds enc W sp held m _ _ h5
  refine ⟨⟨a0, a1, a2, a3, a4, a5⟩, ⟨A, cap, ?_, hS⟩, trivial⟩
  have e0 : (cs.drop 0).take 1 = [.string a0] := r0
  have e1 : (cs.drop 1).take 1 = [vi a1] := r1
  have e2 : (cs.drop 2).take 1 = [vi a2] := r2
  have e3 : (cs.drop 3).take 579 = encCounter a3 := r3
  have e4 : (cs.drop 582).take 4 = encLock a4 := r4
  rw [cells_cut hl, e0, e1, e2, e3, e4, r5]; rfl
theorem read_fields : Reads Tryz.prog 22 (rSl rField) (fun xs => xs.length ≤ maxLen ∧ ∀ x ∈ xs, True) := Reads.slice Tryz.underlying22 (by kernel_rfl) (by decide) read_field
theorem read_fieldss : Reads Tryz.prog 25 (rSl (rSl rField)) (fun xs => xs.length ≤ maxLen ∧ ∀ x ∈ xs, x.length ≤ maxLen ∧ ∀ y ∈ x, True) := Reads.slice Tryz.underlying25 (by kernel_rfl) (by decide) read_fields
theorem okWide_agg {P : Program} {W : World} {r : Reach} {b t : Nat} {v : Value} {fs : Array Go.Field} (ht : P.underlying t = some (.struct fs)) (h : Value.okWide P W r b t v) : ∃ cs, v = .agg cs := by
  simp only [Value.okWide, ht] at h
  obtain ⟨cs, h1, _⟩ := h
  exact ⟨cs, h1⟩
end Go.Proofs.YtihgpbpcbbgdiaaGreat

/-
  BarrierOrder: whatever the input, the law answers true, and the input reads as it did. No condition.
-/
namespace Go.Proofs.YtihgpbpcbbgdiaaGreat
open Go.ChangeShapes Go.WideShapes Go.ChangeAt Go.RowKit
set_option linter.unusedVariables false
theorem seat_own : ownKnob Tryz.prog.godebug = none := by kernel_rfl
theorem seat_laid : laidOutB Tryz.prog = true := by kernel_rfl
set_option maxRecDepth 100000 in
theorem barrierOrder_lifted (os : Go.Os) (started : os.Started) (H : Type) (enc : TypeId × Value → H) :
    ReturnsInHanded {} Tryz.checked os 4 .any (Rows.barrierOrderSpec.pre6 enc Tryz.prog Tryz.f4 Rows.barrierOrderRow.domain false) (Rows.barrierOrderSpec.post enc Tryz.prog Tryz.f4 false true false false) := by
  refine returnsInHanded_of_change (C := Tryz.checked) seat_own started (by kernel_rfl) Tryz.func4
    (ChangeSpec.witness6 (enc := enc) (C := Tryz.checked) false ⟨#[], #[.slice none 0 0, .agg #[.int .i64 0, .string ⟨#[]⟩, .string ⟨#[]⟩, .int .i64 0, .int .i64 0], .slice none 0 0], []⟩ 8 (by kernel_rfl) (by kernel_rfl) (by kernel_rfl) (by kernel_rfl)) ?_
  intro W base args ds gs before hval0 hW hcnd _
  have hval : ∀ (j : Nat) t v, Tryz.f4.params[j]? = some t → args[j]? = some v → Value.okWide Tryz.prog W .any base t v := hval0
  have hW' := hW
  obtain ⟨p, q, hA0, hV, rfl, hfz, hnd⟩ := hW
  have hA : DataW.TrodAll enc Tryz.prog W 0 (fun _ => true) true Tryz.f4.params.toList args.toList ds p := hA0
  rw [Tryz.params4] at hA hval
  obtain ⟨v0, vs0, d0, ds0, p0, q0, hargs, rfl, rfl, h0, r0⟩ := trodAll_cons hA
  obtain ⟨v1, vs1, d1, ds1, p1, q1, rfl, rfl, rfl, h1, r1⟩ := trodAll_cons r0
  obtain ⟨v2, vs2, d2, ds2, p2, q2, rfl, rfl, rfl, h2, r2⟩ := trodAll_cons r1
  obtain ⟨rfl, rfl, rfl⟩ := trodAll_nil r2
  obtain rfl : args = #[v0, v1, v2] := by cases args; simp_all
  obtain ⟨rfl, rfl⟩ := trodVars_none hV
  have k0 := h0
  have k1 := h1
  have k2 := h2
  have lt0 : ∀ x ∈ p0, x.block < W.heap.size := by obtain ⟨m, hm⟩ := k0; exact DataW.trod_lt m _ _ _ hm
  have lt1 : ∀ x ∈ p1, x.block < W.heap.size := by obtain ⟨m, hm⟩ := k1; exact DataW.trod_lt m _ _ _ hm
  have lt2 : ∀ x ∈ p2, x.block < W.heap.size := by obtain ⟨m, hm⟩ := k2; exact DataW.trod_lt m _ _ _ hm
  obtain ⟨a0, len0, cap0, rfl⟩ := okWide_slice Tryz.underlying22 (hval 0 22 v0 rfl rfl)
  obtain ⟨a1, rfl⟩ := okWide_agg Tryz.underlying24 (hval 1 24 v1 rfl rfl)
  obtain ⟨a2, len2, cap2, rfl⟩ := okWide_slice Tryz.underlying25 (hval 2 25 v2 rfl rfl)
  obtain ⟨l, ⟨A0, c0, e0, hS⟩, _⟩ : ∃ l, (rSl rField).R (knows W) l [.slice a0 len0 cap0] ∧ (l.length ≤ maxLen ∧ ∀ x ∈ l, True) := by
    obtain ⟨fuel, hf⟩ := h0
    exact read_fields enc W _ _ fuel _ _ (by simpa [Value.cells] using hf)
  obtain ⟨pl, e1, _⟩ : ∃ pl, rPlan.R (knows W) pl a1.toList ∧ True := by
    obtain ⟨fuel, hf⟩ := h1
    exact read_plan enc W _ _ fuel _ _ (by simpa [Value.cells] using hf)
  obtain ⟨oss, ⟨A2, c2, e2, hO⟩, _⟩ : ∃ oss, (rSl (rSl rField)).R (knows W) oss [.slice a2 len2 cap2] ∧ (oss.length ≤ maxLen ∧ ∀ x ∈ oss, x.length ≤ maxLen ∧ ∀ y ∈ x, True) := by
    obtain ⟨fuel, hf⟩ := h2
    exact read_fieldss enc W _ _ fuel _ _ (by simpa [Value.cells] using hf)
  simp only [List.cons.injEq, Value.slice.injEq, and_true] at e0 e2
  obtain ⟨rfl, rfl, rfl⟩ := e0
  obtain ⟨rfl, rfl, rfl⟩ := e2
  have e1 : a1.toList = encPlan pl := e1
  obtain rfl : a1 = (encPlan pl).toArray := by rw [← e1]
  clear hA0 hval0
  have hc := ctr_calls (r := .bool true) ((law16_Order l a0 cap0 pl oss a2 cap2 (knows W) hS hO).mono (fun v _ _ hv => by rw [hv, ord16_true]))
  refine hc.mono fun e W' ⟨he, bel⟩ => ?_
  subst he
  exact ⟨_, rfl, _, _, _, [], _, [], hW', trodAll_mk1 (shut_bool Tryz.underlying4 _),
    (trodAll_cons_mk (Below.trod seat_laid (by kernel_rfl) (of_decide_eq_true (by kernel_rfl)) k0 bel lt0) (trodAll_cons_mk (Below.trod seat_laid (by kernel_rfl) (of_decide_eq_true (by kernel_rfl)) k1 bel lt1)
      (trodAll_cons_mk (Below.trod seat_laid (by kernel_rfl) (of_decide_eq_true (by kernel_rfl)) k2 bel lt2) trodAll_mk0))), rfl, bel.frame _, fun h => by cases h⟩
theorem barrierOrder_holds : Rows.BarrierOrderSaid :=
  OpenClaim.holds_of_wide 4 Tryz.f4 rfl rfl rfl rfl rfl rfl rfl ⟨rfl, rfl, rfl, rfl, rfl⟩ rfl rfl rfl rfl rfl (by kernel_rfl) Tryz.func4 (by kernel_rfl)
    (of_decide_eq_true (by kernel_rfl)) (by unfold Func.isWrapper; first | (rw [if_pos (by decide +kernel)]; kernel_rfl) | (rw [if_neg (by decide +kernel)]; exact ⟨rfl, rfl⟩))
    (fun os started H enc _ => barrierOrder_lifted os started H enc)
#print axioms barrierOrder_holds
end Go.Proofs.YtihgpbpcbbgdiaaGreat
