/-
  FieldLoose: whatever the input, the law answers true, and the input reads as it did. No condition.
-/
import Derived.Test.YtihgpbpcbbgdiaaGreatRows
import Derived.ProofKit
import Derived.Test.YtihgpbpcbbgdiaaGreatLaws5
namespace Go.Proofs.YtihgpbpcbbgdiaaGreat
open Go.ChangeShapes Go.WideShapes Go.ChangeAt Go.RowKit
set_option linter.unusedVariables false
theorem seat_own : ownKnob Tryz.prog.godebug = none := by kernel_rfl
theorem seat_laid : laidOutB Tryz.prog = true := by kernel_rfl
instance : Inhabited Do7 := ⟨d7Z⟩
theorem reads_D7 : Reads Tryz.prog 72 rD7 (fun _ => True) :=
  Reads.flat 3 (by kernel_rfl) (fun zs hl _ => by
    match zs, hl with
    | [v, i, k, n, m], _ => exact ⟨⟨v, i, k, n, m⟩, rfl, trivial⟩)
theorem reads_D7s : Reads Tryz.prog 67 (rSl rD7) (fun xs => xs.length ≤ maxLen ∧ ∀ x ∈ xs, True) :=
  Reads.slice Tryz.underlying67 (by kernel_rfl) (by decide) reads_D7
set_option maxRecDepth 100000 in
theorem fieldLoose_lifted (os : Os) (started : os.Started) (H : Type) (enc : TypeId × Value → H) :
    ReturnsInHanded {} Tryz.checked os 7 .any (Rows.fieldLooseSpec.pre6 enc Tryz.prog Tryz.f7 Rows.fieldLooseRow.domain false) (Rows.fieldLooseSpec.post enc Tryz.prog Tryz.f7 false true false false) := by
  refine returnsInHanded_of_change (C := Tryz.checked) seat_own started (by kernel_rfl) Tryz.func7
    (ChangeSpec.witness6 (enc := enc) (C := Tryz.checked) false ⟨#[], #[.int .i64 0, .int .i64 0, .int .i64 0, .slice none 0 0, .int .i64 0, .int .i64 0], []⟩ 8 (by kernel_rfl) (by kernel_rfl) (by kernel_rfl) (by kernel_rfl)) ?_
  intro W base args ds gs before hval0 hW hcnd _
  have hval : ∀ (j : Nat) t v, Tryz.f7.params[j]? = some t → args[j]? = some v → Value.okWide Tryz.prog W .any base t v := hval0
  have hW' := hW
  obtain ⟨p, q, hA0, hV, rfl, hfz, hnd⟩ := hW
  have hA : DataW.TrodAll enc Tryz.prog W 0 (fun _ => true) true Tryz.f7.params.toList args.toList ds p := hA0
  rw [Tryz.params7] at hA hval
  obtain ⟨v0, vs0, d0, ds0, p0, q0, hargs, rfl, rfl, h0, r0⟩ := trodAll_cons hA
  obtain ⟨v1, vs1, d1, ds1, p1, q1, rfl, rfl, rfl, h1, r1⟩ := trodAll_cons r0
  obtain ⟨v2, vs2, d2, ds2, p2, q2, rfl, rfl, rfl, h2, r2⟩ := trodAll_cons r1
  obtain ⟨v3, vs3, d3, ds3, p3, q3, rfl, rfl, rfl, h3, r3⟩ := trodAll_cons r2
  obtain ⟨v4, vs4, d4, ds4, p4, q4, rfl, rfl, rfl, h4, r4⟩ := trodAll_cons r3
  obtain ⟨v5, vs5, d5, ds5, p5, q5, rfl, rfl, rfl, h5, r5⟩ := trodAll_cons r4
  obtain ⟨rfl, rfl, rfl⟩ := trodAll_nil r5
  obtain rfl : args = #[v0, v1, v2, v3, v4, v5] := by cases args; simp_all
  obtain ⟨rfl, rfl⟩ := trodVars_none hV
  have k3 := h3
  have lt3 : ∀ x ∈ p3, x.block < W.heap.size := by obtain ⟨m, hm⟩ := k3; exact DataW.trod_lt m _ _ _ hm
  obtain ⟨a3, len3, cap3, rfl⟩ := okWide_slice Tryz.underlying67 (hval 3 67 v3 rfl rfl)
  obtain ⟨l, ⟨A, cap, el, hS⟩, _⟩ : ∃ l, (rSl rD7).R (knows W) l [.slice a3 len3 cap3] ∧ (l.length ≤ maxLen ∧ ∀ x ∈ l, True) := by
    obtain ⟨fuel, hf⟩ := h3
    exact reads_D7s enc W _ _ fuel _ _ (by simpa [Value.cells] using hf)
  simp only [List.cons.injEq, Value.slice.injEq, and_true] at el
  obtain ⟨rfl, rfl, rfl⟩ := el
  obtain ⟨x0, rfl, rfl, rfl, w0⟩ := open_int Tryz.underlying3 (hval 0 3 v0 rfl rfl) h0
  obtain ⟨x1, rfl, rfl, rfl, w1⟩ := open_int Tryz.underlying3 (hval 1 3 v1 rfl rfl) h1
  obtain ⟨x2, rfl, rfl, rfl, w2⟩ := open_int Tryz.underlying3 (hval 2 3 v2 rfl rfl) h2
  obtain ⟨x4, rfl, rfl, rfl, w4⟩ := open_int Tryz.underlying3 (hval 4 3 v4 rfl rfl) h4
  obtain ⟨x5, rfl, rfl, rfl, w5⟩ := open_int Tryz.underlying3 (hval 5 3 v5 rfl rfl) h5
  clear hA0 hval0
  have hc := ctr_calls (r := .bool true) ((law7_FieldLoose x0 x1 x2 l a3 cap3 x4 x5 (knows W) hS).mono (fun v _ _ hv => by rw [hv, law7_true]))
  refine hc.mono fun e W' ⟨he, bel⟩ => ?_
  subst he
  exact ⟨_, rfl, _, _, _, [], _, [], hW', trodAll_mk1 (shut_bool Tryz.underlying4 _),
    (trodAll_cons_mk (shut_int Tryz.underlying3 w0) (trodAll_cons_mk (shut_int Tryz.underlying3 w1) (trodAll_cons_mk (shut_int Tryz.underlying3 w2)
      (trodAll_cons_mk (Below.trod seat_laid (by kernel_rfl) (of_decide_eq_true (by kernel_rfl)) k3 bel lt3) (trodAll_cons_mk (shut_int Tryz.underlying3 w4) (trodAll_cons_mk (shut_int Tryz.underlying3 w5) trodAll_mk0)))))), rfl, bel.frame _, fun h => by cases h⟩
theorem fieldLoose_holds : Rows.FieldLooseSaid :=
  OpenClaim.holds_of_wide 7 Tryz.f7 rfl rfl rfl rfl rfl rfl rfl ⟨rfl, rfl, rfl, rfl, rfl⟩ rfl rfl rfl rfl rfl (by kernel_rfl) Tryz.func7 (by kernel_rfl)
    (of_decide_eq_true (by kernel_rfl)) (by unfold Func.isWrapper; first | (rw [if_pos (by decide +kernel)]; kernel_rfl) | (rw [if_neg (by decide +kernel)]; exact ⟨rfl, rfl⟩))
    (fun os started H enc _ => fieldLoose_lifted os started H enc)
#print axioms fieldLoose_holds
end Go.Proofs.YtihgpbpcbbgdiaaGreat
