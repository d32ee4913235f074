/- From what a statement's arguments read as to what is known of memory; from a contract to the call. -/
import Derived.Test.YtihgpbpcbbgdiaaGreatCore14
import Derived.Deep.Slices
import Derived.OpenShut
import Derived.Carry
import Derived.ChangeOld
namespace Go.Proofs.YtihgpbpcbbgdiaaGreat
open Go.RowKit
set_option linter.unusedVariables false
set_option linter.unusedSimpArgs false

/-- all that the world's cells hold -/
def knows (W : World) : Mem := fun a => W.cell? a
theorem ctr_calls {P : Program} {f : FuncId} {args : List Value} {W : World} {r : Value} (h : Ctr P f args (knows W) [] (fun v _ _ => v = r)) :
    Calls P f args.toArray W (fun e w' => e = .returned r ∧ Below W.heap.size W w') := by
  refine (h W ⟨rfl, rfl, rfl, Nat.le_refl _, Nat.le_refl _, fun _ _ _ => rfl, fun a v hv => hv, fun a v hv => .inl hv, fun a v hv => hv, fun _ _ _ h => (by cases h), fun _ h => (by cases h), List.nodup_nil, fun _ h => (by cases h)⟩).mono ?_
  rintro e w' ⟨v, M', L', rfl, rfl, h2⟩
  exact ⟨rfl, h2.os, h2.tape, h2.output, h2.size, fun k hk => h2.keep k hk (by simp [blks])⟩

/-- what reads at a type lies as r says, and is ok -/
def Reads {α : Type} (P : Program) (T : TypeId) (r : Rep α) (ok : α → Prop) : Prop :=
  ∀ {H : Type} (enc : TypeId × Value → H) (W : World) (sp : Nat → Bool) (held : Bool) (n : Nat) (cs : List Value) (x : DataW H × List MemPlace),
    DataW.trod enc P W 0 sp held n T cs = some x → ∃ a, r.R (knows W) a cs ∧ ok a
def I64 (n : Int) : Prop := -9223372036854775808 ≤ n ∧ n ≤ 9223372036854775807
theorem I64_of {n : Int} (h : (Lit.int .i64 n).wf = true) : I64 n := by
  simp [Lit.wf, IntKind.min, IntKind.max, IntKind.signed, IntKind.bits] at h
  exact h
theorem Reads.int {P : Program} {T : TypeId} (ht : P.underlying T = some (.int .i64)) : Reads P T rInt I64 := fun enc W sp held n cs x h => by
  obtain ⟨z, rfl, _, hw⟩ := DataW.trod_int ht h
  exact ⟨z, rfl, I64_of hw⟩
theorem Reads.str {P : Program} {T : TypeId} (ht : P.underlying T = some .string) : Reads P T rStr (fun s => s.size ≤ maxLen) := fun enc W sp held n cs x h => by
  obtain ⟨s, rfl, _, hs⟩ := DataW.trod_string ht h
  exact ⟨s, rfl, hs⟩
/-- a cell that holds a slice -/
def rSl {α : Type} (r : Rep α) : Rep (List α) where
  sz := 1
  R := fun M xs c => ∃ A cap, c = [.slice A xs.length cap] ∧ SlR r M A cap xs
  len := fun ⟨A, cap, h, _⟩ => h ▸ rfl
  mono := fun hm ⟨A, cap, h, hr⟩ => ⟨A, cap, h, hr.mono hm⟩
  one := fun ⟨A, cap, h, _⟩ => h ▸ rfl
theorem list_of {α : Type} [Inhabited α] {n : Nat} {p : Nat → α → Prop} (h : ∀ i, i < n → ∃ x, p i x) : ∃ l : List α, l.length = n ∧ ∀ i x, l[i]? = some x → p i x := by
  obtain ⟨f, hf⟩ := Go.Deep.choose_lt h
  refine ⟨(List.range n).map f, by simp, fun i x hx => ?_⟩
  by_cases hi : i < n
  · simp [hi] at hx; exact hx ▸ hf i hi
  · simp [hi] at hx
theorem Reads.slice {α : Type} [Inhabited α] {P : Program} {T e : TypeId} {r : Rep α} {ok : α → Prop} (ht : P.underlying T = some (.slice e)) (hsz : P.cellsOf e = r.sz) (h0 : 0 < r.sz) (he : Reads P e r ok) : Reads P T (rSl r) (fun xs => xs.length ≤ maxLen ∧ ∀ x ∈ xs, ok x) := fun enc W sp held n cs x h => by
  rcases Go.Deep.open_slice ht h with ⟨rfl, _⟩ | ⟨a, len, cap, m, n', D, Pl, rfl, hb, hl, hm, hmm, _, hx⟩
  · exact ⟨[], ⟨none, 0, rfl, SlR.nil⟩, Nat.zero_le _, fun x hx => by cases hx⟩
  · have hle : len ≤ m := by rw [hmm]; split <;> omega
    obtain ⟨xs, hxl, hxs⟩ := list_of (α := α) (n := len) (p := fun i x => (∃ c, r.R (knows W) x c ∧ ∀ j u, c[j]? = some u → W.cell? (a.add (i * r.sz + j)) = some u) ∧ ok x) (fun i hi => by
      obtain ⟨cs', h1, h2⟩ := hx i (by omega)
      obtain ⟨x, hr, hok⟩ := he enc W sp held n' cs' _ h2
      obtain ⟨_, hlen, hcell⟩ := World.cells?_some h1
      refine ⟨x, ⟨cs', hr, fun j u hu => ?_⟩, hok⟩
      have hj : j < P.cellsOf e := by rw [← hlen]; exact (List.getElem?_eq_some_iff.1 hu).1
      have := hcell j hj
      rw [Go.Deep.add_add, hsz] at this
      rw [this]; exact hu)
    refine ⟨xs, ⟨some a, cap, by rw [hxl], by omega, fun i x hxi => ?_⟩, by omega, fun x hx => ?_⟩
    · obtain ⟨⟨c, hr, hc⟩, _⟩ := hxs i x hxi
      obtain ⟨b, off, spot⟩ := a
      have hlc := r.len hr
      have h00 : 0 < c.length := by omega
      have hspot : spot = none := by
        have hi0 : 0 < xs.length := by have := (List.getElem?_eq_some_iff.1 hxi).1; omega
        obtain ⟨⟨c0, hr0, hc0⟩, _⟩ := hxs 0 _ (List.getElem?_eq_getElem hi0)
        have hl0 := r.len hr0
        have h1 := hc0 0 _ (List.getElem?_eq_getElem (by omega))
        rw [Nat.zero_mul] at h1
        simpa [Addr.add] using World.cell?_spot h1
      subst hspot
      refine ⟨b, off, c, rfl, hr, fun j u hu => ?_⟩
      have := hc j u hu
      rw [Go.WideShapes.add_plain] at this
      exact this
    · obtain ⟨i, hi, rfl⟩ := List.getElem_of_mem hx
      exact (hxs i _ (List.getElem?_eq_getElem hi)).2

/-! flat data: integers alone -/
/-- the type's cells are so many integers -/
def flat (P : Program) : Nat → TypeId → Nat → Bool
  | 0, _, _ => false
  | d + 1, t, k => P.cellsOf t == k && match P.underlying t with
    | some (.int .i64) => k == 1
    | some (.array n e) => k == n * P.cellsOf e && flat P d e (P.cellsOf e)
    | some (.struct fs) => (fs.toList.foldl (fun o f => o.bind fun o => if f.offset == o && flat P d f.type (P.cellsOf f.type) then some (o + P.cellsOf f.type) else none) (some 0)) == some k
    | _ => false
theorem ints_of_cells {cs : List Value} (h : ∀ j, j < cs.length → ∃ z, cs[j]? = some (.int .i64 z) ∧ I64 z) : ∃ zs : List Int, cs = zs.map (fun n => Value.int .i64 n) ∧ ∀ z ∈ zs, I64 z := by
  obtain ⟨zs, hl, hz⟩ := list_of h
  refine ⟨zs, ?_, fun z hz' => ?_⟩
  · apply List.ext_getElem?
    intro i
    by_cases hi : i < cs.length
    · obtain ⟨h1, _⟩ := hz i _ (List.getElem?_eq_getElem (by omega))
      rw [h1, List.getElem?_map, List.getElem?_eq_getElem (by omega)]; rfl
    · rw [List.getElem?_eq_none (by omega), List.getElem?_eq_none (by simp; omega)]
  · obtain ⟨i, hi, rfl⟩ := List.getElem_of_mem hz'
    exact (hz i _ (List.getElem?_eq_getElem hi)).2
theorem fold_none {α β : Type} (g : β → α → Option β) : ∀ l : List α, l.foldl (fun o x => o.bind fun o => g o x) none = none
  | [] => rfl
  | _ :: l => fold_none g l
theorem flat_cover {sz : TypeId → Nat} {ok : TypeId → Bool} {k : Nat} : ∀ (fs : List Go.Field) (o : Nat), fs.foldl (fun o f => o.bind fun o => if f.offset == o && ok f.type then some (o + sz f.type) else none) (some o) = some k →
    (∀ f ∈ fs, ok f.type = true) ∧ ∀ j, o ≤ j → j < k → ∃ f ∈ fs, f.offset ≤ j ∧ j < f.offset + sz f.type
  | [], o, h => by simp at h; subst h; exact ⟨fun f hf => absurd hf List.not_mem_nil, fun j h1 h2 => absurd h2 (by omega)⟩
  | f :: fs, o, h => by
    simp only [List.foldl_cons, Option.bind_some] at h
    by_cases hc : (f.offset == o && ok f.type) = true
    · rw [if_pos hc] at h
      obtain ⟨h1, h2⟩ := flat_cover fs _ h
      simp only [Bool.and_eq_true, beq_iff_eq] at hc
      refine ⟨fun g hg => ?_, fun j hj hk => ?_⟩
      · rcases List.mem_cons.1 hg with rfl | hg
        · exact hc.2
        · exact h1 g hg
      · by_cases hlt : j < o + sz f.type
        · exact ⟨f, List.mem_cons_self, by omega, by omega⟩
        · obtain ⟨g, hg, h3⟩ := h2 j (by omega) hk
          exact ⟨g, List.mem_cons_of_mem _ hg, h3⟩
    · rw [if_neg hc, fold_none (fun (o : Nat) (f : Go.Field) => if f.offset == o && ok f.type then some (o + sz f.type) else none)] at h
      cases h
theorem flat_reads {P : Program} : ∀ (d : Nat) (t : TypeId) (k : Nat), flat P d t k = true → ∀ {H : Type} (enc : TypeId × Value → H) (W : World) (sp : Nat → Bool) (held : Bool) (n : Nat) (cs : List Value) (x : DataW H × List MemPlace),
    DataW.trod enc P W 0 sp held n t cs = some x → cs.length = k ∧ ∀ j, j < cs.length → ∃ z, cs[j]? = some (.int .i64 z) ∧ I64 z
  | 0, _, _, h => by cases h
  | d + 1, t, k, hf => by
    intro enc W sp held n cs x h
    simp only [flat, Bool.and_eq_true, beq_iff_eq] at hf
    obtain ⟨hk, hf⟩ := hf
    cases hu : P.underlying t with
    | none => rw [hu] at hf; cases hf
    | some D =>
      rw [hu] at hf
      cases D
      case int q =>
        have hq : q = .i64 ∧ k = 1 := by cases q <;> simp at hf <;> exact ⟨rfl, hf⟩
        obtain ⟨rfl, hk1⟩ := hq
        obtain ⟨z, rfl, _, hw⟩ := DataW.trod_int hu h
        refine ⟨by simp [hk1], fun j hj => ?_⟩
        have : j = 0 := by simpa using hj
        subst this
        exact ⟨z, rfl, I64_of hw⟩
      case array m e =>
        simp only [Bool.and_eq_true, beq_iff_eq] at hf
        obtain ⟨hk2, hfe⟩ := hf
        obtain ⟨xs, m', _, _, hl, hxl, hx⟩ := DataW.trod_array hu h
        refine ⟨by omega, fun j hj => ?_⟩
        have hlt : j < m * P.cellsOf e := by omega
        have hpos : 0 < P.cellsOf e := by
          rcases Nat.eq_zero_or_pos (P.cellsOf e) with h0 | h0
          · rw [h0] at hlt; omega
          · exact h0
        have hi : j / P.cellsOf e < m := Nat.div_lt_of_lt_mul (by rw [Nat.mul_comm]; exact hlt)
        have h1 := hx _ hi
        rw [List.getElem?_eq_getElem (by omega)] at h1
        obtain ⟨h2, h3⟩ := flat_reads d e _ hfe enc W sp held m' _ _ h1
        have hr : j % P.cellsOf e < P.cellsOf e := Nat.mod_lt _ hpos
        obtain ⟨z, hz, hz2⟩ := h3 (j % P.cellsOf e) (by rw [h2]; exact hr)
        refine ⟨z, ?_, hz2⟩
        rw [List.getElem?_take, if_pos hr, List.getElem?_drop, Nat.mul_comm, Nat.div_add_mod] at hz
        exact hz
      case struct fs =>
        have hf' : (fs.toList.foldl (fun o f => o.bind fun o => if f.offset == o && (fun t => flat P d t (P.cellsOf t)) f.type then some (o + P.cellsOf f.type) else none) (some 0)) = some k := by simpa using hf
        obtain ⟨hok, hcov⟩ := flat_cover (sz := P.cellsOf) (ok := fun t => flat P d t (P.cellsOf t)) fs.toList 0 hf'
        obtain ⟨xs, m', _, _, hl, hxl, hx⟩ := DataW.trod_struct hu h
        refine ⟨by omega, fun j hj => ?_⟩
        obtain ⟨f, hfm, h1, h2⟩ := hcov j (Nat.zero_le _) (by omega)
        obtain ⟨i, hi⟩ := List.getElem?_of_mem hfm
        have hi' : fs[i]? = some f := by simpa using hi
        have h3 := hx i f hi'
        have hlt : i < xs.length := by rw [hxl]; exact (Array.getElem?_eq_some_iff.1 hi').1
        rw [List.getElem?_eq_getElem hlt] at h3
        obtain ⟨h4, h5⟩ := flat_reads d f.type _ (hok f hfm) enc W sp held m' _ _ h3
        obtain ⟨z, hz, hz2⟩ := h5 (j - f.offset) (by rw [h4]; omega)
        refine ⟨z, ?_, hz2⟩
        rw [List.getElem?_take, if_pos (by omega), List.getElem?_drop, show f.offset + (j - f.offset) = j by omega] at hz
        exact hz
      all_goals simp at hf
/-- a type of integers alone, taken for a Lean type -/
theorem Reads.flat {α : Type} {P : Program} {T k : Nat} {f : α → List Value} {hl : ∀ x, (f x).length = k} {h1 : ∀ x, (f x).all Value.oneCell' = true} {ok : α → Prop} (d : Nat) (hf : flat P d T k = true)
    (hd : ∀ zs : List Int, zs.length = k → (∀ z ∈ zs, I64 z) → ∃ x, f x = zs.map (fun n => Value.int .i64 n) ∧ ok x) : Reads P T (Rep.enc k f hl h1) ok := fun enc W sp held n cs x h => by
  obtain ⟨h2, h3⟩ := flat_reads d T k hf enc W sp held n cs x h
  obtain ⟨zs, rfl, hz⟩ := ints_of_cells h3
  obtain ⟨x, hx, hok⟩ := hd zs (by simpa using h2) hz
  exact ⟨x, hx.symm, hok⟩
end Go.Proofs.YtihgpbpcbbgdiaaGreat
