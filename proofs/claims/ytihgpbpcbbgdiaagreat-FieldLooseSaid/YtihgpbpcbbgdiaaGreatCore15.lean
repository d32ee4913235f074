/- slices.SortFunc at structs, over an owned row. -/
import Derived.Test.YtihgpbpcbbgdiaaGreatCore14
import Derived.Shelf.SlSortCmp.NoneTotal
namespace Go.Proofs.YtihgpbpcbbgdiaaGreat
open Go.RowKit Go.Shelf Go.Sort Go.Lib
set_option linter.unusedVariables false
set_option linter.unusedSimpArgs false
theorem flatK_eq {α : Type} [Inhabited α] {f : α → List Value} {k : Nat} (hk : ∀ x, (f x).length = k) (d : Array α) : flatK f k d = (d.toList.flatMap f).toArray := by
  apply Array.ext
  · simp [flatK, flatk_len hk]
  · intro t h1 h2
    have ht : t < d.size * k := by simpa [flatK] using h1
    have k0 : 0 < k := by rcases Nat.eq_zero_or_pos k with rfl | h; · simp at ht
                          · exact h
    have hi : t / k < d.size := Nat.div_lt_of_lt_mul (by rw [Nat.mul_comm]; exact ht)
    have hp := flatk_part hk d.toList (i := t / k) (x := d[t / k]) (by simp [hi])
    have e1 : (flatK f k d)[t] = (f d[t / k]!)[t % k]! := by
      have := get_flatK f k d t ht
      rwa [getElem!_pos (flatK f k d) t h1] at this
    rw [e1, getElem!_pos d _ hi]
    have hm : t % k < k := Nat.mod_lt _ k0
    rw [getElem!_pos _ _ (by rw [hk]; exact hm)]
    have e2 : (f d[t / k])[t % k]? = (d.toList.flatMap f)[t]? := by
      rw [← hp, List.getElem?_take]
      simp [hm]
      congr 1
      have := Nat.div_add_mod t k
      rw [Nat.mul_comm] at this; omega
    rw [List.getElem?_eq_getElem (by rw [hk]; exact hm), List.getElem?_eq_getElem (by simpa using h2)] at e2
    simpa using Option.some.inj e2
theorem grown_of {W w' : World} (hos : w'.os = W.os) (ht : w'.tape = W.tape) (ho : w'.output = W.output) (hd : W.drawn ≤ w'.drawn) (hs : W.heap.size ≤ w'.heap.size) (hk : ∀ k, k < W.heap.size → w'.heap[k]? = W.heap[k]?) :
    ∃ q os', w' = Go.Sort.grow (W.drewN q) os' := by
  refine ⟨w'.drawn - W.drawn, w'.heap.extract W.heap.size w'.heap.size, ?_⟩
  obtain ⟨h1, t1, d1, o1, p1⟩ := w'
  obtain ⟨h2, t2, d2, o2, p2⟩ := W
  simp only at *
  subst hos ht ho
  unfold Go.Sort.grow World.drewN
  simp only [World.mk.injEq, true_and, and_true]
  refine ⟨?_, by omega⟩
  apply Array.ext_getElem?
  intro i
  by_cases hi : i < h2.size
  · rw [hk i hi, Array.getElem?_append_left hi]
  · rw [Array.getElem?_append_right (by omega)]
    by_cases hj : i < h1.size
    · rw [Array.getElem?_extract]
      simp; rw [if_pos (by omega)]; congr 1; omega
    · rw [Array.getElem?_eq_none (by omega), Array.getElem?_eq_none (by simp; omega)]
theorem heap_sortK {α : Type} [Inhabited α] {f : α → List Value} {k : Nat} (hk : ∀ x, (f x).length = k) {w : World} {B T m : Nat} {c rs : List Value} {d : Array α} {os : Array Obj} (hB : w.heap[B]? = some (.cells (c ++ rs).toArray T (0, 0))) (hc : c.length = d.size * k) :
    (sortWorldK f k w B 0 m d os).heap[B]? = some (.cells (d.toList.flatMap f ++ rs).toArray T (0, 0)) := by
  have hlt := (Array.getElem?_eq_some_iff.1 hB).1
  show ((w.heap.modify B (onCells (putCells id 0 (flatK f k d)))) ++ os)[B]? = _
  rw [Array.getElem?_append_left (by simpa using hlt), Array.getElem?_modify, if_pos rfl, hB]
  show some (Obj.cells (putCells id 0 (flatK f k d) (c ++ rs).toArray) T (0, 0)) = _
  congr 2
  rw [flatK_eq hk]
  have hl : (d.toList.flatMap f).length = d.size * k := by rw [flatk_len hk]; simp
  unfold putCells
  apply Array.ext_getElem?
  intro i
  simp only [Array.getElem?_mapIdx, Nat.zero_le, true_and, Nat.zero_add, Nat.sub_zero, id]
  by_cases hi : i < d.size * k
  · have h1 : i < (c ++ rs).length := by rw [List.length_append]; omega
    simp only [List.getElem?_toArray, List.getElem?_eq_getElem h1, Option.map_some, List.size_toArray, hl, hi, if_true]
    rw [List.getElem?_append_left (by omega), List.getElem?_eq_getElem (by omega), getElem!_pos _ i (by rw [List.size_toArray]; omega)]
    simp
  · simp only [List.getElem?_toArray, List.size_toArray, hl, hi, if_false]
    rw [List.getElem?_append_right (by omega), List.getElem?_append_right (by omega), hc, hl]
    cases rs[i - d.size * k]? <;> rfl
theorem other_sortK {α : Type} [Inhabited α] {f : α → List Value} {k : Nat} {w : World} {B m i : Nat} {d : Array α} {os : Array Obj} (hi : i < w.heap.size) (hne : i ≠ B) : (sortWorldK f k w B 0 m d os).heap[i]? = w.heap[i]? := by
  show ((w.heap.modify B (onCells (putCells id 0 (flatK f k d)))) ++ os)[i]? = _
  rw [Array.getElem?_append_left (by simpa using hi), Array.getElem?_modify, if_neg (Ne.symm hne)]
def pdqL {α : Type} [Inhabited α] (cf : α → α → Int) (xs : List α) : List α := (pdq (ltOf cf) xs.toArray 0 xs.toArray.size (Go.Lib.bitLen xs.toArray.size) true true).toList
theorem pdqL_perm {α : Type} [Inhabited α] {cf : α → α → Int} (hO : SWO (ltOf cf)) (xs : List α) : (pdqL cf xs).Perm xs := by
  have h := (pdq_sorts (ltOf cf) hO xs.toArray 0 xs.toArray.size (Go.Lib.bitLen xs.toArray.size) true true (Nat.zero_le _) (Nat.le_refl _) (Or.inl rfl)).1
  unfold pdqL
  generalize pdq (ltOf cf) xs.toArray 0 xs.toArray.size (Go.Lib.bitLen xs.toArray.size) true true = d at h ⊢
  obtain ⟨h1, _, h3⟩ := h
  have e1 : d.extract 0 xs.toArray.size = d := by rw [← h1]; simp
  rw [e1] at h3
  simpa using h3
theorem ctr_sort {P : Program} {ρ : Ren} (Ly : SlLaysF0.n6 P ρ) {α : Type} [Inhabited α] {f : α → List Value} {k : Nat} (hk : ∀ x, (f x).length = k) (h1 : ∀ x, (f x).all Value.oneCell' = true) [Ty : TyI P (ρ.t 24) true k] {cf : α → α → Int} (hO : SWO (ltOf cf)) {g : Nat} [FnI P g]
    (hcmp : ∀ M x y, Ctr P g [.agg (f x).toArray, .agg (f y).toArray] M [] (fun v _ _ => v = .int .i64 (cf x y))) (xs : List α) {v : Value} {T n : Nat} {c : List Value} (M : Mem) (hl : xs.length ≤ 100000) (hn : n = xs.length) (hc : c = xs.flatMap f) :
    Ctr P (ρ.f 6) [v, .func (.func g) #[] #[]] M [.row v T k n c] (fun r _ L' => r = .tuple #[] ∧ L' = [.row v T k n ((pdqL cf xs).flatMap f)]) := fun w ho => by
  have hperm := pdqL_perm hO xs
  have hrow := ho.at' (i := 0) rfl
  subst hn hc
  rcases hrow.2 with ⟨h0, A, rfl⟩ | ⟨B, cap, rs, rfl, g0, g1, g2, g3⟩
  · have hx : xs = [] := List.length_eq_zero_iff.1 h0
    subst hx
    have hp0 : pdqL cf ([] : List α) = [] := List.Perm.eq_nil hperm
    refine (AnyF.slices_SortFunc_none Ly A 0 _ w).mono ?_
    rintro e w' ⟨rfl, rfl⟩
    exact ⟨_, M, _, rfl, ⟨rfl, rfl⟩, by rw [hp0]; exact ho⟩
  · have hBin : B ∈ blks [Ent.row (.slice (some ⟨B, 0, none⟩) xs.length cap) T k xs.length (xs.flatMap f)] := by simp [blks, Ent.bs]; omega
    have hbl : blks [Ent.row (.slice (some ⟨B, 0, none⟩) xs.length cap) T k xs.length (xs.flatMap f)] = [B] := by simp [blks, Ent.bs]; omega
    have hlt := (Array.getElem?_eq_some_iff.1 g3).1
    have hlen : (xs.flatMap f).length = xs.toArray.size * k := by rw [flatk_len hk]; simp
    have hlen2 : (xs.toArray.toList.flatMap f).length = xs.toArray.size * k := hlen
    have hC : CmpLays P g #[] f k cf B 0 xs.toArray.size w := by
      intro m os dk hdk x y
      let W := sortWorldK f k w B 0 m dk os
      have hW : Own ⟨P, 0, W, blks [], fun _ => none, []⟩ (fun _ => none) W [] :=
        ⟨rfl, rfl, rfl, Nat.le_refl _, Nat.le_refl _, fun _ _ _ => rfl, fun _ _ h => (by cases h), fun _ _ h => (by cases h), fun _ _ h => h, fun _ _ h => (by cases h), fun _ h => (by cases h), List.nodup_nil, fun _ h => (by cases h)⟩
      have := hcmp (fun _ => none) x y W hW
      refine this.mono ?_
      rintro e w' ⟨v, M', L', rfl, rfl, h2⟩
      exact ⟨rfl, grown_of h2.os h2.tape h2.output h2.dr h2.size (fun i hi => h2.keep i hi (by simp [blks]))⟩
    have hH : HoldsK f k w B 0 xs.toArray := by
      intro j hj
      have hj' : j < xs.toArray.size * k := by simpa using hj
      refine ⟨?_, ?_⟩
      · rw [cell_of_heap g3, Nat.zero_add, List.getElem?_append_left (by omega), flatK_eq hk]
        rw [List.getElem?_eq_getElem (by omega), getElem!_pos _ j (by rw [List.size_toArray]; omega)]
        simp
      · unfold World.frozen?
        simp [g3]
    refine (AnyQ.slices_SortFunc_eq Ly k (fun w => run_isAgg w) (fun w => run_sz w) f hk (fun x v hv => by have := List.all_eq_true.1 (h1 x) v hv; exact this) cf hO g #[] B 0 cap xs.toArray w (fun args w => run_callFunc args w) hC hH hlt (by simp; omega)).mono ?_
    rintro e w' ⟨rfl, q, os, rfl⟩
    have hsz : (pdq (ltOf cf) xs.toArray 0 xs.toArray.size (Go.Lib.bitLen xs.toArray.size) true true).size = xs.length := by
      have := hperm.length_eq; simpa [pdqL] using this
    have hheap := heap_sortK (m := q) (os := os) (d := pdq (ltOf cf) xs.toArray 0 xs.toArray.size (Go.Lib.bitLen xs.toArray.size) true true) hk g3 (by rw [hsz, flatk_len hk])
    refine ⟨_, M, _, rfl, ⟨rfl, rfl⟩, rfl, rfl, rfl, Nat.le_add_right _ _, ?_, ?_, ?_, fun a v hv => .inl hv, fun _ _ h => h, ?_, ?_, ?_, ?_⟩
    · show w.heap.size ≤ ((w.heap.modify B _) ++ os).size
      simp
    · intro i hi hn
      rw [hbl] at hn
      exact other_sortK hi (by simpa using hn)
    · intro a v hv
      have hne : a.block ≠ B := fun e => ho.off a v hv (by rw [e]; exact hBin)
      have h2 := ho.mem a v hv
      rw [World.cell?_of_block (w := w) (other_sortK (cell_lt h2) hne)]
      exact h2
    · intro a v hv hm
      have : blks [Ent.row (.slice (some ⟨B, 0, none⟩) xs.length cap) T k xs.length ((pdqL cf xs).flatMap f)] = [B] := by simp [blks, Ent.bs]; omega
      rw [this] at hm
      exact ho.off a v hv (by rw [hbl]; exact hm)
    · intro e he
      simp at he; subst he
      refine ⟨by rw [flatk_len hk, hperm.length_eq], .inr ⟨B, cap, rs, rfl, g0, g1, g2, hheap⟩⟩
    · simp [blks, Ent.bs, Nat.ne_of_gt g0]
    · intro b hb
      have : blks [Ent.row (.slice (some ⟨B, 0, none⟩) xs.length cap) T k xs.length ((pdqL cf xs).flatMap f)] = [B] := by simp [blks, Ent.bs]; omega
      rw [this] at hb
      exact .inl (by rw [hbl]; exact hb)
end Go.Proofs.YtihgpbpcbbgdiaaGreat
