/- Plain facts on sums, vectors, rights and counters. -/
import Derived.Test.YtihgpbpcbbgdiaaGreatCounter
namespace Go.Proofs.YtihgpbpcbbgdiaaGreat
open Go.RowKit
set_option linter.unusedVariables false
set_option linter.unusedSimpArgs false
theorem sumGo_ok {B : Int} (hB : 0 ≤ B) : ∀ (xs : List Int) (n : Int), (∀ x ∈ xs, -B ≤ x ∧ x ≤ B) → -(1099511627776 - xs.length * B) ≤ n → n ≤ 1099511627776 - xs.length * B → sumGo n xs = some (n + xs.sum)
  | [], n, _, _, _ => by simp [sumGo]
  | x :: xs, n, h, h1, h2 => by
    have hx := h x List.mem_cons_self
    have e : (((x :: xs).length : Nat) : Int) * B = xs.length * B + B := by
      rw [List.length_cons]; push_cast; rw [Int.add_mul, Int.one_mul]
    have h0 : 0 ≤ (xs.length : Int) * B := Int.mul_nonneg (by omega) hB
    rw [e] at h1 h2
    obtain ⟨q, hq⟩ : ∃ q, q = (xs.length : Int) * B := ⟨_, rfl⟩
    rw [← hq] at h1 h2 h0
    rw [sumGo, if_pos (by simp only [Bool.and_eq_true, isN_iff]; omega), sumGo_ok hB xs (n + x) (fun y hy => h y (List.mem_cons_of_mem _ hy)) (by rw [← hq]; omega) (by rw [← hq]; omega), List.sum_cons, Int.add_assoc]
theorem nSum_ok {B : Int} {xs : List Int} (hB : 0 ≤ B) (h : ∀ x ∈ xs, -B ≤ x ∧ x ≤ B) (hl : xs.length * B ≤ 1099511627776) : nSum xs = (xs.sum, 0) := by
  unfold nSum
  rw [sumGo_ok hB xs 0 h (by omega) (by omega), Int.zero_add]; rfl
theorem sumGo_isN : ∀ (xs : List Int) (n m : Int), isN n = true → sumGo n xs = some m → isN m = true
  | [], n, m, h, e => by simp [sumGo] at e; exact e ▸ h
  | x :: xs, n, m, h, e => by
    rw [sumGo] at e
    split at e
    · rename_i hc; simp only [Bool.and_eq_true] at hc; exact sumGo_isN xs _ m hc.2 e
    · cases e
theorem nSum_isN (xs : List Int) : isN (nSum xs).1 = true := by
  unfold nSum
  cases e : sumGo 0 xs with
  | none => rfl
  | some m => exact sumGo_isN xs 0 m rfl e
theorem sum_le {B : Int} : ∀ {xs : List Int}, (∀ x ∈ xs, x ≤ B) → xs.sum ≤ xs.length * B
  | [], _ => by simp
  | x :: xs, h => by
    have := sum_le (xs := xs) (fun y hy => h y (List.mem_cons_of_mem _ hy))
    have hx := h x List.mem_cons_self
    rw [List.sum_cons, List.length_cons]; push_cast; rw [Int.add_mul, Int.one_mul]; omega
theorem sum_nonneg : ∀ {xs : List Int}, (∀ x ∈ xs, 0 ≤ x) → 0 ≤ xs.sum
  | [], _ => by simp
  | x :: xs, h => by
    have := sum_nonneg (xs := xs) (fun y hy => h y (List.mem_cons_of_mem _ hy))
    have hx := h x List.mem_cons_self
    rw [List.sum_cons]; omega
theorem sum_set : ∀ {xs : List Int} {i : Nat} {x : Int}, i < xs.length → (xs.set i x).sum = xs.sum - xs.getD i 0 + x
  | [], i, x, h => absurd h (Nat.not_lt_zero _)
  | y :: xs, 0, x, h => by simp; omega
  | y :: xs, i + 1, x, h => by
    have := sum_set (xs := xs) (i := i) (x := x) (by simpa using h)
    simp only [List.set_cons_succ, List.sum_cons, this, List.getD_cons_succ]; omega
/-! vectors -/
theorem getD_el {α : Type} {l : List α} {i : Nat} {z : α} (h : i < l.length) : l.getD i z = l[i] := by rw [List.getD_eq_getElem?_getD, List.getElem?_eq_getElem h]; rfl
theorem vAt_get {v : Vec} {i : Int} (h0 : 0 ≤ i) (h1 : i < 16) : vAt v i = v[i.toNat]'(by omega) := by
  unfold vAt
  rw [getD_el (by simp; omega)]; simp
theorem vAt_set {v : Vec} {i j x : Int} (h0 : 0 ≤ i) (h1 : i < 16) (g0 : 0 ≤ j) (g1 : j < 16) : vAt (vSet v i x) j = if i = j then x else vAt v j := by
  rw [vAt_get g0 g1, vAt_get g0 g1]
  unfold vSet
  rw [Vector.getElem_setIfInBounds (by omega)]
  by_cases e : i = j
  · subst e; simp
  · rw [if_neg (by omega), if_neg e]
theorem vAt_join {a b : Vec} {i : Int} (h0 : 0 ≤ i) (h1 : i < 16) : vAt (vJoin a b) i = max (vAt a i) (vAt b i) := by
  rw [vAt_get h0 h1, vAt_get h0 h1, vAt_get h0 h1]; unfold vJoin; simp
theorem vAt_Z {i : Int} : vAt vZ i = 0 := by
  unfold vAt vZ
  rw [Vector.toList_replicate, List.getD_eq_getElem?_getD, List.getElem?_replicate]
  split <;> rfl
theorem vec_ext {a b : Vec} (h : ∀ i : Int, 0 ≤ i → i < 16 → vAt a i = vAt b i) : a = b := by
  apply Vector.ext
  intro i hi
  have := h i (by omega) (by omega)
  rw [vAt_get (by omega) (by omega), vAt_get (by omega) (by omega)] at this
  simpa using this
theorem mAt_at {m : Vector Vec 16} {i : Int} (h0 : 0 ≤ i) (h1 : i < 16) : mAt m i = m[i.toNat]'(by omega) := by
  unfold mAt
  rw [getD_el (by simp; omega)]; simp
theorem mAt_set {m : Vector Vec 16} {i j : Int} {x : Vec} (h0 : 0 ≤ i) (h1 : i < 16) (g0 : 0 ≤ j) (g1 : j < 16) : mAt (mSet m i x) j = if i = j then x else mAt m j := by
  rw [mAt_at g0 g1, mAt_at g0 g1]
  unfold mSet
  rw [Vector.getElem_setIfInBounds (by omega)]
  by_cases e : i = j
  · subst e; simp
  · rw [if_neg (by omega), if_neg e]
theorem mAt_join {a b : Vector Vec 16} {i : Int} (h0 : 0 ≤ i) (h1 : i < 16) : mAt (Vector.zipWith vJoin a b) i = vJoin (mAt a i) (mAt b i) := by
  rw [mAt_at h0 h1, mAt_at h0 h1, mAt_at h0 h1]; simp
theorem mAt_Z {i : Int} : mAt (Vector.replicate 16 vZ) i = vZ := by
  unfold mAt
  rw [Vector.toList_replicate, List.getD_eq_getElem?_getD, List.getElem?_replicate]
  split <;> rfl
theorem mem_vec {v : Vec} {x : Int} (h : x ∈ v.toList) : ∃ i : Int, 0 ≤ i ∧ i < 16 ∧ x = vAt v i := by
  obtain ⟨i, hi, rfl⟩ := List.getElem_of_mem h
  have : i < 16 := by simpa using hi
  exact ⟨i, by omega, by omega, by rw [vAt_get (by omega) (by omega)]; simp⟩
theorem mem_mat {m : Vector Vec 16} {x : Vec} (h : x ∈ m.toList) : ∃ i : Int, 0 ≤ i ∧ i < 16 ∧ x = mAt m i := by
  obtain ⟨i, hi, rfl⟩ := List.getElem_of_mem h
  have : i < 16 := by simpa using hi
  exact ⟨i, by omega, by omega, by rw [mAt_at (by omega) (by omega)]; simp⟩
/-- entries from 0 to B -/
def vBd (v : Vec) (B : Int) : Prop := ∀ i : Int, 0 ≤ i → i < 16 → 0 ≤ vAt v i ∧ vAt v i ≤ B
structure rBd (r : Rights) (B : Int) : Prop where
  given : vBd r.given B
  used : vBd r.used B
  moved : ∀ i : Int, 0 ≤ i → i < 16 → vBd (mAt r.moved i) B
theorem vBd.mono {v : Vec} {B C : Int} (h : vBd v B) (hC : B ≤ C) : vBd v C := fun i h0 h1 => ⟨(h i h0 h1).1, by have := (h i h0 h1).2; omega⟩
theorem rBd.mono {r : Rights} {B C : Int} (h : rBd r B) (hC : B ≤ C) : rBd r C := ⟨h.given.mono hC, h.used.mono hC, fun i h0 h1 => (h.moved i h0 h1).mono hC⟩
theorem vBd.join {a b : Vec} {B : Int} (h : vBd a B) (h' : vBd b B) : vBd (vJoin a b) B := fun i h0 h1 => by
  rw [vAt_join h0 h1]
  have := h i h0 h1; have := h' i h0 h1; omega
theorem rJoin_eq (a b : Rights) : rJoin a b = ⟨vJoin a.given b.given, vJoin a.used b.used, Vector.zipWith vJoin a.moved b.moved⟩ := by unfold rJoin; rfl
theorem rBd.join {a b : Rights} {B : Int} (h : rBd a B) (h' : rBd b B) : rBd (rJoin a b) B := by
  rw [rJoin_eq]; exact ⟨h.given.join h'.given, h.used.join h'.used, fun i h0 h1 => by
    show vBd (mAt (Vector.zipWith vJoin a.moved b.moved) i) B
    rw [mAt_join h0 h1]; exact (h.moved i h0 h1).join (h'.moved i h0 h1)⟩
theorem vBd.grow {v : Vec} {B k n N : Int} (h : vBd v B) (h0 : 0 ≤ k) (h1 : k < 16) (hn : 0 ≤ n) (hN : n ≤ N) : vBd (vSet v k (vAt v k + n)) (B + N) := fun i g0 g1 => by
  rw [vAt_set h0 h1 g0 g1]
  have := h k h0 h1; have := h i g0 g1
  split <;> omega
theorem vBd.Z {B : Int} (h : 0 ≤ B) : vBd vZ B := fun i _ _ => by rw [vAt_Z]; omega
theorem rBd.Z {B : Int} (h : 0 ≤ B) : rBd rZ B := ⟨vBd.Z h, vBd.Z h, fun i _ _ => by
  show vBd (mAt (Vector.replicate 16 vZ) i) B
  rw [mAt_Z]; exact vBd.Z h⟩
/-! what grows -/
theorem nAdd_ok {a b : Int} (h : (nAdd a b).2 = 0) : (nAdd a b).1 = a + b := by
  unfold nAdd at *; split at h
  · rename_i hc; rw [if_pos hc]
  · simp at h
theorem nAdd_of {a b : Int} (h : isN a = true) (h' : isN b = true) (h2 : isN (a + b) = true) : nAdd a b = (a + b, 0) := by
  unfold nAdd; rw [if_pos (by simp [h, h', h2])]
theorem vGrow_ok {v : Vec} {k n : Int} (h : (vGrow v k n).2 = 0) : 0 ≤ k ∧ k < 16 ∧ 0 ≤ n ∧ (vGrow v k n).1 = vSet v k (vAt v k + n) := by
  unfold vGrow at *
  split at h
  · rename_i hc
    rw [if_pos hc]
    split at h
    · rename_i h2
      rw [if_pos h2, nAdd_ok h2]; exact ⟨hc.1, hc.2.1, hc.2.2, rfl⟩
    · rename_i h2; exact absurd h h2
  · simp at h
theorem vGrow_of {v : Vec} {k n : Int} (h0 : 0 ≤ k) (h1 : k < 16) (hn : 0 ≤ n) (h : isN (vAt v k) = true) (h' : isN n = true) (h2 : isN (vAt v k + n) = true) : vGrow v k n = (vSet v k (vAt v k + n), 0) := by
  unfold vGrow
  rw [if_pos ⟨h0, h1, hn⟩, nAdd_of h h' h2]; rfl
theorem rGive_ok {r : Rights} {k n : Int} (h : (rGive r k n).2 = 0) : 0 ≤ k ∧ k < 16 ∧ 0 ≤ n ∧ (rGive r k n).1 = { r with given := vSet r.given k (vAt r.given k + n) } := by
  unfold rGive at *
  split at h
  · rename_i hc
    obtain ⟨a, b, c, d⟩ := vGrow_ok hc
    rw [if_pos hc, d]; exact ⟨a, b, c, rfl⟩
  · rename_i hc; exact absurd h hc
theorem rUse_ok {r : Rights} {k n : Int} (h : (rUse r k n).2 = 0) : 0 ≤ k ∧ k < 16 ∧ 0 ≤ n ∧ rEnough r k n = 0 ∧ (rUse r k n).1 = { r with used := vSet r.used k (vAt r.used k + n) } := by
  unfold rUse at *
  split at h
  · rename_i h0
    rw [if_pos h0]
    split at h
    · rename_i hc
      obtain ⟨a, b, c, d⟩ := vGrow_ok hc
      rw [if_pos hc, d]; exact ⟨a, b, c, h0, rfl⟩
    · rename_i hc; exact absurd h hc
  · rename_i hc; exact absurd h hc
theorem rMove_ok {r : Rights} {i k n : Int} (h : (rMove r i k n).2 = 0) : 0 ≤ i ∧ i < 16 ∧ 0 ≤ k ∧ k < 16 ∧ i ≠ k ∧ 0 ≤ n ∧ rEnough r i n = 0 ∧ (rMove r i k n).1 = { r with moved := mSet r.moved i (vSet (mAt r.moved i) k (vAt (mAt r.moved i) k + n)) } := by
  unfold rMove at *
  split at h
  · rename_i hq
    rw [if_pos hq]
    simp only [Bool.and_eq_true, decide_eq_true_eq] at hq
    obtain ⟨⟨q1, q2⟩, q3⟩ := hq
    have q1 := isR_t q1
    split at h
    · rename_i h0
      rw [if_pos h0]
      split at h
      · rename_i hc
        obtain ⟨a, b, c, d⟩ := vGrow_ok hc
        rw [if_pos hc, d]; exact ⟨q1.1, q1.2, a, b, q3, c, h0, rfl⟩
      · rename_i hc; exact absurd h hc
    · rename_i hc; exact absurd h hc
  · simp at h
theorem both_ok {c d : Counter} {p1 p2 : Rights × Int} (h : (both c p1 p2 d).2 = 0) : p1.2 = 0 ∧ p2.2 = 0 ∧ (both c p1 p2 d).1 = d := by
  unfold both cDone bothE at *
  by_cases h1 : p1.2 = 0 <;> by_cases h2 : p2.2 = 0 <;> simp_all
theorem both_of {c d : Counter} {p1 p2 : Rights × Int} (h1 : p1.2 = 0) (h2 : p2.2 = 0) : both c p1 p2 d = (d, 0) := by
  unfold both cDone bothE; simp [h1, h2]
/-! what is free -/
theorem ng_small {n : Int} (h : -1099511627776 ≤ n) (h' : n ≤ 1099511627776) : ng n = -n := wr (by omega) (by omega)
theorem free_bd {r : Rights} {B k : Int} (h : rBd r B) (hB : B ≤ 1073741824) (h0 : 0 ≤ k) (h1 : k < 16) : ∀ x ∈ freeList r k, -B ≤ x ∧ x ≤ B := by
  intro x hx
  unfold freeList at hx
  simp only [List.mem_cons, List.mem_append, List.mem_map] at hx
  have g := h.given k h0 h1; have u := h.used k h0 h1
  rcases hx with rfl | ⟨row, hrow, rfl⟩ | rfl | hx
  · omega
  · obtain ⟨i, i0, i1, rfl⟩ := mem_mat hrow
    have := h.moved i i0 i1 k h0 h1; omega
  · rw [ng_small (by omega) (by omega)]; omega
  · unfold negs at hx
    obtain ⟨y, hy, rfl⟩ := List.mem_map.1 hx
    obtain ⟨i, i0, i1, rfl⟩ := mem_vec hy
    have := h.moved k h0 h1 i i0 i1
    rw [ng_small (by omega) (by omega)]; omega
theorem free_len (r : Rights) (k : Int) : (freeList r k).length = 34 := by simp [freeList, negs]
theorem rFree_ok {r : Rights} {B k : Int} (h : rBd r B) (hB : B ≤ 1073741824) (h0 : 0 ≤ k) (h1 : k < 16) : rFree r k = ((freeList r k).sum, 0) := by
  unfold rFree
  rw [if_pos (by simp [isR, h0, h1])]
  have hb : 0 ≤ B := by have := h.given k h0 h1; omega
  exact nSum_ok hb (free_bd h hB h0 h1) (by rw [free_len]; omega)
theorem free_le {r : Rights} {B k : Int} (h : rBd r B) (hB : B ≤ 1073741824) (h0 : 0 ≤ k) (h1 : k < 16) : (freeList r k).sum ≤ 34 * B := by
  have := sum_le (B := B) (xs := freeList r k) (fun x hx => (free_bd h hB h0 h1 x hx).2)
  rwa [free_len] at this
theorem free_used {r : Rights} {B k a : Int} (h : rBd r B) (hB : B ≤ 1073741824) (h0 : 0 ≤ k) (h1 : k < 16) (ha : 0 ≤ a) (ha2 : a ≤ 1073741824) : (freeList { r with used := vSet r.used k (vAt r.used k + a) } k).sum = (freeList r k).sum - a := by
  have u := h.used k h0 h1
  unfold freeList
  simp only [List.sum_cons, List.sum_append]
  rw [vAt_set h0 h1 h0 h1, if_pos rfl, ng_small (by omega) (by omega), ng_small (by omega) (by omega)]; omega
theorem free_given {r : Rights} {k a : Int} (h0 : 0 ≤ k) (h1 : k < 16) : (freeList { r with given := vSet r.given k (vAt r.given k + a) } k).sum = (freeList r k).sum + a := by
  unfold freeList
  simp only [List.sum_cons, List.sum_append]
  rw [vAt_set h0 h1 h0 h1, if_pos rfl]; omega
/-! what is the value -/
theorem val_bd {c : Counter} {B : Int} (hd : rBd c.down B) (hu : rBd c.up B) (hB : B ≤ 1073741824) (hi : -B ≤ c.init ∧ c.init ≤ B) : nSum (valList c) = ((valList c).sum, 0) := by
  have hb : 0 ≤ B := by omega
  refine nSum_ok hb (fun x hx => ?_) (by simp [valList, negs]; omega)
  unfold valList at hx
  simp only [List.mem_cons, List.mem_append] at hx
  rcases hx with rfl | hx | hx
  · exact hi
  · obtain ⟨i, i0, i1, rfl⟩ := mem_vec hx
    have := hu.used i i0 i1; omega
  · unfold negs at hx
    obtain ⟨y, hy, rfl⟩ := List.mem_map.1 hx
    obtain ⟨i, i0, i1, rfl⟩ := mem_vec hy
    have := hd.used i i0 i1
    rw [ng_small (by omega) (by omega)]; omega
theorem negs_set {v : Vec} {B k a : Int} (h : vBd v B) (hB : B ≤ 1073741824) (h0 : 0 ≤ k) (h1 : k < 16) (ha : 0 ≤ a) (ha2 : a ≤ 1073741824) : (negs (vSet v k (vAt v k + a))).sum = (negs v).sum - a := by
  have u := h k h0 h1
  have e : (vSet v k (vAt v k + a)).toList = v.toList.set k.toNat (vAt v k + a) := by unfold vSet; simp
  unfold negs
  rw [e, List.map_set, sum_set (by simp; omega), ng_small (by omega) (by omega)]
  have : (v.toList.map ng).getD k.toNat 0 = -(vAt v k) := by
    rw [getD_el (by simp; omega), List.getElem_map, vAt_get h0 h1]
    rw [vAt_get h0 h1] at u
    simpa using ng_small (by omega) (by omega)
  omega
end Go.Proofs.YtihgpbpcbbgdiaaGreat
