/- Several texts in one. -/
import Derived.Test.YtihgpbpcbbgdiaaGreatOrd11
import Derived.Test.YtihgpbpcbbgdiaaGreatOrd15
/- Plain facts on sums, vectors, rights and counters. -/
namespace Go.Proofs.YtihgpbpcbbgdiaaGreat
open Go.RowKit
set_option linter.unusedVariables false
set_option linter.unusedSimpArgs false
theorem sumGo_ok {B : Int} (hB : 0 ≤ B) : ∀ (xs : List Int) (n : Int), (∀ x ∈ xs, -B ≤ x ∧ x ≤ B) → -(1099511627776 - xs.length * B) ≤ n → n ≤ 1099511627776 - xs.length * B → sumGo n xs = some (n + xs.sum)
  | [], n, _, _, _ => by simp [sumGo]
  | x :: xs, n, h, h1, h2 => by
    have hx := h x List.mem_cons_self
    have e : (((x :: xs).length : Nat) : Int) * B = xs.length * B + B := by
      rw [List.length_cons]; push_cast; rw [Int.add_mul, Int.one_mul]
    have h0 : 0 ≤ (xs.length : Int) * B := Int.mul_nonneg (by omega) hB
    rw [e] at h1 h2
    obtain ⟨q, hq⟩ : ∃ q, q = (xs.length : Int) * B := ⟨_, rfl⟩
    rw [← hq] at h1 h2 h0
    rw [sumGo, if_pos (by simp only [Bool.and_eq_true, isN_iff]; omega), sumGo_ok hB xs (n + x) (fun y hy => h y (List.mem_cons_of_mem _ hy)) (by rw [← hq]; omega) (by rw [← hq]; omega), List.sum_cons, Int.add_assoc]
theorem nSum_ok {B : Int} {xs : List Int} (hB : 0 ≤ B) (h : ∀ x ∈ xs, -B ≤ x ∧ x ≤ B) (hl : xs.length * B ≤ 1099511627776) : nSum xs = (xs.sum, 0) := by
  unfold nSum
  rw [sumGo_ok hB xs 0 h (by omega) (by omega), Int.zero_add]; rfl
theorem sumGo_isN : ∀ (xs : List Int) (n m : Int), isN n = true → sumGo n xs = some m → isN m = true
  | [], n, m, h, e => by simp [sumGo] at e; exact e ▸ h
  | x :: xs, n, m, h, e => by
    rw [sumGo] at e
    split at e
    · rename_i hc; simp only [Bool.and_eq_true] at hc; exact sumGo_isN xs _ m hc.2 e
    · cases e
theorem nSum_isN (xs : List Int) : isN (nSum xs).1 = true := by
  unfold nSum
  cases e : sumGo 0 xs with
  | none => rfl
  | some m => exact sumGo_isN xs 0 m rfl e
theorem sum_le {B : Int} : ∀ {xs : List Int}, (∀ x ∈ xs, x ≤ B) → xs.sum ≤ xs.length * B
  | [], _ => by simp
  | x :: xs, h => by
    have := sum_le (xs := xs) (fun y hy => h y (List.mem_cons_of_mem _ hy))
    have hx := h x List.mem_cons_self
    rw [List.sum_cons, List.length_cons]; push_cast; rw [Int.add_mul, Int.one_mul]; omega
theorem sum_nonneg : ∀ {xs : List Int}, (∀ x ∈ xs, 0 ≤ x) → 0 ≤ xs.sum
  | [], _ => by simp
  | x :: xs, h => by
    have := sum_nonneg (xs := xs) (fun y hy => h y (List.mem_cons_of_mem _ hy))
    have hx := h x List.mem_cons_self
    rw [List.sum_cons]; omega
theorem sum_set : ∀ {xs : List Int} {i : Nat} {x : Int}, i < xs.length → (xs.set i x).sum = xs.sum - xs.getD i 0 + x
  | [], i, x, h => absurd h (Nat.not_lt_zero _)
  | y :: xs, 0, x, h => by simp; omega
  | y :: xs, i + 1, x, h => by
    have := sum_set (xs := xs) (i := i) (x := x) (by simpa using h)
    simp only [List.set_cons_succ, List.sum_cons, this, List.getD_cons_succ]; omega
/-! vectors -/
theorem getD_el {α : Type} {l : List α} {i : Nat} {z : α} (h : i < l.length) : l.getD i z = l[i] := by rw [List.getD_eq_getElem?_getD, List.getElem?_eq_getElem h]; rfl
theorem vAt_get {v : Vec} {i : Int} (h0 : 0 ≤ i) (h1 : i < 16) : vAt v i = v[i.toNat]'(by omega) := by
  unfold vAt
  rw [getD_el (by simp; omega)]; simp
theorem vAt_set {v : Vec} {i j x : Int} (h0 : 0 ≤ i) (h1 : i < 16) (g0 : 0 ≤ j) (g1 : j < 16) : vAt (vSet v i x) j = if i = j then x else vAt v j := by
  rw [vAt_get g0 g1, vAt_get g0 g1]
  unfold vSet
  rw [Vector.getElem_setIfInBounds (by omega)]
  by_cases e : i = j
  · subst e; simp
  · rw [if_neg (by omega), if_neg e]
theorem vAt_join {a b : Vec} {i : Int} (h0 : 0 ≤ i) (h1 : i < 16) : vAt (vJoin a b) i = max (vAt a i) (vAt b i) := by
  rw [vAt_get h0 h1, vAt_get h0 h1, vAt_get h0 h1]; unfold vJoin; simp
theorem vAt_Z {i : Int} : vAt vZ i = 0 := by
  unfold vAt vZ
  rw [Vector.toList_replicate, List.getD_eq_getElem?_getD, List.getElem?_replicate]
  split <;> rfl
theorem vec_ext {a b : Vec} (h : ∀ i : Int, 0 ≤ i → i < 16 → vAt a i = vAt b i) : a = b := by
  apply Vector.ext
  intro i hi
  have := h i (by omega) (by omega)
  rw [vAt_get (by omega) (by omega), vAt_get (by omega) (by omega)] at this
  simpa using this
theorem mAt_at {m : Vector Vec 16} {i : Int} (h0 : 0 ≤ i) (h1 : i < 16) : mAt m i = m[i.toNat]'(by omega) := by
  unfold mAt
  rw [getD_el (by simp; omega)]; simp
theorem mAt_set {m : Vector Vec 16} {i j : Int} {x : Vec} (h0 : 0 ≤ i) (h1 : i < 16) (g0 : 0 ≤ j) (g1 : j < 16) : mAt (mSet m i x) j = if i = j then x else mAt m j := by
  rw [mAt_at g0 g1, mAt_at g0 g1]
  unfold mSet
  rw [Vector.getElem_setIfInBounds (by omega)]
  by_cases e : i = j
  · subst e; simp
  · rw [if_neg (by omega), if_neg e]
theorem mAt_join {a b : Vector Vec 16} {i : Int} (h0 : 0 ≤ i) (h1 : i < 16) : mAt (Vector.zipWith vJoin a b) i = vJoin (mAt a i) (mAt b i) := by
  rw [mAt_at h0 h1, mAt_at h0 h1, mAt_at h0 h1]; simp
theorem mAt_Z {i : Int} : mAt (Vector.replicate 16 vZ) i = vZ := by
  unfold mAt
  rw [Vector.toList_replicate, List.getD_eq_getElem?_getD, List.getElem?_replicate]
  split <;> rfl
theorem mem_vec {v : Vec} {x : Int} (h : x ∈ v.toList) : ∃ i : Int, 0 ≤ i ∧ i < 16 ∧ x = vAt v i := by
  obtain ⟨i, hi, rfl⟩ := List.getElem_of_mem h
  have : i < 16 := by simpa using hi
  exact ⟨i, by omega, by omega, by rw [vAt_get (by omega) (by omega)]; simp⟩
theorem mem_mat {m : Vector Vec 16} {x : Vec} (h : x ∈ m.toList) : ∃ i : Int, 0 ≤ i ∧ i < 16 ∧ x = mAt m i := by
  obtain ⟨i, hi, rfl⟩ := List.getElem_of_mem h
  have : i < 16 := by simpa using hi
  exact ⟨i, by omega, by omega, by rw [mAt_at (by omega) (by omega)]; simp⟩
/-- entries from 0 to B -/
def vBd (v : Vec) (B : Int) : Prop := ∀ i : Int, 0 ≤ i → i < 16 → 0 ≤ vAt v i ∧ vAt v i ≤ B
structure rBd (r : Rights) (B : Int) : Prop where
  given : vBd r.given B
  used : vBd r.used B
  moved : ∀ i : Int, 0 ≤ i → i < 16 → vBd (mAt r.moved i) B
theorem vBd.mono {v : Vec} {B C : Int} (h : vBd v B) (hC : B ≤ C) : vBd v C := fun i h0 h1 => ⟨(h i h0 h1).1, by have := (h i h0 h1).2; omega⟩
theorem rBd.mono {r : Rights} {B C : Int} (h : rBd r B) (hC : B ≤ C) : rBd r C := ⟨h.given.mono hC, h.used.mono hC, fun i h0 h1 => (h.moved i h0 h1).mono hC⟩
theorem vBd.join {a b : Vec} {B : Int} (h : vBd a B) (h' : vBd b B) : vBd (vJoin a b) B := fun i h0 h1 => by
  rw [vAt_join h0 h1]
  have := h i h0 h1; have := h' i h0 h1; omega
theorem rJoin_eq (a b : Rights) : rJoin a b = ⟨vJoin a.given b.given, vJoin a.used b.used, Vector.zipWith vJoin a.moved b.moved⟩ := by unfold rJoin; rfl
theorem rBd.join {a b : Rights} {B : Int} (h : rBd a B) (h' : rBd b B) : rBd (rJoin a b) B := by
  rw [rJoin_eq]; exact ⟨h.given.join h'.given, h.used.join h'.used, fun i h0 h1 => by
    show vBd (mAt (Vector.zipWith vJoin a.moved b.moved) i) B
    rw [mAt_join h0 h1]; exact (h.moved i h0 h1).join (h'.moved i h0 h1)⟩
theorem vBd.grow {v : Vec} {B k n N : Int} (h : vBd v B) (h0 : 0 ≤ k) (h1 : k < 16) (hn : 0 ≤ n) (hN : n ≤ N) : vBd (vSet v k (vAt v k + n)) (B + N) := fun i g0 g1 => by
  rw [vAt_set h0 h1 g0 g1]
  have := h k h0 h1; have := h i g0 g1
  split <;> omega
theorem vBd.Z {B : Int} (h : 0 ≤ B) : vBd vZ B := fun i _ _ => by rw [vAt_Z]; omega
theorem rBd.Z {B : Int} (h : 0 ≤ B) : rBd rZ B := ⟨vBd.Z h, vBd.Z h, fun i _ _ => by
  show vBd (mAt (Vector.replicate 16 vZ) i) B
  rw [mAt_Z]; exact vBd.Z h⟩
/-! what grows -/
theorem nAdd_ok {a b : Int} (h : (nAdd a b).2 = 0) : (nAdd a b).1 = a + b := by
  unfold nAdd at *; split at h
  · rename_i hc; rw [if_pos hc]
  · simp at h
theorem nAdd_of {a b : Int} (h : isN a = true) (h' : isN b = true) (h2 : isN (a + b) = true) : nAdd a b = (a + b, 0) := by
  unfold nAdd; rw [if_pos (by simp [h, h', h2])]
theorem vGrow_ok {v : Vec} {k n : Int} (h : (vGrow v k n).2 = 0) : 0 ≤ k ∧ k < 16 ∧ 0 ≤ n ∧ (vGrow v k n).1 = vSet v k (vAt v k + n) := by
  unfold vGrow at *
  split at h
  · rename_i hc
    rw [if_pos hc]
    split at h
    · rename_i h2
      rw [if_pos h2, nAdd_ok h2]; exact ⟨hc.1, hc.2.1, hc.2.2, rfl⟩
    · rename_i h2; exact absurd h h2
  · simp at h
theorem vGrow_of {v : Vec} {k n : Int} (h0 : 0 ≤ k) (h1 : k < 16) (hn : 0 ≤ n) (h : isN (vAt v k) = true) (h' : isN n = true) (h2 : isN (vAt v k + n) = true) : vGrow v k n = (vSet v k (vAt v k + n), 0) := by
  unfold vGrow
  rw [if_pos ⟨h0, h1, hn⟩, nAdd_of h h' h2]; rfl
theorem rGive_ok {r : Rights} {k n : Int} (h : (rGive r k n).2 = 0) : 0 ≤ k ∧ k < 16 ∧ 0 ≤ n ∧ (rGive r k n).1 = { r with given := vSet r.given k (vAt r.given k + n) } := by
  unfold rGive at *
  split at h
  · rename_i hc
    obtain ⟨a, b, c, d⟩ := vGrow_ok hc
    rw [if_pos hc, d]; exact ⟨a, b, c, rfl⟩
  · rename_i hc; exact absurd h hc
theorem rUse_ok {r : Rights} {k n : Int} (h : (rUse r k n).2 = 0) : 0 ≤ k ∧ k < 16 ∧ 0 ≤ n ∧ rEnough r k n = 0 ∧ (rUse r k n).1 = { r with used := vSet r.used k (vAt r.used k + n) } := by
  unfold rUse at *
  split at h
  · rename_i h0
    rw [if_pos h0]
    split at h
    · rename_i hc
      obtain ⟨a, b, c, d⟩ := vGrow_ok hc
      rw [if_pos hc, d]; exact ⟨a, b, c, h0, rfl⟩
    · rename_i hc; exact absurd h hc
  · rename_i hc; exact absurd h hc
theorem rMove_ok {r : Rights} {i k n : Int} (h : (rMove r i k n).2 = 0) : 0 ≤ i ∧ i < 16 ∧ 0 ≤ k ∧ k < 16 ∧ i ≠ k ∧ 0 ≤ n ∧ rEnough r i n = 0 ∧ (rMove r i k n).1 = { r with moved := mSet r.moved i (vSet (mAt r.moved i) k (vAt (mAt r.moved i) k + n)) } := by
  unfold rMove at *
  split at h
  · rename_i hq
    rw [if_pos hq]
    simp only [Bool.and_eq_true, decide_eq_true_eq] at hq
    obtain ⟨⟨q1, q2⟩, q3⟩ := hq
    have q1 := isR_t q1
    split at h
    · rename_i h0
      rw [if_pos h0]
      split at h
      · rename_i hc
        obtain ⟨a, b, c, d⟩ := vGrow_ok hc
        rw [if_pos hc, d]; exact ⟨q1.1, q1.2, a, b, q3, c, h0, rfl⟩
      · rename_i hc; exact absurd h hc
    · rename_i hc; exact absurd h hc
  · simp at h
theorem both_ok {c d : Counter} {p1 p2 : Rights × Int} (h : (both c p1 p2 d).2 = 0) : p1.2 = 0 ∧ p2.2 = 0 ∧ (both c p1 p2 d).1 = d := by
  unfold both cDone bothE at *
  by_cases h1 : p1.2 = 0 <;> by_cases h2 : p2.2 = 0 <;> simp_all
theorem both_of {c d : Counter} {p1 p2 : Rights × Int} (h1 : p1.2 = 0) (h2 : p2.2 = 0) : both c p1 p2 d = (d, 0) := by
  unfold both cDone bothE; simp [h1, h2]
/-! what is free -/
theorem ng_small {n : Int} (h : -1099511627776 ≤ n) (h' : n ≤ 1099511627776) : ng n = -n := wr (by omega) (by omega)
theorem free_bd {r : Rights} {B k : Int} (h : rBd r B) (hB : B ≤ 1073741824) (h0 : 0 ≤ k) (h1 : k < 16) : ∀ x ∈ freeList r k, -B ≤ x ∧ x ≤ B := by
  intro x hx
  unfold freeList at hx
  simp only [List.mem_cons, List.mem_append, List.mem_map] at hx
  have g := h.given k h0 h1; have u := h.used k h0 h1
  rcases hx with rfl | ⟨row, hrow, rfl⟩ | rfl | hx
  · omega
  · obtain ⟨i, i0, i1, rfl⟩ := mem_mat hrow
    have := h.moved i i0 i1 k h0 h1; omega
  · rw [ng_small (by omega) (by omega)]; omega
  · unfold negs at hx
    obtain ⟨y, hy, rfl⟩ := List.mem_map.1 hx
    obtain ⟨i, i0, i1, rfl⟩ := mem_vec hy
    have := h.moved k h0 h1 i i0 i1
    rw [ng_small (by omega) (by omega)]; omega
theorem free_len (r : Rights) (k : Int) : (freeList r k).length = 34 := by simp [freeList, negs]
theorem rFree_ok {r : Rights} {B k : Int} (h : rBd r B) (hB : B ≤ 1073741824) (h0 : 0 ≤ k) (h1 : k < 16) : rFree r k = ((freeList r k).sum, 0) := by
  unfold rFree
  rw [if_pos (by simp [isR, h0, h1])]
  have hb : 0 ≤ B := by have := h.given k h0 h1; omega
  exact nSum_ok hb (free_bd h hB h0 h1) (by rw [free_len]; omega)
theorem free_le {r : Rights} {B k : Int} (h : rBd r B) (hB : B ≤ 1073741824) (h0 : 0 ≤ k) (h1 : k < 16) : (freeList r k).sum ≤ 34 * B := by
  have := sum_le (B := B) (xs := freeList r k) (fun x hx => (free_bd h hB h0 h1 x hx).2)
  rwa [free_len] at this
theorem free_used {r : Rights} {B k a : Int} (h : rBd r B) (hB : B ≤ 1073741824) (h0 : 0 ≤ k) (h1 : k < 16) (ha : 0 ≤ a) (ha2 : a ≤ 1073741824) : (freeList { r with used := vSet r.used k (vAt r.used k + a) } k).sum = (freeList r k).sum - a := by
  have u := h.used k h0 h1
  unfold freeList
  simp only [List.sum_cons, List.sum_append]
  rw [vAt_set h0 h1 h0 h1, if_pos rfl, ng_small (by omega) (by omega), ng_small (by omega) (by omega)]; omega
theorem free_given {r : Rights} {k a : Int} (h0 : 0 ≤ k) (h1 : k < 16) : (freeList { r with given := vSet r.given k (vAt r.given k + a) } k).sum = (freeList r k).sum + a := by
  unfold freeList
  simp only [List.sum_cons, List.sum_append]
  rw [vAt_set h0 h1 h0 h1, if_pos rfl]; omega
/-! what is the value -/
theorem val_bd {c : Counter} {B : Int} (hd : rBd c.down B) (hu : rBd c.up B) (hB : B ≤ 1073741824) (hi : -B ≤ c.init ∧ c.init ≤ B) : nSum (valList c) = ((valList c).sum, 0) := by
  have hb : 0 ≤ B := by omega
  refine nSum_ok hb (fun x hx => ?_) (by simp [valList, negs]; omega)
  unfold valList at hx
  simp only [List.mem_cons, List.mem_append] at hx
  rcases hx with rfl | hx | hx
  · exact hi
  · obtain ⟨i, i0, i1, rfl⟩ := mem_vec hx
    have := hu.used i i0 i1; omega
  · unfold negs at hx
    obtain ⟨y, hy, rfl⟩ := List.mem_map.1 hx
    obtain ⟨i, i0, i1, rfl⟩ := mem_vec hy
    have := hd.used i i0 i1
    rw [ng_small (by omega) (by omega)]; omega
theorem negs_set {v : Vec} {B k a : Int} (h : vBd v B) (hB : B ≤ 1073741824) (h0 : 0 ≤ k) (h1 : k < 16) (ha : 0 ≤ a) (ha2 : a ≤ 1073741824) : (negs (vSet v k (vAt v k + a))).sum = (negs v).sum - a := by
  have u := h k h0 h1
  have e : (vSet v k (vAt v k + a)).toList = v.toList.set k.toNat (vAt v k + a) := by unfold vSet; simp
  unfold negs
  rw [e, List.map_set, sum_set (by simp; omega), ng_small (by omega) (by omega)]
  have : (v.toList.map ng).getD k.toNat 0 = -(vAt v k) := by
    rw [getD_el (by simp; omega), List.getElem_map, vAt_get h0 h1]
    rw [vAt_get h0 h1] at u
    simpa using ng_small (by omega) (by omega)
  omega
end Go.Proofs.YtihgpbpcbbgdiaaGreat

/- Plain facts on what reserving, ending, expiring and joining make of holds. -/
namespace Go.Proofs.YtihgpbpcbbgdiaaGreat
open Go.RowKit Go.Sort
set_option linter.unusedVariables false
set_option linter.unusedSimpArgs false
theorem hRight_iff (h : Hold) : hRight h = true ↔ 0 ≤ h.replica ∧ h.replica < 16 ∧ 1 ≤ h.number ∧ h.number ≤ 1099511627776 ∧ 0 ≤ h.amount ∧ h.amount ≤ 1099511627776 ∧ 0 ≤ h.due ∧ h.due ≤ 1099511627776 ∧ 1 ≤ h.state ∧ h.state ≤ 3 := by
  unfold hRight isR cnt
  simp only [Bool.and_eq_true, decide_eq_true_eq, isN_iff]; omega
theorem hPlain_cons (x : Hold) (hs : List Hold) (r : Int) : hPlain (x :: hs) r = (if held r x then x.amount else 0) + hPlain hs r := by
  unfold hPlain
  rw [List.filter_cons]; split <;> simp
theorem hPlain_append (hs bs : List Hold) (r : Int) : hPlain (hs ++ bs) r = hPlain hs r + hPlain bs r := by
  unfold hPlain; simp
theorem hSum_go {C : Int} (hC : 0 ≤ C) (r : Int) : ∀ (hs : List Hold) (s : Int), (∀ x ∈ hs, 0 ≤ x.amount ∧ x.amount ≤ C) → 0 ≤ s → s + hs.length * C ≤ 1099511627776 → hs.foldl (hAdd r) s = s + hPlain hs r ∧ 0 ≤ hPlain hs r
  | [], s, _, _, _ => by simp [hPlain]
  | x :: hs, s, h, h0, h1 => by
    have hx := h x List.mem_cons_self
    have e : (((x :: hs).length : Nat) : Int) * C = hs.length * C + C := by rw [List.length_cons]; push_cast; rw [Int.add_mul, Int.one_mul]
    have hn : 0 ≤ (hs.length : Int) * C := Int.mul_nonneg (by omega) hC
    rw [e] at h1
    obtain ⟨q, hq⟩ : ∃ q, q = (hs.length : Int) * C := ⟨_, rfl⟩
    rw [← hq] at h1 hn
    rw [List.foldl_cons, hPlain_cons]
    by_cases hc : x.replica = r ∧ x.state = 1
    · have e1 : hAdd r s x = s + x.amount := by
        unfold hAdd; rw [if_pos hc, wr (by omega) (by omega)]; omega
      have e2 : held r x = true := by simp [held, hc]
      obtain ⟨g1, g2⟩ := hSum_go hC r hs (s + x.amount) (fun y hy => h y (List.mem_cons_of_mem _ hy)) (by omega) (by rw [← hq]; omega)
      rw [e1, g1, e2, if_pos rfl]; omega
    · have e1 : hAdd r s x = s := by unfold hAdd; rw [if_neg hc]
      have e2 : held r x = false := by
        unfold held; rw [← Bool.decide_and, decide_eq_false hc]
      obtain ⟨g1, g2⟩ := hSum_go hC r hs s (fun y hy => h y (List.mem_cons_of_mem _ hy)) (by omega) (by rw [← hq]; omega)
      rw [e1, g1, e2]; simp; exact g2
theorem hSum_ok {C : Int} {hs : List Hold} {r : Int} (hC : 0 ≤ C) (h : ∀ x ∈ hs, 0 ≤ x.amount ∧ x.amount ≤ C) (h1 : hs.length * C ≤ 1099511627776) : hSum hs r = hPlain hs r ∧ 0 ≤ hPlain hs r := by
  unfold hSum
  have := hSum_go hC r hs 0 h (Int.le_refl _) (by omega)
  rw [Int.zero_add] at this; exact this
/-! numbers -/
theorem hNum_go (r : Int) : ∀ (hs : List Hold) (a : Int), (∀ h ∈ hs, 1 ≤ h.number ∧ h.number ≤ 1099511627776) →
    a ≤ hs.foldl (hNext r) a ∧ (∀ h ∈ hs, h.replica = r → h.number + 1 ≤ hs.foldl (hNext r) a) ∧ (∀ T, a ≤ T → (∀ h ∈ hs, h.number + 1 ≤ T) → hs.foldl (hNext r) a ≤ T)
  | [], a, _ => ⟨Int.le_refl _, fun h hh => absurd hh List.not_mem_nil, fun T h _ => h⟩
  | x :: hs, a, h => by
    have hx := h x List.mem_cons_self
    have e : hNext r a x = if x.replica = r then max a (x.number + 1) else a := by
      unfold hNext; split
      · rw [wr (by omega) (by omega)]
      · rfl
    obtain ⟨g1, g2, g3⟩ := hNum_go r hs (hNext r a x) (fun y hy => h y (List.mem_cons_of_mem _ hy))
    rw [List.foldl_cons]
    refine ⟨?_, fun y hy hr => ?_, fun T h1 h2 => g3 T ?_ (fun y hy => h2 y (List.mem_cons_of_mem _ hy))⟩
    · refine Int.le_trans ?_ g1; rw [e]; split <;> omega
    · rcases List.mem_cons.1 hy with rfl | hy
      · refine Int.le_trans ?_ g1; rw [e, if_pos hr]; omega
      · exact g2 y hy hr
    · have := h2 x List.mem_cons_self
      rw [e]; split <;> omega
theorem hNum_facts {hs : List Hold} {r : Int} (h : ∀ h ∈ hs, hRight h = true) : 1 ≤ hNum hs r ∧ (∀ h ∈ hs, h.replica = r → h.number < hNum hs r) ∧ (∀ T, 0 ≤ T → (∀ h ∈ hs, h.number ≤ T) → hNum hs r ≤ T + 1) := by
  obtain ⟨g1, g2, g3⟩ := hNum_go r hs 1 (fun x hx => by have := (hRight_iff x).1 (h x hx); omega)
  unfold hNum
  refine ⟨g1, fun x hx hr => by have := g2 x hx hr; omega, fun T h0 h1 => g3 (T + 1) (by omega) (fun x hx => by have := h1 x hx; omega)⟩
/-! the same keys -/
theorem hRights_keys {hs bs : List Hold} (h : hRights hs = true) (hk : bs.map hKey = hs.map hKey) (hr : ∀ x ∈ bs, hRight x = true) : hRights bs = true := by
  rw [hRights_iff] at h ⊢
  have e : ∀ l : List Hold, l.Pairwise (fun a b => hCmp a b < 0) ↔ (l.map hKey).Pairwise (fun p q => p.1 < q.1 ∨ (p.1 = q.1 ∧ p.2 < q.2)) := fun l => by
    rw [List.pairwise_map]
    constructor
    · exact fun hp => hp.imp (fun {a b} hab => by rwa [hCmp_lt] at hab)
    · exact fun hp => hp.imp (fun {a b} hab => by rw [hCmp_lt]; exact hab)
  refine ⟨hr, ?_, ?_⟩
  · rw [e, hk, ← e]; exact h.2.1
  · have := congrArg List.length hk
    simp only [List.length_map] at this
    rw [this]; exact h.2.2
theorem map_set_keys {hs : List Hold} {j : Nat} {s : Int} (hj : j < hs.length) : (hs.set j { ix hZ hs j with state := s }).map hKey = hs.map hKey := by
  rw [List.map_set]
  have : hKey { ix hZ hs j with state := s } = (hs.map hKey)[j]'(by simpa using hj) := by rw [List.getElem_map, ix_eq hj]
  rw [this, List.set_getElem_self]
/-! reserving -/
theorem hReserve_ok {hs : List Hold} {i n d : Int} (h : (hReserve hs i n d).2.2 = 0) : hRights hs = true ∧ hRight (hNew hs i n d) = true ∧ hs.length ≠ 16 ∧ hReserve hs i n d = (hSort (hs ++ [hNew hs i n d]), hNum hs i, 0) := by
  unfold hReserve at *
  split at h
  · rename_i hc
    rw [Bool.and_eq_true] at hc
    rw [if_pos (by simp [hc])]
    split at h
    · simp at h
    · rename_i h2; rw [if_neg h2]; exact ⟨hc.1, hc.2, h2, rfl⟩
  · simp at h
theorem hReserve_of {hs : List Hold} {i n d : Int} (h : hRights hs = true) (h2 : hRight (hNew hs i n d) = true) (h3 : hs.length ≠ 16) : hReserve hs i n d = (hSort (hs ++ [hNew hs i n d]), hNum hs i, 0) := by
  unfold hReserve; rw [if_pos (by simp [h, h2]), if_neg h3]
theorem reserve_rights {hs : List Hold} {i n d : Int} (h : hRights hs = true) (h2 : hRight (hNew hs i n d) = true) (h3 : hs.length ≠ 16) : hRights (hSort (hs ++ [hNew hs i n d])) = true := by
  have h1 := (hRights_iff hs).1 h
  refine hRights_sort (fun x hx => ?_) ?_ (by simp; omega)
  · rcases List.mem_append.1 hx with hx | hx
    · exact h1.1 x hx
    · rw [List.mem_singleton.1 hx]; exact h2
  · rw [List.map_append, List.nodup_append]
    refine ⟨hRights_nodup h, by simp, fun a ha b hb e => ?_⟩
    subst e
    obtain ⟨x, hx, rfl⟩ := List.mem_map.1 ha
    simp only [List.map_cons, List.map_nil, List.mem_singleton, hKey, Prod.mk.injEq] at hb
    have := (hNum_facts (r := i) h1.1).2.1 x hx hb.1
    have e2 : (hNew hs i n d).number = hNum hs i := rfl
    omega
/-! ending -/
theorem hEnd_ok {hs : List Hold} {i n s : Int} (h : (hEnd hs i n s).2.2 = 0) : hRights hs = true ∧ (s = 2 ∨ s = 3) ∧ ∃ j, j < hs.length ∧ hPlace hs i n = (j : Int) ∧ (ix hZ hs j).state = 1 ∧ hEnd hs i n s = (hs.set j { ix hZ hs j with state := s }, (ix hZ hs j).amount, 0) := by
  unfold hEnd at *
  split at h
  · rename_i hc
    rw [if_pos hc]
    split at h
    · simp at h
    · rename_i h2
      rw [if_neg h2]
      split at h
      · simp at h
      · rename_i h3
        rw [if_neg h3]
        refine ⟨hc.1, hc.2, (hPlace hs i n).toNat, ?_, by omega, by omega, rfl⟩
        unfold hPlace at h2 ⊢
        exact lFind_lt (by omega)
  · simp at h
theorem end_rights {hs : List Hold} {j : Nat} {s : Int} (h : hRights hs = true) (hj : j < hs.length) (hs' : s = 2 ∨ s = 3) : hRights (hs.set j { ix hZ hs j with state := s }) = true := by
  have h1 := (hRights_iff hs).1 h
  refine hRights_keys h (map_set_keys hj) (fun x hx => ?_)
  rcases List.mem_or_eq_of_mem_set hx with hx | rfl
  · exact h1.1 x hx
  · have := (hRight_iff _).1 (h1.1 (ix hZ hs j) (by rw [ix_eq hj]; exact List.getElem_mem _))
    rw [hRight_iff]
    refine ⟨this.1, this.2.1, this.2.2.1, this.2.2.2.1, this.2.2.2.2.1, this.2.2.2.2.2.1, this.2.2.2.2.2.2.1, this.2.2.2.2.2.2.2.1, ?_, ?_⟩ <;> (show _ ≤ _; simp only []; omega)
/-! expiring -/
theorem hExp_key (i d : Int) (h : Hold) : hKey (hExp i d h) = hKey h := by unfold hExp; split <;> rfl
theorem expire_rights {hs : List Hold} {i d : Int} (h : hRights hs = true) : hRights (hs.map (hExp i d)) = true := by
  have h1 := (hRights_iff hs).1 h
  refine hRights_keys h (by rw [List.map_map]; exact List.map_congr_left fun x _ => hExp_key i d x) (fun x hx => ?_)
  obtain ⟨y, hy, rfl⟩ := List.mem_map.1 hx
  have := (hRight_iff _).1 (h1.1 y hy)
  rw [hRight_iff]
  unfold hExp; split
  · refine ⟨this.1, this.2.1, this.2.2.1, this.2.2.2.1, this.2.2.2.2.1, this.2.2.2.2.2.1, this.2.2.2.2.2.2.1, this.2.2.2.2.2.2.2.1, ?_, ?_⟩ <;> (show _ ≤ _; simp only []; omega)
  · exact this
/-! joining -/
def upd (l : List Hold) (y : Hold) : Hold := match l.find? (hSame y) with | some z => { y with state := max y.state z.state } | none => y
def jF (hs l : List Hold) : List Hold := hs.map (upd l) ++ l.filter (fun b => !hHas hs b)
def okJ (hs : List Hold) (b : Hold) : Bool := hs.all fun y => decide (hKey y = hKey b → y.amount = b.amount ∧ y.due = b.due)
theorem upd_key (l : List Hold) (y : Hold) : hKey (upd l y) = hKey y := by unfold upd; split <;> rfl
theorem jF_nil (hs : List Hold) : jF hs [] = hs := by
  unfold jF upd
  simp
theorem hSame_iff {h x : Hold} : hSame h x = true ↔ hKey x = hKey h := by simp [hSame]
theorem hHas_iff {hs : List Hold} {b : Hold} : hHas hs b = true ↔ ∃ y ∈ hs, hKey y = hKey b := by
  unfold hHas
  rw [List.findIdx?_isSome, List.any_eq_true]
  simp only [hSame_iff]
theorem hLook_spec {hs : List Hold} {b : Hold} (h : hHas hs b = true) : ∃ hj : hLook hs b < hs.length, hKey hs[hLook hs b] = hKey b := by
  unfold hHas at h
  cases e : hs.findIdx? (hSame b) with
  | none => rw [e] at h; cases h
  | some i =>
    obtain ⟨h1, h2, _⟩ := List.findIdx?_eq_some_iff_getElem.1 e
    have e2 : hLook hs b = i := by unfold hLook; rw [e]; rfl
    refine ⟨by rw [e2]; exact h1, ?_⟩
    simp only [e2]
    exact hSame_iff.1 h2
theorem upd_none {l : List Hold} {y : Hold} (h : ∀ z ∈ l, hKey z ≠ hKey y) : upd l y = y := by
  unfold upd
  have : l.find? (hSame y) = none := List.find?_eq_none.2 fun z hz => by rw [hSame_iff]; exact h z hz
  rw [this]
theorem upd_some {l : List Hold} {y z : Hold} (hn : (l.map hKey).Nodup) (hz : z ∈ l) (hk : hKey z = hKey y) : upd l y = { y with state := max y.state z.state } := by
  unfold upd
  have : l.find? (hSame y) = some z := by
    induction l with
    | nil => cases hz
    | cons x l ih =>
      rw [List.map_cons, List.nodup_cons] at hn
      rw [List.find?_cons]
      rcases List.mem_cons.1 hz with rfl | hz
      · rw [hSame_iff.2 hk]
      · have : hSame y x = false := by
          rw [← Bool.not_eq_true, hSame_iff]
          intro e
          exact hn.1 (by rw [e, ← hk]; exact List.mem_map_of_mem hz)
        rw [this]; exact ih hn.2 hz
  rw [this]
theorem upd_app_ne {l : List Hold} {b y : Hold} (h : hKey b ≠ hKey y) : upd (l ++ [b]) y = upd l y := by
  unfold upd
  rw [List.find?_append]
  have : [b].find? (hSame y) = none := List.find?_eq_none.2 fun z hz => by rw [List.mem_singleton.1 hz, hSame_iff]; exact h
  rw [this]; simp
theorem jF_step {hs l : List Hold} {b : Hold} (hh : (hs.map hKey).Nodup) (hn : ((l ++ [b]).map hKey).Nodup) : hStep hs (jF hs l) b = if okJ hs b then some (jF hs (l ++ [b])) else none := by
  have hnb : ∀ z ∈ l, hKey z ≠ hKey b := fun z hz e => by
    rw [List.map_append, List.nodup_append] at hn
    exact hn.2.2 (hKey z) (List.mem_map_of_mem hz) (hKey b) (by simp) e
  unfold hStep
  by_cases hb : hHas hs b = true
  · rw [if_pos hb]
    obtain ⟨hj, hk⟩ := hLook_spec hb
    have e0 : ix hZ (jF hs l) (hLook hs b) = hs[hLook hs b] := by
      unfold jF
      rw [ix_eq (by simp; omega), List.getElem_append_left (by simpa using hj), List.getElem_map]
      exact upd_none (fun z hz => by rw [hk]; exact hnb z hz)
    rw [e0]
    have huniq : ∀ y ∈ hs, hKey y = hKey b → y = hs[hLook hs b] := fun y hy e => by
      obtain ⟨i, hi, rfl⟩ := List.getElem_of_mem hy
      have : (hs.map hKey)[i]'(by simpa using hi) = (hs.map hKey)[hLook hs b]'(by simpa using hj) := by simp [e, hk]
      have := (List.getElem_inj (xs := hs.map hKey) hh).1 this
      simp [this]
    have hok : okJ hs b = true ↔ hs[hLook hs b].amount = b.amount ∧ hs[hLook hs b].due = b.due := by
      unfold okJ
      rw [List.all_eq_true]
      constructor
      · intro h; exact of_decide_eq_true (h _ (List.getElem_mem hj)) hk
      · intro h y hy; rw [decide_eq_true_eq]; intro e; rw [huniq y hy e]; exact h
    by_cases ho : okJ hs b = true
    · rw [if_pos (hok.1 ho), if_pos ho]
      congr 1
      unfold jF
      rw [List.set_append_left _ _ (by simpa using hj), List.filter_append]
      have e1 : [b].filter (fun b => !hHas hs b) = [] := by simp [hb]
      rw [e1, List.append_nil]
      congr 1
      apply List.ext_getElem
      · simp
      · intro i h1 h2
        rw [List.getElem_set, List.getElem_map, List.getElem_map]
        have hi : i < hs.length := by simpa using h2
        split
        · rename_i e; subst e
          have hnd : ((l ++ [b]).map hKey).Nodup := hn
          rw [upd_some (z := b) hnd (by simp) hk.symm]
        · rename_i e
          refine (upd_app_ne ?_).symm
          intro e2
          have e3 := huniq hs[i] (List.getElem_mem hi) e2.symm
          have : (hs.map hKey)[i]'(by simpa using hi) = (hs.map hKey)[hLook hs b]'(by simpa using hj) := by simp [e3]
          have := (List.getElem_inj (xs := hs.map hKey) hh).1 this
          omega
    · rw [if_neg (fun h => ho (hok.2 h)), if_neg ho]
  · rw [if_neg hb]
    have hno : ∀ y ∈ hs, hKey y ≠ hKey b := fun y hy e => hb (hHas_iff.2 ⟨y, hy, e⟩)
    have ho : okJ hs b = true := by
      unfold okJ; rw [List.all_eq_true]; intro y hy; rw [decide_eq_true_eq]; intro e; exact absurd e (hno y hy)
    rw [if_pos ho]
    congr 1
    unfold jF
    rw [List.filter_append]
    have e1 : [b].filter (fun b => !hHas hs b) = [b] := by simp [hb]
    rw [e1, List.append_assoc]
    congr 1
    exact List.map_congr_left fun y hy => (upd_app_ne (fun e => hno y hy e.symm)).symm
theorem jF_fold {hs : List Hold} (hh : (hs.map hKey).Nodup) : ∀ (rest pre : List Hold), ((pre ++ rest).map hKey).Nodup → rest.foldlM (hStep hs) (jF hs pre) = if rest.all (okJ hs) then some (jF hs (pre ++ rest)) else none
  | [], pre, _ => by simp
  | b :: rest, pre, hn => by
    have hn1 : ((pre ++ [b]).map hKey).Nodup := by
      refine List.Nodup.sublist ?_ hn
      exact List.Sublist.map _ (List.Sublist.append (List.Sublist.refl _) (List.singleton_sublist.2 List.mem_cons_self))
    rw [List.foldlM_cons, jF_step hh hn1, List.all_cons]
    by_cases ho : okJ hs b = true
    · rw [if_pos ho, ho, Bool.true_and]
      show rest.foldlM (hStep hs) (jF hs (pre ++ [b])) = _
      rw [jF_fold hh rest (pre ++ [b]) (by rw [List.append_assoc]; exact hn), List.append_assoc]; rfl
    · have : okJ hs b = false := by simpa using ho
      rw [if_neg ho, this]; rfl
theorem hJoin_eq (hs bs : List Hold) : hJoin hs bs = if hRights hs = true ∧ hRights bs = true ∧ bs.all (okJ hs) = true then (if (jF hs bs).length > 16 then ([], 7) else (hSort (jF hs bs), 0)) else ([], 1) := by
  unfold hJoin
  by_cases h1 : hRights hs = true
  · by_cases h2 : hRights bs = true
    · have := jF_fold (hRights_nodup h1) bs [] (by simpa using hRights_nodup h2)
      rw [jF_nil, List.nil_append] at this
      rw [if_pos (by simp [h1, h2]), this]
      by_cases h3 : bs.all (okJ hs) = true
      · rw [if_pos h3, if_pos ⟨h1, h2, h3⟩]
      · rw [if_neg h3, if_neg (fun h => h3 h.2.2)]
    · rw [if_neg (by simp [h2]), if_neg (fun h => h2 h.2.1)]
  · rw [if_neg (by simp [h1]), if_neg (fun h => h1 h.1)]
theorem mem_jF {hs bs : List Hold} (hb : (bs.map hKey).Nodup) {x : Hold} : x ∈ jF hs bs ↔ (x ∈ hs ∧ ∀ z ∈ bs, hKey z ≠ hKey x) ∨ (x ∈ bs ∧ ∀ y ∈ hs, hKey y ≠ hKey x) ∨ ∃ y ∈ hs, ∃ z ∈ bs, hKey z = hKey y ∧ x = { y with state := max y.state z.state } := by
  unfold jF
  rw [List.mem_append, List.mem_map, List.mem_filter]
  constructor
  · rintro (⟨y, hy, rfl⟩ | ⟨hx, hn⟩)
    · by_cases h : ∃ z ∈ bs, hKey z = hKey y
      · obtain ⟨z, hz, hk⟩ := h
        exact .inr (.inr ⟨y, hy, z, hz, hk, upd_some hb hz hk⟩)
      · have hno : ∀ z ∈ bs, hKey z ≠ hKey y := fun z hz e => h ⟨z, hz, e⟩
        rw [upd_none hno]
        exact .inl ⟨hy, hno⟩
    · refine .inr (.inl ⟨hx, fun y hy e => ?_⟩)
      have : hHas hs x = true := hHas_iff.2 ⟨y, hy, e⟩
      rw [this] at hn; cases hn
  · rintro (⟨hx, hno⟩ | ⟨hx, hno⟩ | ⟨y, hy, z, hz, hk, rfl⟩)
    · exact .inl ⟨x, hx, upd_none hno⟩
    · refine .inr ⟨hx, ?_⟩
      have : ¬ hHas hs x = true := fun h => by
        obtain ⟨y, hy, e⟩ := hHas_iff.1 h
        exact hno y hy e
      simpa using this
    · exact .inl ⟨y, hy, upd_some hb hz hk⟩
theorem jF_keys {hs bs : List Hold} (hh : (hs.map hKey).Nodup) (hb : (bs.map hKey).Nodup) : ((jF hs bs).map hKey).Nodup := by
  unfold jF
  rw [List.map_append, List.map_map, List.nodup_append]
  have e : hs.map (hKey ∘ upd bs) = hs.map hKey := List.map_congr_left fun y _ => upd_key bs y
  rw [e]
  refine ⟨hh, List.Nodup.sublist (List.Sublist.map _ List.filter_sublist) hb, fun a ha b hb' e => ?_⟩
  subst e
  obtain ⟨y, hy, rfl⟩ := List.mem_map.1 ha
  obtain ⟨z, hz, hk⟩ := List.mem_map.1 hb'
  rw [List.mem_filter] at hz
  have : hHas hs z = true := hHas_iff.2 ⟨y, hy, hk.symm⟩
  rw [this] at hz; simp at hz
theorem jF_right {hs bs : List Hold} (h1 : hRights hs = true) (h2 : hRights bs = true) : ∀ x ∈ jF hs bs, hRight x = true := by
  have r1 := ((hRights_iff _).1 h1).1; have r2 := ((hRights_iff _).1 h2).1
  intro x hx
  rcases (mem_jF (hRights_nodup h2)).1 hx with ⟨hx, _⟩ | ⟨hx, _⟩ | ⟨y, hy, z, hz, hk, rfl⟩
  · exact r1 x hx
  · exact r2 x hx
  · have a := (hRight_iff y).1 (r1 y hy)
    have b := (hRight_iff z).1 (r2 z hz)
    rw [hRight_iff]
    refine ⟨a.1, a.2.1, a.2.2.1, a.2.2.2.1, a.2.2.2.2.1, a.2.2.2.2.2.1, a.2.2.2.2.2.2.1, a.2.2.2.2.2.2.2.1, ?_, ?_⟩ <;> (show _ ≤ _; simp only []; omega)
theorem hJoin_ok {hs bs : List Hold} (h : (hJoin hs bs).2 = 0) : hRights hs = true ∧ hRights bs = true ∧ bs.all (okJ hs) = true ∧ (jF hs bs).length ≤ 16 ∧ hJoin hs bs = (hSort (jF hs bs), 0) := by
  rw [hJoin_eq] at h ⊢
  split at h
  · rename_i hc
    rw [if_pos hc]
    split at h
    · simp at h
    · rename_i h2; rw [if_neg h2]; exact ⟨hc.1, hc.2.1, hc.2.2, by omega, rfl⟩
  · simp at h
theorem join_rights {hs bs : List Hold} (h : (hJoin hs bs).2 = 0) : hRights (hJoin hs bs).1 = true := by
  obtain ⟨h1, h2, _, h4, e⟩ := hJoin_ok h
  rw [e]
  exact hRights_sort (jF_right h1 h2) (jF_keys (hRights_nodup h1) (hRights_nodup h2)) h4
theorem mem_join {hs bs : List Hold} (h : (hJoin hs bs).2 = 0) {x : Hold} : x ∈ (hJoin hs bs).1 ↔ (x ∈ hs ∧ ∀ z ∈ bs, hKey z ≠ hKey x) ∨ (x ∈ bs ∧ ∀ y ∈ hs, hKey y ≠ hKey x) ∨ ∃ y ∈ hs, ∃ z ∈ bs, hKey z = hKey y ∧ x = { y with state := max y.state z.state } := by
  obtain ⟨h1, h2, _, h4, e⟩ := hJoin_ok h
  rw [e, ← mem_jF (hRights_nodup h2)]
  exact (hSort_perm _).mem_iff
end Go.Proofs.YtihgpbpcbbgdiaaGreat
