/- Plain facts on lists of holds. -/
import Derived.Test.YtihgpbpcbbgdiaaGreatHold3
namespace Go.Proofs.YtihgpbpcbbgdiaaGreat
open Go.RowKit Go.Sort
set_option linter.unusedVariables false
set_option linter.unusedSimpArgs false
theorem pdqL_sorted {α : Type} [Inhabited α] {cf : α → α → Int} (hO : SWO (ltOf cf)) (xs : List α) : (pdqL cf xs).Pairwise (fun a b => ltOf cf b a = false) := by
  have h := pdq_sorts (ltOf cf) hO xs.toArray 0 xs.toArray.size (Go.Lib.bitLen xs.toArray.size) true true (Nat.zero_le _) (Nat.le_refl _) (Or.inl rfl)
  unfold pdqL
  generalize pdq (ltOf cf) xs.toArray 0 xs.toArray.size (Go.Lib.bitLen xs.toArray.size) true true = d at h ⊢
  obtain ⟨⟨h1, _, _⟩, h2⟩ := h
  rw [List.pairwise_iff_getElem]
  intro i j hi hj hij
  have hj' : j < d.size := by simpa using hj
  have := h2 i j (Nat.zero_le _) hij (by rw [← h1]; exact hj')
  rw [getElem!_pos d j hj', getElem!_pos d i (by omega)] at this
  simpa using this
theorem hKey_inj {a b : Hold} : hCmp a b < 0 ∨ hCmp b a < 0 ∨ hKey a = hKey b := by
  rw [hCmp_lt, hCmp_lt]; simp only [hKey, Prod.mk.injEq]; omega
theorem hRights_iff (hs : List Hold) : hRights hs = true ↔ (∀ h ∈ hs, hRight h = true) ∧ hs.Pairwise (fun a b => hCmp a b < 0) ∧ hs.length ≤ 16 := by
  constructor
  · intro h
    have hlt := fun {j i : Nat} => hRights_lt h (j := j) (i := i)
    unfold hRights at h
    simp only [Bool.and_eq_true, decide_eq_true_eq] at h
    refine ⟨fun x hx => ?_, ?_, h.2⟩
    · obtain ⟨i, hi, rfl⟩ := List.getElem_of_mem hx
      have := List.all_eq_true.1 h.1 i (List.mem_range.2 hi)
      unfold hOk at this
      rw [Bool.and_eq_true, ix_eq hi] at this
      exact this.1
    · rw [List.pairwise_iff_getElem]
      intro i j hi hj hij
      have := hlt hij hj
      rwa [ix_eq hi, ix_eq hj] at this
  · rintro ⟨h1, h2, h3⟩
    unfold hRights
    simp only [Bool.and_eq_true, decide_eq_true_eq, h3, and_true]
    rw [List.all_eq_true]
    intro i hi
    have hi' := List.mem_range.1 hi
    unfold hOk
    rw [ix_eq hi', h1 _ (List.getElem_mem _), Bool.true_and]
    by_cases e : i = 0
    · simp [e]
    · rw [List.pairwise_iff_getElem] at h2
      have := h2 (i - 1) i (by omega) hi' (by omega)
      rw [ix_eq (show i - 1 < hs.length by omega)]
      simp [this]
theorem hRights_nodup {hs : List Hold} (h : hRights hs = true) : (hs.map hKey).Nodup := by
  rw [hRights_iff] at h
  unfold List.Nodup
  rw [List.pairwise_map]
  exact h.2.1.imp (fun {a b} hab e => by rw [hCmp_lt] at hab; simp only [hKey, Prod.mk.injEq] at e; omega)
theorem hRights_sort {hs : List Hold} (h1 : ∀ h ∈ hs, hRight h = true) (h2 : (hs.map hKey).Nodup) (h3 : hs.length ≤ 16) : hRights (hSort hs) = true := by
  rw [hRights_iff]
  have hp := hSort_perm hs
  refine ⟨fun h hh => h1 h (hp.mem_iff.1 hh), ?_, by rw [hSort_len]; exact h3⟩
  have h4 : ((hSort hs).map hKey).Nodup := (hp.map hKey).nodup_iff.2 h2
  have h5 := pdqL_sorted hCmp_swo hs
  unfold List.Nodup at h4
  rw [List.pairwise_map] at h4
  refine (h4.and h5).imp (fun {a b} hab => ?_)
  have h6 : ¬ hCmp b a < 0 := by have := hab.2; unfold ltOf at this; simpa using this
  rcases hKey_inj (a := a) (b := b) with h | h | h
  · exact h
  · exact absurd h h6
  · exact absurd h hab.1
theorem nodup_of_map {α β : Type} {f : α → β} {l : List α} (h : (l.map f).Nodup) : l.Nodup := List.Pairwise.of_map f (fun _ _ h e => h (congrArg f e)) h
/-- rights lists with the same holds are the same -/
theorem hRights_ext {hs bs : List Hold} (h : hRights hs = true) (hb : hRights bs = true) (he : ∀ x, x ∈ hs ↔ x ∈ bs) : hs = bs := by
  have n1 : hs.Nodup := nodup_of_map (hRights_nodup h)
  have n2 : bs.Nodup := nodup_of_map (hRights_nodup hb)
  have hp : hs.Perm bs := (List.perm_ext_iff_of_nodup n1 n2).2 he
  rw [hRights_iff] at h hb
  refine hp.eq_of_pairwise (le := fun a b => hCmp a b < 0) (fun a b _ _ h1 h2 => ?_) h.2.1 hb.2.1
  rw [hCmp_lt] at h1 h2; omega
theorem hSort_eq {hs : List Hold} (h : hRights hs = true) : hSort hs = hs := by
  have h1 := (hRights_iff hs).1 h
  exact hRights_ext (hRights_sort h1.1 (hRights_nodup h) h1.2.2) h (fun x => (hSort_perm hs).mem_iff)
/-! sums -/
theorem perm_sum {l l' : List Int} (h : l.Perm l') : l.sum = l'.sum := by
  induction h with
  | nil => rfl
  | cons x _ ih => simp [ih]
  | swap x y l => simp; omega
  | trans _ _ h1 h2 => exact h1.trans h2
def held (r : Int) (h : Hold) : Bool := decide (h.replica = r) && decide (h.state = 1)
def hPlain (hs : List Hold) (r : Int) : Int := ((hs.filter (held r)).map (·.amount)).sum
theorem hPlain_perm {hs bs : List Hold} (h : hs.Perm bs) (r : Int) : hPlain hs r = hPlain bs r := by
  unfold hPlain
  exact perm_sum ((h.filter _).map _)
end Go.Proofs.YtihgpbpcbbgdiaaGreat
