/- slices.SortFunc, at holds. -/
import Derived.Test.YtihgpbpcbbgdiaaGreatHold2
import Derived.Test.YtihgpbpcbbgdiaaGreatCore15
import Derived.Test.YtihgpbpcbbgdiaaGreatLay
namespace Go.Proofs.YtihgpbpcbbgdiaaGreat
open Go.RowKit Go.Sort
set_option linter.unusedVariables false
set_option linter.unusedSimpArgs false
instance : Inhabited Hold := ⟨hZ⟩
theorem hCmp_lt {a b : Hold} : hCmp a b < 0 ↔ a.replica < b.replica ∨ (a.replica = b.replica ∧ a.number < b.number) := by
  unfold hCmp
  split
  · split <;> simp <;> omega
  · split
    · split <;> simp <;> omega
    · simp; omega
theorem hCmp_swo : SWO (ltOf hCmp) where
  irrefl := fun x => by unfold ltOf; rw [decide_eq_false_iff_not, hCmp_lt]; omega
  trans := fun x y z => by unfold ltOf; simp only [decide_eq_true_eq, hCmp_lt]; omega
  ntrans := fun x y z => by unfold ltOf; simp only [decide_eq_false_iff_not, hCmp_lt]; omega
def hSort (hs : List Hold) : List Hold := pdqL hCmp hs
theorem hSort_perm (hs : List Hold) : (hSort hs).Perm hs := pdqL_perm hCmp_swo hs
theorem hSort_len (hs : List Hold) : (hSort hs).length = hs.length := (hSort_perm hs).length_eq
theorem sort_Hold (hs : List Hold) {v : Value} {T n : Nat} {c : List Value} (M : Mem) (hl : hs.length ≤ 100000) (hn : n = hs.length) (hc : c = hs.flatMap encHold) : Ctr Tryz.prog 117 [v, .func (.func 118) #[] #[]] M [.row v T 5 n c]
    (fun r _ L' => r = .tuple #[] ∧ L' = [.row v T 5 n ((hSort hs).flatMap encHold)]) :=
  haveI : TyI Tryz.prog (Tryz.laysSortHold_ren.t 24) true 5 := inferInstanceAs (TyI Tryz.prog 129 true 5)
  ctr_sort (ρ := Tryz.laysSortHold_ren) Tryz.laysSortHold len_hold one_hold hCmp_swo (g := 118) (fun M x y => hold_compare x y M) hs M hl hn hc
end Go.Proofs.YtihgpbpcbbgdiaaGreat
