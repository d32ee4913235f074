/- usufructlaw07.awake is true. -/
import Derived.Test.YtihgpbpcbbgdiaaGreatStep
namespace Go.Proofs.YtihgpbpcbbgdiaaGreat
open Go.RowKit
set_option linter.unusedVariables false
set_option linter.unusedSimpArgs false
theorem hSort_one (h : Hold) : hSort [h] = [h] := List.perm_singleton.1 (hSort_perm [h])
def aN : ByteArray := ⟨#[97]⟩
def aw0 : Field × Int := fCounter aN 5 0 10
def aw1 : Field × Int × Int := fReserve aw0.1 0 3 9
def aw1' : Field := { aw0.1 with holds := [⟨0, 1, 3, 9, 1⟩] }
theorem aw1_eq : aw1 = (aw1', 1, 0) := by
  unfold aw1 fReserve
  have h1 : fLacks aw0.1 0 3 = 0 := by kernel_rfl
  rw [if_neg (fun h => h h1)]
  have e : hReserve aw0.1.holds 0 3 9 = (hSort [⟨0, 1, 3, 9, 1⟩], 1, 0) := by
    have h0 : aw0.1.holds = [] := by kernel_rfl
    rw [h0]; unfold hReserve
    rw [if_pos (by kernel_rfl), if_neg (by decide)]
    rfl
  rw [e, hSort_one]; rfl
def aw3 : Field := (fAdd aw1.1 0 (-2)).1
def aw4 : Field := (fEnd aw3 0 aw1.2.1 2).1
theorem aw_0 : aw0.2 = 0 := by kernel_rfl
theorem aw_1 : aw1.2.2 = 0 := by rw [aw1_eq]
theorem aw_2 : (fAdd aw1.1 0 (-3)).2 = 8 := by rw [aw1_eq]; kernel_rfl
theorem aw_3 : (fAdd aw1.1 0 (-2)).2 = 0 := by rw [aw1_eq]; kernel_rfl
theorem aw_4 : (fEnd aw3 0 aw1.2.1 2).2 = 0 := by unfold aw3; rw [aw1_eq]; kernel_rfl
theorem aw_5 : fView aw4 = (0, 0) := by unfold aw4 aw3; rw [aw1_eq]; kernel_rfl
theorem aw_6 : fRight1 aw4 = true := by unfold aw4 aw3; rw [aw1_eq]; kernel_rfl
theorem aw_7 : aw4.kind = 1 := by unfold aw4 aw3; rw [aw1_eq]; kernel_rfl
theorem aw_8 : aw4.name = aN := by unfold aw4 aw3; rw [aw1_eq]; kernel_rfl
theorem aw_9 : aw1.1.holds.length ≤ 16 := fReserve_len _ _ _ _
theorem aw_10 : aw3.holds.length ≤ 16 := Nat.le_trans (fAdd_len _ _ _) aw_9
theorem aw_11 : aw4.holds.length ≤ 16 := Nat.le_trans (fEnd_len _ _ _ _) aw_10
theorem aw_12 : aw0.1.holds.length ≤ 16 := by have h0 : aw0.1.holds = [] := by { kernel_rfl }; rw [h0]; decide
attribute [local irreducible] fCounter fReserve fAdd fEnd fView fRight1

theorem law7_awake (M : Mem) : Ctr Tryz.prog 23 [] M [] (fun v _ _ => v = .bool true) := by
  refine ctr Tryz.func23 rfl Tryz.ntmps23 rfl fun w => ?_
  refine c_seq <| c_region <| ja rfl rfl <| j_nil <| p_thn <| c_seq <| c_region <| jcalls rfl rfl rfl (field_Counter aN (by decide) _ _ _ _) fun A1c cap1c M1c hM1c hS1c => jm rfl rfl <| jext rfl rfl rfl <| jext rfl rfl rfl <| jalloc rfl fun B1 => jstw 0 rfl rfl rfl rfl (len_F _ _ _) (one_F _ _ _) (len_F _ _ _) <| ja rfl rfl <| j_nil <| p_thn <| c_seq <| c_region <| jldw 0 rfl rfl rfl (len_F _ _ _) <| jcalls rfl rfl rfl (field_Reserve _ _ _ (Nat.le_trans aw_12 (by decide)) _ _ _ _ hS1c) fun A2c cap2c M2c hM2c hS2c => jm rfl rfl <| jext rfl rfl rfl <| jext rfl rfl rfl <| jext rfl rfl rfl <| jalloc rfl fun B2 => jstw 0 rfl rfl rfl rfl (len_F _ _ _) (one_F _ _ _) (len_F _ _ _) <| ja rfl rfl <| ja rfl rfl <| j_nil <| p_thn <| c_seq <| c_region <| jldw 0 rfl rfl rfl (len_F _ _ _) <| jcalls rfl rfl rfl (field_Add _ _ _ (Nat.le_trans aw_9 (by decide)) _ _ _ hS2c) fun A3c cap3c M3c hM3c hS3c => jm rfl rfl <| jext rfl rfl rfl <| jext rfl rfl rfl <| jalloc rfl fun B3 => jstw 0 rfl rfl rfl rfl (len_F _ _ _) (one_F _ _ _) (len_F _ _ _) <| ja rfl rfl <| j_nil <| p_thn <| c_seq <| c_region <| jldw 1 rfl rfl rfl (len_F _ _ _) <| jcalls rfl rfl rfl (field_Add _ _ _ (Nat.le_trans aw_9 (by decide)) _ _ _ (hS2c.mono hM3c)) fun A4c cap4c M4c hM4c hS4c => jm rfl rfl <| jext rfl rfl rfl <| jext rfl rfl rfl <| jalloc rfl fun B4 => jstw 0 rfl rfl rfl rfl (len_F _ _ _) (one_F _ _ _) (len_F _ _ _) <| ja rfl rfl <| j_nil <| p_thn <| c_seq <| c_region <| jldw 0 rfl rfl rfl (len_F _ _ _) <| jm rfl rfl <| jcalls rfl rfl rfl (field_End _ _ _ (Nat.le_trans aw_10 (by decide)) _ _ _ _ hS4c) fun A5c cap5c M5c hM5c hS5c => jm rfl rfl <| jext rfl rfl rfl <| jext rfl rfl rfl <| jalloc rfl fun B5 => jstw 0 rfl rfl rfl rfl (len_F _ _ _) (one_F _ _ _) (len_F _ _ _) <| ja rfl rfl <| j_nil <| p_thn <| c_seq <| c_region <| jldw 0 rfl rfl rfl (len_F _ _ _) <| jcallv rfl rfl rfl (field_View _ _ _ _) <| jm rfl rfl <| jext rfl rfl rfl <| jext rfl rfl rfl <| ja rfl rfl <| ja rfl rfl <| j_nil <| p_thn <| c_seq <| c_region <| jm rfl rfl <| jeql rfl rfl rfl <| jm rfl rfl <| jgs rfl rfl (fun hb6 => ?_) (fun hb6 => ?_)
  · have phb6 := hb6; try simp at phb6
    refine jg rfl rfl hb6 <| jm rfl rfl <| jg rfl rfl hb6 <| jeql rfl rfl rfl <| jpick_t rfl rfl hb6 rfl <| jm rfl rfl <| jgs rfl rfl (fun hb7 => ?_) (fun hb7 => ?_)
    · have phb7 := hb7; try simp at phb7
      refine jg rfl rfl hb7 <| jm rfl rfl <| jg rfl rfl hb7 <| jeql rfl rfl rfl <| jpick_t rfl rfl hb7 rfl <| jm rfl rfl <| jgs rfl rfl (fun hb8 => ?_) (fun hb8 => ?_)
      · have phb8 := hb8; try simp at phb8
        refine jg rfl rfl hb8 <| jm rfl rfl <| jg rfl rfl hb8 <| jeql rfl rfl rfl <| jpick_t rfl rfl hb8 rfl <| jm rfl rfl <| jgs rfl rfl (fun hb9 => ?_) (fun hb9 => ?_)
        · have phb9 := hb9; try simp at phb9
          refine jg rfl rfl hb9 <| jm rfl rfl <| jg rfl rfl hb9 <| jeql rfl rfl rfl <| jpick_t rfl rfl hb9 rfl <| jm rfl rfl <| jgs rfl rfl (fun hb10 => ?_) (fun hb10 => ?_)
          · have phb10 := hb10; try simp at phb10
            refine jg rfl rfl hb10 <| jm rfl rfl <| jg rfl rfl hb10 <| jeql rfl rfl rfl <| jpick_t rfl rfl hb10 rfl <| jm rfl rfl <| jgs rfl rfl (fun hb11 => ?_) (fun hb11 => ?_)
            · have phb11 := hb11; try simp at phb11
              refine jg rfl rfl hb11 <| jm rfl rfl <| jg rfl rfl hb11 <| jeql rfl rfl rfl <| jpick_t rfl rfl hb11 rfl <| jm rfl rfl <| jgs rfl rfl (fun hb12 => ?_) (fun hb12 => ?_)
              · have phb12 := hb12; try simp at phb12
                refine jg rfl rfl hb12 <| jldw 0 rfl rfl rfl (len_F _ _ _) <| jg rfl rfl hb12 <| jcallv rfl rfl rfl (field_Right1 aw4 _ _ (Nat.le_trans aw_11 (by decide)) (by rw [aw_8]; decide) aw_7 _ hS5c) <| jpick_t rfl rfl hb12 rfl <| ja rfl rfl <| j_nil <| p_thn <| c_ret <| ?_
                refine p_ret0 rfl rfl (.tmp rfl <| .nil) ?_
                show Value.bool (fRight1 aw4) = _
                rw [aw_6]
              · have phb12 := hb12; try simp at phb12
                exact absurd (congrArg Prod.snd aw_5) phb12
            · have phb11 := hb11; try simp at phb11
              exact absurd (congrArg Prod.fst aw_5) phb11
          · have phb10 := hb10; try simp at phb10
            exact absurd aw_4 phb10
        · have phb9 := hb9; try simp at phb9
          exact absurd aw_3 phb9
      · have phb8 := hb8; try simp at phb8
        exact absurd aw_2 phb8
    · have phb7 := hb7; try simp at phb7
      exact absurd aw_1 phb7
  · have phb6 := hb6; try simp at phb6
    exact absurd aw_0 phb6
end Go.Proofs.YtihgpbpcbbgdiaaGreat
