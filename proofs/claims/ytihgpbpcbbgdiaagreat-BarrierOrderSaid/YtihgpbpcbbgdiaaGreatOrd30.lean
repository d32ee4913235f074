/- Several texts in one. -/
import Derived.Test.YtihgpbpcbbgdiaaGreatOrd22
import Derived.Test.YtihgpbpcbbgdiaaGreatOrd29
/- usufructlaw07.awake is true. -/
namespace Go.Proofs.YtihgpbpcbbgdiaaGreat
open Go.RowKit
set_option linter.unusedVariables false
set_option linter.unusedSimpArgs false
theorem hSort_one (h : Hold) : hSort [h] = [h] := List.perm_singleton.1 (hSort_perm [h])
def aN : ByteArray := ⟨#[97]⟩
def aw0 : Field × Int := fCounter aN 5 0 10
def aw1 : Field × Int × Int := fReserve aw0.1 0 3 9
def aw1' : Field := { aw0.1 with holds := [⟨0, 1, 3, 9, 1⟩] }
theorem aw1_eq : aw1 = (aw1', 1, 0) := by
  unfold aw1 fReserve
  have h1 : fLacks aw0.1 0 3 = 0 := by kernel_rfl
  rw [if_neg (fun h => h h1)]
  have e : hReserve aw0.1.holds 0 3 9 = (hSort [⟨0, 1, 3, 9, 1⟩], 1, 0) := by
    have h0 : aw0.1.holds = [] := by kernel_rfl
    rw [h0]; unfold hReserve
    rw [if_pos (by kernel_rfl), if_neg (by decide)]
    rfl
  rw [e, hSort_one]; rfl
def aw3 : Field := (fAdd aw1.1 0 (-2)).1
def aw4 : Field := (fEnd aw3 0 aw1.2.1 2).1
theorem aw_0 : aw0.2 = 0 := by kernel_rfl
theorem aw_1 : aw1.2.2 = 0 := by rw [aw1_eq]
theorem aw_2 : (fAdd aw1.1 0 (-3)).2 = 8 := by rw [aw1_eq]; kernel_rfl
theorem aw_3 : (fAdd aw1.1 0 (-2)).2 = 0 := by rw [aw1_eq]; kernel_rfl
theorem aw_4 : (fEnd aw3 0 aw1.2.1 2).2 = 0 := by unfold aw3; rw [aw1_eq]; kernel_rfl
theorem aw_5 : fView aw4 = (0, 0) := by unfold aw4 aw3; rw [aw1_eq]; kernel_rfl
theorem aw_6 : fRight1 aw4 = true := by unfold aw4 aw3; rw [aw1_eq]; kernel_rfl
theorem aw_7 : aw4.kind = 1 := by unfold aw4 aw3; rw [aw1_eq]; kernel_rfl
theorem aw_8 : aw4.name = aN := by unfold aw4 aw3; rw [aw1_eq]; kernel_rfl
theorem aw_9 : aw1.1.holds.length ≤ 16 := fReserve_len _ _ _ _
theorem aw_10 : aw3.holds.length ≤ 16 := Nat.le_trans (fAdd_len _ _ _) aw_9
theorem aw_11 : aw4.holds.length ≤ 16 := Nat.le_trans (fEnd_len _ _ _ _) aw_10
theorem aw_12 : aw0.1.holds.length ≤ 16 := by have h0 : aw0.1.holds = [] := by { kernel_rfl }; rw [h0]; decide
attribute [local irreducible] fCounter fReserve fAdd fEnd fView fRight1

theorem law7_awake (M : Mem) : Ctr Tryz.prog 23 [] M [] (fun v _ _ => v = .bool true) := by
  refine ctr Tryz.func23 rfl Tryz.ntmps23 rfl fun w => ?_
  refine c_seq <| c_region <| ja rfl rfl <| j_nil <| p_thn <| c_seq <| c_region <| jcalls rfl rfl rfl (field_Counter aN (by decide) _ _ _ _) fun A1c cap1c M1c hM1c hS1c => jm rfl rfl <| jext rfl rfl rfl <| jext rfl rfl rfl <| jalloc rfl fun B1 => jstw 0 rfl rfl rfl rfl (len_F _ _ _) (one_F _ _ _) (len_F _ _ _) <| ja rfl rfl <| j_nil <| p_thn <| c_seq <| c_region <| jldw 0 rfl rfl rfl (len_F _ _ _) <| jcalls rfl rfl rfl (field_Reserve _ _ _ (Nat.le_trans aw_12 (by decide)) _ _ _ _ hS1c) fun A2c cap2c M2c hM2c hS2c => jm rfl rfl <| jext rfl rfl rfl <| jext rfl rfl rfl <| jext rfl rfl rfl <| jalloc rfl fun B2 => jstw 0 rfl rfl rfl rfl (len_F _ _ _) (one_F _ _ _) (len_F _ _ _) <| ja rfl rfl <| ja rfl rfl <| j_nil <| p_thn <| c_seq <| c_region <| jldw 0 rfl rfl rfl (len_F _ _ _) <| jcalls rfl rfl rfl (field_Add _ _ _ (Nat.le_trans aw_9 (by decide)) _ _ _ hS2c) fun A3c cap3c M3c hM3c hS3c => jm rfl rfl <| jext rfl rfl rfl <| jext rfl rfl rfl <| jalloc rfl fun B3 => jstw 0 rfl rfl rfl rfl (len_F _ _ _) (one_F _ _ _) (len_F _ _ _) <| ja rfl rfl <| j_nil <| p_thn <| c_seq <| c_region <| jldw 1 rfl rfl rfl (len_F _ _ _) <| jcalls rfl rfl rfl (field_Add _ _ _ (Nat.le_trans aw_9 (by decide)) _ _ _ (hS2c.mono hM3c)) fun A4c cap4c M4c hM4c hS4c => jm rfl rfl <| jext rfl rfl rfl <| jext rfl rfl rfl <| jalloc rfl fun B4 => jstw 0 rfl rfl rfl rfl (len_F _ _ _) (one_F _ _ _) (len_F _ _ _) <| ja rfl rfl <| j_nil <| p_thn <| c_seq <| c_region <| jldw 0 rfl rfl rfl (len_F _ _ _) <| jm rfl rfl <| jcalls rfl rfl rfl (field_End _ _ _ (Nat.le_trans aw_10 (by decide)) _ _ _ _ hS4c) fun A5c cap5c M5c hM5c hS5c => jm rfl rfl <| jext rfl rfl rfl <| jext rfl rfl rfl <| jalloc rfl fun B5 => jstw 0 rfl rfl rfl rfl (len_F _ _ _) (one_F _ _ _) (len_F _ _ _) <| ja rfl rfl <| j_nil <| p_thn <| c_seq <| c_region <| jldw 0 rfl rfl rfl (len_F _ _ _) <| jcallv rfl rfl rfl (field_View _ _ _ _) <| jm rfl rfl <| jext rfl rfl rfl <| jext rfl rfl rfl <| ja rfl rfl <| ja rfl rfl <| j_nil <| p_thn <| c_seq <| c_region <| jm rfl rfl <| jeql rfl rfl rfl <| jm rfl rfl <| jgs rfl rfl (fun hb6 => ?_) (fun hb6 => ?_)
  · have phb6 := hb6; try simp at phb6
    refine jg rfl rfl hb6 <| jm rfl rfl <| jg rfl rfl hb6 <| jeql rfl rfl rfl <| jpick_t rfl rfl hb6 rfl <| jm rfl rfl <| jgs rfl rfl (fun hb7 => ?_) (fun hb7 => ?_)
    · have phb7 := hb7; try simp at phb7
      refine jg rfl rfl hb7 <| jm rfl rfl <| jg rfl rfl hb7 <| jeql rfl rfl rfl <| jpick_t rfl rfl hb7 rfl <| jm rfl rfl <| jgs rfl rfl (fun hb8 => ?_) (fun hb8 => ?_)
      · have phb8 := hb8; try simp at phb8
        refine jg rfl rfl hb8 <| jm rfl rfl <| jg rfl rfl hb8 <| jeql rfl rfl rfl <| jpick_t rfl rfl hb8 rfl <| jm rfl rfl <| jgs rfl rfl (fun hb9 => ?_) (fun hb9 => ?_)
        · have phb9 := hb9; try simp at phb9
          refine jg rfl rfl hb9 <| jm rfl rfl <| jg rfl rfl hb9 <| jeql rfl rfl rfl <| jpick_t rfl rfl hb9 rfl <| jm rfl rfl <| jgs rfl rfl (fun hb10 => ?_) (fun hb10 => ?_)
          · have phb10 := hb10; try simp at phb10
            refine jg rfl rfl hb10 <| jm rfl rfl <| jg rfl rfl hb10 <| jeql rfl rfl rfl <| jpick_t rfl rfl hb10 rfl <| jm rfl rfl <| jgs rfl rfl (fun hb11 => ?_) (fun hb11 => ?_)
            · have phb11 := hb11; try simp at phb11
              refine jg rfl rfl hb11 <| jm rfl rfl <| jg rfl rfl hb11 <| jeql rfl rfl rfl <| jpick_t rfl rfl hb11 rfl <| jm rfl rfl <| jgs rfl rfl (fun hb12 => ?_) (fun hb12 => ?_)
              · have phb12 := hb12; try simp at phb12
                refine jg rfl rfl hb12 <| jldw 0 rfl rfl rfl (len_F _ _ _) <| jg rfl rfl hb12 <| jcallv rfl rfl rfl (field_Right1 aw4 _ _ (Nat.le_trans aw_11 (by decide)) (by rw [aw_8]; decide) aw_7 _ hS5c) <| jpick_t rfl rfl hb12 rfl <| ja rfl rfl <| j_nil <| p_thn <| c_ret <| ?_
                refine p_ret0 rfl rfl (.tmp rfl <| .nil) ?_
                show Value.bool (fRight1 aw4) = _
                rw [aw_6]
              · have phb12 := hb12; try simp at phb12
                exact absurd (congrArg Prod.snd aw_5) phb12
            · have phb11 := hb11; try simp at phb11
              exact absurd (congrArg Prod.fst aw_5) phb11
          · have phb10 := hb10; try simp at phb10
            exact absurd aw_4 phb10
        · have phb9 := hb9; try simp at phb9
          exact absurd aw_3 phb9
      · have phb8 := hb8; try simp at phb8
        exact absurd aw_2 phb8
    · have phb7 := hb7; try simp at phb7
      exact absurd aw_1 phb7
  · have phb6 := hb6; try simp at phb6
    exact absurd aw_0 phb6
end Go.Proofs.YtihgpbpcbbgdiaaGreat

/- usufructlaw16.awake is true. -/
namespace Go.Proofs.YtihgpbpcbbgdiaaGreat
open Go.RowKit
set_option linter.unusedVariables false
set_option linter.unusedSimpArgs false
def awl : List Field := [aw0.1]
def awp : Plan := ⟨3, aN, nil_, 0, 0⟩
def awc : Bar × Int := bStart (bNew 2).1 awl awp 9
def awd : Bar × Int := bAck awc.1 1 1 awl
theorem awl_ok : FsOk awl := ⟨by decide, fun f hf => by
  have : f = aw0.1 := by simpa [awl] using hf
  subst this
  exact ⟨Nat.le_trans aw_12 (by decide), by have h : aw0.1.name = aN := by { kernel_rfl }; rw [h]; decide⟩⟩
theorem aw_N : (bNew 2).2 = 0 := by kernel_rfl
theorem aw_S : awc.2 = 0 := by kernel_rfl
theorem aw_A : awd.2 = 0 := by kernel_rfl
theorem aw_Y : awd.1.state = 2 := by kernel_rfl
theorem aw_M : awd.1.made.length = 1 := by kernel_rfl
theorem aw_P : bPend awd.1 = true := by kernel_rfl
theorem aw_H : bPend (bHeard awd.1 1 1) = false := by kernel_rfl
theorem aw_T : (bTick awc.1 10).state = 3 := by kernel_rfl
theorem one_fld {M : Mem} {B : Nat} {f : Field} {A : Option Addr} {cap : Nat} (hK : ∀ j u, ([encF f A cap].flatten)[j]? = some u → M ⟨B, j, none⟩ = some u) (hS : SlR rHold M A cap f.holds) : SlR rField M (some ⟨B, 0, none⟩) 1 [f] := by
  refine ⟨Nat.le_refl _, fun i x hx => ?_⟩
  obtain ⟨rfl, rfl⟩ : i = 0 ∧ x = f := by
    match i, hx with
    | 0, hx => simp at hx; exact ⟨rfl, hx.symm⟩
    | i + 1, hx => simp at hx
  refine ⟨B, 0, encF x A cap, rfl, ⟨A, cap, rfl, hS⟩, fun j u hu => ?_⟩
  rw [Nat.zero_mul, Nat.zero_add, Nat.zero_add]
  exact hK j u (by simpa using hu)
theorem fillPl {k : Int} {s : ByteArray} : Instr.fill ([(0, 1), (1, 1), (2, 1), (3, 1), (4, 1)].toArray[·]?) (encPlan pZ).toArray [(0, vi k), (1, .string s)] = some (encPlan ⟨k, s, nil_, 0, 0⟩).toArray := rfl
attribute [local irreducible] bStart bAck bPend bHeard bTick fCounter

theorem law16_awake (M : Mem) : Ctr Tryz.prog 9 [] M [] (fun v _ _ => v = .bool true) := by
  refine ctr Tryz.func9 rfl Tryz.ntmps9 rfl fun w => ?_
  refine c_seq <| c_region <| ja rfl rfl <| j_nil <| p_thn <| c_seq <| c_region <| jcalls rfl rfl rfl (field_Counter aN (by decide) _ _ _ _) fun A1c cap1c M1c hM1c hS1c => jm rfl rfl <| jext rfl rfl rfl <| jext rfl rfl rfl <| jalloc rfl fun B1 => jstw 0 rfl rfl rfl rfl (len_F _ _ _) (one_F _ _ _) (len_F _ _ _) <| ja rfl rfl <| j_nil <| p_thn <| c_seq <| c_region <| jldw 0 rfl rfl rfl (len_F _ _ _) <| jbsl (vs := [_]) [_] rfl rfl rfl (by simp [len_F]) rfl (len_F _ _ _) (by decide) (by decide) fun B2 => j_known fun M1 hM1 hK1 => ja rfl rfl <| j_nil <| p_thn <| c_seq <| c_region <| jcallv rfl rfl rfl (barrier_New 2 _) <| ?_
  have hL := one_fld hK1 (hS1c.mono hM1)
  refine jm rfl rfl <| jext rfl rfl rfl <| jext rfl rfl rfl <| jalloc (c := encB bZ none 0 none 0) rfl fun B3 => jstw 0 rfl rfl rfl rfl (len_B _ _ _) (one_B _ _ _ _ _) (len_B _ _ _) <| ja rfl rfl <| j_nil <| p_thn <| c_seq <| c_region <| jldw 0 rfl rfl rfl (len_B _ _ _) <| jm rfl rfl <| jbu (zc := encPlan pZ) rfl rfl fillPl <| jcallB (b := awc.1) rfl rfl rfl (barrier_Start (bNew 2).1 none 0 none 0 awl _ _ awp 9 awl_ok (by decide) (by decide) _ hL) fun AJS cJS AMS cMS MS hMS hJS hNS => jm rfl rfl <| jext rfl rfl rfl <| jext rfl rfl rfl <| jalloc (c := encB bZ none 0 none 0) rfl fun B4 => jstw 0 rfl rfl rfl rfl (len_B _ _ _) (one_B _ _ _ _ _) (len_B _ _ _) <| ja rfl rfl <| j_nil <| p_thn <| c_seq <| c_region <| jldw 0 rfl rfl rfl (len_B _ _ _) <| jm rfl rfl <| jcallB (b := awd.1) rfl rfl rfl (barrier_Ack awc.1 _ _ _ _ 1 1 awl _ _ awl_ok (bStart_ok awl_ok (by decide)) _ hJS hNS (hL.mono hMS)) fun AJA cJA AMA cMA MA hMA hJA hNA => jm rfl rfl <| jext rfl rfl rfl <| jext rfl rfl rfl <| jalloc (c := encB bZ none 0 none 0) rfl fun B5 => jstw 0 rfl rfl rfl rfl (len_B _ _ _) (one_B _ _ _ _ _) (len_B _ _ _) <| ja rfl rfl <| j_nil <| p_thn <| c_seq <| c_region <| jm rfl rfl <| jeql rfl rfl rfl <| jm rfl rfl <| jgs rfl rfl (fun hb6 => ?_) (fun hb6 => ?_)
  · have phb6 := hb6; try simp at phb6
    refine jg rfl rfl hb6 <| jm rfl rfl <| jg rfl rfl hb6 <| jeql rfl rfl rfl <| jpick_t rfl rfl hb6 rfl <| jm rfl rfl <| jgs rfl rfl (fun hb7 => ?_) (fun hb7 => ?_)
    · have phb7 := hb7; try simp at phb7
      refine jg rfl rfl hb7 <| jm rfl rfl <| jg rfl rfl hb7 <| jeql rfl rfl rfl <| jpick_t rfl rfl hb7 rfl <| jm rfl rfl <| jgs rfl rfl (fun hb8 => ?_) (fun hb8 => ?_)
      · have phb8 := hb8; try simp at phb8
        refine jg rfl rfl hb8 <| jfa rfl rfl rfl <| jg rfl rfl hb8 <| jld1 0 rfl rfl rfl rfl <| jg rfl rfl hb8 <| jeql rfl rfl rfl <| jpick_t rfl rfl hb8 rfl <| jm rfl rfl <| jgs rfl rfl (fun hb9 => ?_) (fun hb9 => ?_)
        · have phb9 := hb9; try simp at phb9
          refine jg rfl rfl hb9 <| jfa rfl rfl rfl <| jg rfl rfl hb9 <| jld1 0 rfl rfl rfl rfl <| jg rfl rfl hb9 <| jlen rfl rfl <| jg rfl rfl hb9 <| jeql rfl rfl rfl <| jpick_t rfl rfl hb9 rfl <| jm rfl rfl <| jgs rfl rfl (fun hb10 => ?_) (fun hb10 => ?_)
          · have phb10 := hb10; try simp at phb10
            refine jg rfl rfl hb10 <| jldw 0 rfl rfl rfl (len_B _ _ _) <| jg rfl rfl hb10 <| jcallv rfl rfl rfl (barrier_Pending awd.1 _ _ _ _ _) <| jpick_t rfl rfl hb10 rfl <| jm rfl rfl <| jgs rfl rfl (fun hb11 => ?_) (fun hb11 => ?_)
            · have phb11 := hb11; try simp at phb11
              refine jg rfl rfl hb11 <| jldw 0 rfl rfl rfl (len_B _ _ _) <| jg rfl rfl hb11 <| jcallB (b := bHeard awd.1 1 1) rfl rfl rfl (barrier_Heard awd.1 _ _ _ _ 1 1 (bAck_ok (bStart_ok awl_ok (by decide))) _ hJA hNA) fun AJH cJH AMH cMH MH hMH hJH hNH => jg rfl rfl hb11 <| jcallv rfl rfl rfl (barrier_Pending (bHeard awd.1 1 1) _ _ _ _ _) <| jg rfl rfl hb11 <| jnot rfl rfl <| jpick_t rfl rfl hb11 rfl <| jm rfl rfl <| jgs rfl rfl (fun hb12 => ?_) (fun hb12 => ?_)
              · have phb12 := hb12; try simp at phb12
                refine jg rfl rfl hb12 <| jldw 1 rfl rfl rfl (len_B _ _ _) <| jg rfl rfl hb12 <| jcallB (b := bTick awc.1 10) rfl rfl rfl (barrier_Tick awc.1 _ _ _ _ 10 (bStart_ok awl_ok (by decide)) _ ((hJS.mono hMA).mono hMH) ((hNS.mono hMA).mono hMH)) fun AJT cJT AMT cMT MT hMT hJT hNT => jg rfl rfl hb12 <| jfield1 rfl rfl rfl <| jg rfl rfl hb12 <| jeql rfl rfl rfl <| jpick_t rfl rfl hb12 rfl <| ja rfl rfl <| j_nil <| p_thn <| c_ret <| ?_
                refine p_ret0 rfl rfl (.tmp rfl <| .nil) ?_
                show Value.bool _ = _
                rw [show (bTick awc.1 10).state = 3 from aw_T]; rfl
              · have phb12 := hb12; try simp at phb12
                rw [aw_H] at phb12; cases phb12
            · have phb11 := hb11; try simp at phb11
              rw [aw_P] at phb11; cases phb11
          · have phb10 := hb10; try simp at phb10
            exact absurd (by rw [aw_M]; rfl) phb10
        · have phb9 := hb9; try simp at phb9
          exact absurd aw_Y phb9
      · have phb8 := hb8; try simp at phb8
        exact absurd aw_A phb8
    · have phb7 := hb7; try simp at phb7
      exact absurd aw_S phb7
  · have phb6 := hb6; try simp at phb6
    exact absurd aw_N phb6
end Go.Proofs.YtihgpbpcbbgdiaaGreat
