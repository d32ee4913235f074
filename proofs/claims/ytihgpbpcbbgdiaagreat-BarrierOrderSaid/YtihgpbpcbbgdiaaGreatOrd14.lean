/- Several texts in one. -/
import Derived.Test.YtihgpbpcbbgdiaaGreatOrd13
import Derived.Test.YtihgpbpcbbgdiaaGreatOrd7
import Derived.Shelf.SlSortCmp.NoneTotal
import Derived.Ground.SlsfProg
import Derived.Test.YtihgpbpcbbgdiaaGreatProg
/- What the functions of package hold that hand holds tell: End, Expire. -/
namespace Go.Proofs.YtihgpbpcbbgdiaaGreat
open Go.RowKit
set_option linter.unusedVariables false
set_option linter.unusedSimpArgs false
attribute [local irreducible] hRights hPlace

theorem hold_End (hs : List Hold) (A : Option Addr) (cap : Nat) (hl : hs.length ≤ 100000) (i n s : Int) (M : Mem) (hS : SlR rHold M A cap hs) : Ctr Tryz.prog 73 [.slice A hs.length cap, vi i, vi n, vi s] M [] (fun v M' _ => ∃ A' cap', SlR rHold M' A' cap' (hEnd hs i n s).1 ∧ v = .tuple #[.slice A' (hEnd hs i n s).1.length cap', vi (hEnd hs i n s).2.1, vi (hEnd hs i n s).2.2]) := by
  refine ctr Tryz.func73 rfl Tryz.ntmps73 rfl fun w => ?_
  refine c_seq <| c_region <| ja rfl rfl <| ja rfl rfl <| ja rfl rfl <| j_nil <| p_thn <| c_seq <| c_region <| jm rfl rfl <| jm rfl rfl <| jm rfl rfl <| jcallv rfl rfl rfl (hold_place _ _ _ hl _ _ _ hS) <| ja rfl rfl <| j_nil <| p_thn <| c_seq <| c_block <| c_seq <| c_region <| jm rfl rfl <| jcallv rfl rfl rfl (hold_Rights _ _ _ hl _ hS) <| jnot rfl rfl <| jm rfl rfl <| jgs rfl rfl (fun hb1 => ?_) (fun hb1 => ?_)
  · have phb1 := hb1; try simp at phb1
    refine jg_off rfl rfl rfl hb1 <| jg_off rfl rfl rfl hb1 <| jg_off rfl rfl rfl hb1 <| jg_u rfl rfl rfl <| jg_u rfl rfl rfl <| jg_off rfl rfl rfl hb1 <| jpick_t rfl rfl hb1 rfl <| ja rfl rfl <| j_nil <| p_thn <| c_cond_kt rfl rfl <| c_seq <| c_region <| ja rfl rfl <| ja rfl rfl <| ja rfl rfl <| j_nil <| p_thn <| c_ret <| p_inb_ret <| p_thn_ret <| ?_
    refine p_ret0 rfl rfl (.tmp rfl <| .tmp rfl <| .tmp rfl <| .nil) ?_
    refine ⟨none, 0, ?_⟩
    have e : hEnd hs i n s = ([], 0, 1) := by unfold hEnd; rw [if_neg (by simp [*])]
    rw [e]; exact ⟨SlR.nil, rfl⟩
  · have phb1 := hb1; try simp at phb1
    refine jg rfl rfl hb1 <| jm rfl rfl <| jg rfl rfl hb1 <| jneq rfl rfl rfl <| jg rfl rfl hb1 <| jm rfl rfl <| jgs rfl rfl (fun hb2 => ?_) (fun hb2 => ?_)
    · have phb2 := hb2; try simp at phb2
      refine jg rfl rfl hb2 <| jm rfl rfl <| jg rfl rfl hb2 <| jneq rfl rfl rfl <| jg rfl rfl hb1 <| jpick_t rfl rfl hb2 rfl <| jpick_f rfl rfl hb1 rfl <| ja rfl rfl <| j_nil <| p_thn <| c_cond rfl (fun hb3 => ?_) (fun hb3 => ?_)
      · have phb3 := hb3; try simp at phb3
        refine c_seq <| c_region <| ja rfl rfl <| ja rfl rfl <| ja rfl rfl <| j_nil <| p_thn <| c_ret <| p_inb_ret <| p_thn_ret <| ?_
        refine p_ret0 rfl rfl (.tmp rfl <| .tmp rfl <| .tmp rfl <| .nil) ?_
        refine ⟨none, 0, ?_⟩
        have e : hEnd hs i n s = ([], 0, 1) := by unfold hEnd; rw [if_neg (by simp [*])]
        rw [e]; exact ⟨SlR.nil, rfl⟩
      · have phb3 := hb3; try simp at phb3
        refine c_seq <| c_region <| jm rfl rfl <| jlss rfl rfl rfl <| ja rfl rfl <| j_nil <| p_thn <| c_cond rfl (fun hb4 => ?_) (fun hb4 => ?_)
        · have phb4 := hb4; try simp at phb4
          refine c_seq <| c_region <| ja rfl rfl <| ja rfl rfl <| ja rfl rfl <| j_nil <| p_thn <| c_ret <| p_inb_ret <| p_thn_ret <| ?_
          refine p_ret0 rfl rfl (.tmp rfl <| .tmp rfl <| .tmp rfl <| .nil) ?_
          refine ⟨none, 0, ?_⟩
          have e : hEnd hs i n s = ([], 0, 10) := by unfold hEnd; rw [if_pos (by simp [*]), if_pos phb4]
          rw [e]; exact ⟨SlR.nil, rfl⟩
        · have phb4 := hb4; try simp at phb4
          have hlt : (hPlace hs i n).toNat < hs.length := by unfold hPlace at phb4 ⊢; exact lFind_lt phb4
          refine c_seq <| c_region <| jm rfl rfl <| jm rfl rfl <| ji rfl rfl rfl (by omega) (by omega) (hS.adr (i := (hPlace hs i n).toNat) (by omega)) <| jfe rfl rfl rfl (hS.adr (i := (hPlace hs i n).toNat) (by omega)) <| jle1 (o := 4) rfl hS (ix_get (z := hZ) (i := (hPlace hs i n).toNat) (by omega)) rfl (fun c h => by cases h; rfl) <| jneq rfl rfl rfl <| ja rfl rfl <| j_nil <| p_thn <| c_cond rfl (fun hb5 => ?_) (fun hb5 => ?_)
          · have phb5 := hb5; try simp at phb5
            refine c_seq <| c_region <| ja rfl rfl <| ja rfl rfl <| ja rfl rfl <| j_nil <| p_thn <| c_ret <| p_inb_ret <| p_thn_ret <| ?_
            refine p_ret0 rfl rfl (.tmp rfl <| .tmp rfl <| .tmp rfl <| .nil) ?_
            refine ⟨none, 0, ?_⟩
            have e : hEnd hs i n s = ([], 0, 12) := by unfold hEnd; rw [if_pos (by simp [*]), if_neg (by omega), if_pos phb5]
            rw [e]; exact ⟨SlR.nil, rfl⟩
          · have phb5 := hb5; try simp at phb5
            refine c_skip <| p_inb <| p_thn <| c_seq <| c_region <| jm rfl rfl <| jcallr rfl rfl rfl (ap_0) (clone_Hold _ _ _ hl _ hS) (fun _ => (ap_s <| ap_0)) fun vc => ja rfl rfl <| j_nil <| p_thn <| c_seq <| c_region <| jm rfl rfl <| jm rfl rfl <| jm rfl rfl <| j_open (by first | omega | (simp; omega)) fun Bo1 capo1 rso1 hvo1 hco1 hro1 hlo1 => ?_
            subst hvo1
            refine jis rfl rfl rfl (by omega) (by first | omega | (simp; omega)) <| jfa rfl rfl rfl <| jst 0 rfl rfl rfl rfl rfl rfl (by rw [List.length_append, flatk_len len_hold]; simp; omega) (flatk_put1 (i := (hPlace hs i n).toNat) len_hold (z := hZ) (by first | omega | (simp; omega)) (by decide) uH_state) <| j_nil <| p_thn <| c_seq <| c_draw [3, 5] (by kernel_rfl) <| jd_z (i := 0) rfl rfl (by kernel_rfl) (by kernel_rfl) (by kernel_rfl) (by kernel_rfl) rfl (zm rfl) <| jd_z (i := 1) rfl rfl (by kernel_rfl) (by kernel_rfl) (by kernel_rfl) (by kernel_rfl) rfl (zm rfl) <| jd_z (i := 2) rfl rfl (by kernel_rfl) (by kernel_rfl) (by kernel_rfl) (by kernel_rfl) rfl (zm rfl) <| jd_first (i := 3) rfl rfl (by kernel_rfl) (by kernel_rfl) (by kernel_rfl) (by kernel_rfl) (by kernel_rfl) rfl (fun _ h => h) (yis rfl rfl (by omega) (by first | omega | (simp; omega))) <| jd_z (i := 4) rfl rfl (by kernel_rfl) (by kernel_rfl) (by kernel_rfl) (by kernel_rfl) rfl (zfa rfl rfl) <| jd_first (i := 5) rfl rfl (by kernel_rfl) (by kernel_rfl) (by kernel_rfl) (by kernel_rfl) (by kernel_rfl) rfl (fun _ h => h) (yld1 0 rfl rfl (flatk_get (i := (hPlace hs i n).toNat) len_hold (z := hZ) (by first | omega | (simp; omega)) rfl)) <| jd_z (i := 6) rfl rfl (by kernel_rfl) (by kernel_rfl) (by kernel_rfl) (by kernel_rfl) rfl (za rfl) <| jd_z (i := 7) rfl rfl (by kernel_rfl) (by kernel_rfl) (by kernel_rfl) (by kernel_rfl) rfl (za rfl) <| jd_z (i := 8) rfl rfl (by kernel_rfl) (by kernel_rfl) (by kernel_rfl) (by kernel_rfl) rfl (za rfl) <| jd_done (by kernel_rfl) <| p_thn <| c_ret <| ?_
            refine jp_shut (by first | omega | (simp; omega)) hco1 hro1 (by first | exact hlo1 | (rw [flatk_len len_hold]; simp <;> omega)) <| jp_freeze fun M1z hM1z hz1 => ?_
            have hS1z := frzS (r := rHold) (xs := hs.set (hPlace hs i n).toNat { ix hZ hs (hPlace hs i n).toNat with state := s }) hz1 (Rows.flat (fun _ => rfl) _) (by simp)
            refine p_ret0 rfl rfl (.tmp rfl <| .tmp rfl <| .tmp rfl <| .nil) ?_
            have e : hEnd hs i n s = (hs.set (hPlace hs i n).toNat { ix hZ hs (hPlace hs i n).toNat with state := s }, (ix hZ hs (hPlace hs i n).toNat).amount, 0) := by unfold hEnd; rw [if_pos (by simp [*]), if_neg (by omega), if_neg (by simp [*])]
            rw [e]
            exact ⟨_, _, hS1z, by rw [set_amount hlt hlt]; simp; rfl⟩
    · have phb2 := hb2; try simp at phb2
      refine jg_off rfl rfl rfl hb2 <| jg_off rfl rfl rfl hb2 <| jg rfl rfl hb1 <| jpick_f rfl rfl hb2 rfl <| jpick_f rfl rfl hb1 rfl <| ja rfl rfl <| j_nil <| p_thn <| c_cond_kf rfl rfl <| c_seq <| c_region <| jm rfl rfl <| jlss rfl rfl rfl <| ja rfl rfl <| j_nil <| p_thn <| c_cond rfl (fun hb8 => ?_) (fun hb8 => ?_)
      · have phb8 := hb8; try simp at phb8
        refine c_seq <| c_region <| ja rfl rfl <| ja rfl rfl <| ja rfl rfl <| j_nil <| p_thn <| c_ret <| p_inb_ret <| p_thn_ret <| ?_
        refine p_ret0 rfl rfl (.tmp rfl <| .tmp rfl <| .tmp rfl <| .nil) ?_
        refine ⟨none, 0, ?_⟩
        have e : hEnd hs i n s = ([], 0, 10) := by unfold hEnd; rw [if_pos (by simp [*]), if_pos phb8]
        rw [e]; exact ⟨SlR.nil, rfl⟩
      · have phb8 := hb8; try simp at phb8
        have hlt : (hPlace hs i n).toNat < hs.length := by unfold hPlace at phb8 ⊢; exact lFind_lt phb8
        refine c_seq <| c_region <| jm rfl rfl <| jm rfl rfl <| ji rfl rfl rfl (by omega) (by omega) (hS.adr (i := (hPlace hs i n).toNat) (by omega)) <| jfe rfl rfl rfl (hS.adr (i := (hPlace hs i n).toNat) (by omega)) <| jle1 (o := 4) rfl hS (ix_get (z := hZ) (i := (hPlace hs i n).toNat) (by omega)) rfl (fun c h => by cases h; rfl) <| jneq rfl rfl rfl <| ja rfl rfl <| j_nil <| p_thn <| c_cond rfl (fun hb9 => ?_) (fun hb9 => ?_)
        · have phb9 := hb9; try simp at phb9
          refine c_seq <| c_region <| ja rfl rfl <| ja rfl rfl <| ja rfl rfl <| j_nil <| p_thn <| c_ret <| p_inb_ret <| p_thn_ret <| ?_
          refine p_ret0 rfl rfl (.tmp rfl <| .tmp rfl <| .tmp rfl <| .nil) ?_
          refine ⟨none, 0, ?_⟩
          have e : hEnd hs i n s = ([], 0, 12) := by unfold hEnd; rw [if_pos (by simp [*]), if_neg (by omega), if_pos phb9]
          rw [e]; exact ⟨SlR.nil, rfl⟩
        · have phb9 := hb9; try simp at phb9
          refine c_skip <| p_inb <| p_thn <| c_seq <| c_region <| jm rfl rfl <| jcallr rfl rfl rfl (ap_0) (clone_Hold _ _ _ hl _ hS) (fun _ => (ap_s <| ap_0)) fun vc => ja rfl rfl <| j_nil <| p_thn <| c_seq <| c_region <| jm rfl rfl <| jm rfl rfl <| jm rfl rfl <| j_open (by first | omega | (simp; omega)) fun Bo2 capo2 rso2 hvo2 hco2 hro2 hlo2 => ?_
          subst hvo2
          refine jis rfl rfl rfl (by omega) (by first | omega | (simp; omega)) <| jfa rfl rfl rfl <| jst 0 rfl rfl rfl rfl rfl rfl (by rw [List.length_append, flatk_len len_hold]; simp; omega) (flatk_put1 (i := (hPlace hs i n).toNat) len_hold (z := hZ) (by first | omega | (simp; omega)) (by decide) uH_state) <| j_nil <| p_thn <| c_seq <| c_draw [3, 5] (by kernel_rfl) <| jd_z (i := 0) rfl rfl (by kernel_rfl) (by kernel_rfl) (by kernel_rfl) (by kernel_rfl) rfl (zm rfl) <| jd_z (i := 1) rfl rfl (by kernel_rfl) (by kernel_rfl) (by kernel_rfl) (by kernel_rfl) rfl (zm rfl) <| jd_z (i := 2) rfl rfl (by kernel_rfl) (by kernel_rfl) (by kernel_rfl) (by kernel_rfl) rfl (zm rfl) <| jd_first (i := 3) rfl rfl (by kernel_rfl) (by kernel_rfl) (by kernel_rfl) (by kernel_rfl) (by kernel_rfl) rfl (fun _ h => h) (yis rfl rfl (by omega) (by first | omega | (simp; omega))) <| jd_z (i := 4) rfl rfl (by kernel_rfl) (by kernel_rfl) (by kernel_rfl) (by kernel_rfl) rfl (zfa rfl rfl) <| jd_first (i := 5) rfl rfl (by kernel_rfl) (by kernel_rfl) (by kernel_rfl) (by kernel_rfl) (by kernel_rfl) rfl (fun _ h => h) (yld1 0 rfl rfl (flatk_get (i := (hPlace hs i n).toNat) len_hold (z := hZ) (by first | omega | (simp; omega)) rfl)) <| jd_z (i := 6) rfl rfl (by kernel_rfl) (by kernel_rfl) (by kernel_rfl) (by kernel_rfl) rfl (za rfl) <| jd_z (i := 7) rfl rfl (by kernel_rfl) (by kernel_rfl) (by kernel_rfl) (by kernel_rfl) rfl (za rfl) <| jd_z (i := 8) rfl rfl (by kernel_rfl) (by kernel_rfl) (by kernel_rfl) (by kernel_rfl) rfl (za rfl) <| jd_done (by kernel_rfl) <| p_thn <| c_ret <| ?_
          refine jp_shut (by first | omega | (simp; omega)) hco2 hro2 (by first | exact hlo2 | (rw [flatk_len len_hold]; simp <;> omega)) <| jp_freeze fun M2z hM2z hz2 => ?_
          have hS2z := frzS (r := rHold) (xs := hs.set (hPlace hs i n).toNat { ix hZ hs (hPlace hs i n).toNat with state := s }) hz2 (Rows.flat (fun _ => rfl) _) (by simp)
          refine p_ret0 rfl rfl (.tmp rfl <| .tmp rfl <| .tmp rfl <| .nil) ?_
          have e : hEnd hs i n s = (hs.set (hPlace hs i n).toNat { ix hZ hs (hPlace hs i n).toNat with state := s }, (ix hZ hs (hPlace hs i n).toNat).amount, 0) := by unfold hEnd; rw [if_pos (by simp [*]), if_neg (by omega), if_neg (by simp [*])]
          rw [e]
          exact ⟨_, _, hS2z, by rw [set_amount hlt hlt]; simp; rfl⟩
theorem hold_Expire (hs : List Hold) (A : Option Addr) (cap : Nat) (hl : hs.length ≤ 100000) (i d : Int) (M : Mem) (hS : SlR rHold M A cap hs) : Ctr Tryz.prog 109 [.slice A hs.length cap, vi i, vi d] M [] (fun v M' _ => ∃ A' cap', SlR rHold M' A' cap' (hExpire hs i d).1 ∧ v = .tuple #[.slice A' (hExpire hs i d).1.length cap', vi (hExpire hs i d).2]) := by
  refine ctr Tryz.func109 rfl Tryz.ntmps109 rfl fun w => ?_
  refine c_seq <| c_region <| ja rfl rfl <| ja rfl rfl <| j_nil <| p_thn <| c_seq <| c_region <| jm rfl rfl <| jcallr rfl rfl rfl (ap_0) (clone_Hold _ _ _ hl _ hS) (fun _ => (ap_s <| ap_0)) fun vc => ja rfl rfl <| ja rfl rfl <| j_nil <| p_thn <| c_seq <| c_seq <| c_region <| jm rfl rfl <| jcallv rfl rfl rfl (hold_Rights _ _ _ hl _ hS) <| jnot rfl rfl <| j_nil <| p_thn <| c_cond rfl (fun hb3 => ?_) (fun hb3 => ?_)
  · have phb3 := hb3; try simp at phb3
    refine c_seq <| c_region <| jm rfl rfl <| ja rfl rfl <| ja rfl rfl <| j_nil <| p_thn <| c_ret <| p_thn_ret <| ?_
    refine jp_freeze fun M1z hM1z hz1 => ?_
    obtain ⟨A1z, cap1z, rfl, hS1z⟩ := frz (r := rHold) (xs := hs) hz1 (Rows.flat (fun _ => rfl) _) rfl
    refine p_ret0 rfl rfl (.tmp rfl <| .tmp rfl <| .nil) ?_
    have e : hExpire hs i d = (hs, 0) := by unfold hExpire; rw [if_neg (by simp [*])]
    rw [e]; exact ⟨_, _, hS1z, rfl⟩
  · have phb3 := hb3; try simp at phb3
    refine c_skip <| p_thn <| c_seq <| c_seq <| c_region <| jm rfl rfl <| jrlen 0 rfl rfl rfl <| jm rfl rfl <| j_nil <| p_thn <| c_block <| c_lpL (X := Nat) (fun k => k ≤ hs.length) (fun k => hs.length - k) (fun k => [(20, vi (k : Int)), (9, vi (((hs.take k).filter (hDue i d)).length))]) [19, 18, 8, 7, 6, 2, 1] (fun k => [.row vc 129 5 hs.length (((hs.take k).map (hExp i d) ++ hs.drop k).flatMap encHold)]) 0 ?_ (sub_c rfl <| sub_c rfl <| sub_c rfl <| sub_c rfl <| sub_c rfl <| sub_c rfl <| sub_c rfl <| sub_c rfl <| sub_c rfl <| sub_n) (by simp) ?_
    · exact Nat.zero_le _
    · intro k hI
      have hfl : ((hs.take k).filter (hDue i d)).length ≤ hs.length := Nat.le_trans (List.length_filter_le _ _) (by simp; omega)
      refine c_seq <| c_region <| jlss rfl rfl rfl <| j_nil <| p_thn <| c_seq <| c_cond rfl (fun hb4 => ?_) (fun hb4 => ?_)
      · have phb4 := hb4; try simp at phb4
        refine c_skip <| p_thn <| c_seq <| c_block <| c_seq <| c_region <| jm rfl rfl <| j_open (by first | omega | (simp; omega)) fun Bo1 capo1 rso1 hvo1 hco1 hro1 hlo1 => ?_
        subst hvo1
        refine jis rfl rfl rfl (by omega) (by first | omega | (simp; omega)) <| jld 0 rfl rfl rfl (flatk_getw (i := k) len_hold (z := hZ) (by first | omega | (simp; omega))) (len_hold _) <| ?_
        rw [exp_at (by omega)]
        refine jalloc rfl fun B5 => ja rfl rfl <| jstw 0 rfl rfl rfl rfl (len_hold _) (one_hold _) (len_hold _) <| j_nil <| p_thn <| c_seq <| c_region <| jfa rfl rfl rfl <| jld1 0 rfl rfl rfl rfl <| jm rfl rfl <| jeql rfl rfl rfl <| jm rfl rfl <| jgs rfl rfl (fun hb6 => ?_) (fun hb6 => ?_)
        · have phb6 := hb6; try simp at phb6
          refine jg rfl rfl hb6 <| jfa rfl rfl rfl <| jg rfl rfl hb6 <| jld1 0 rfl rfl rfl rfl <| jg rfl rfl hb6 <| jeql rfl rfl rfl <| jpick_t rfl rfl hb6 rfl <| jm rfl rfl <| jgs rfl rfl (fun hb7 => ?_) (fun hb7 => ?_)
          · have phb7 := hb7; try simp at phb7
            refine jg rfl rfl hb7 <| jfa rfl rfl rfl <| jg rfl rfl hb7 <| jld1 0 rfl rfl rfl rfl <| jg rfl rfl hb7 <| jm rfl rfl <| jg rfl rfl hb7 <| jlss rfl rfl rfl <| jpick_t rfl rfl hb7 rfl <| j_nil <| p_thn <| c_cond rfl (fun hb8 => ?_) (fun hb8 => ?_)
            · have phb8 := hb8; try simp at phb8
              refine c_seq <| c_region <| jm rfl rfl <| jm rfl rfl <| jis rfl rfl rfl (by omega) (by first | omega | (simp; omega)) <| jfa rfl rfl rfl <| jst 1 rfl rfl rfl rfl rfl rfl (by rw [List.length_append, flatk_len len_hold]; simp; omega) (flatk_put1 (i := k) len_hold (z := hZ) (by first | omega | (simp; omega)) (by decide) uH_state) <| j_nil <| p_thn <| c_region <| jm rfl rfl <| jadd rfl rfl rfl (by first | exact wr (by omega) (by omega) | rfl) <| ja rfl rfl <| j_nil <| p_inb <| p_thn <| c_region <| jadd rfl rfl rfl (by first | exact wr (by omega) (by omega) | rfl) <| jm rfl rfl <| j_nil <| jp_perm (fr_s <| fr_0) <| jp_shut (by first | omega | (simp; omega)) hco1 hro1 (by first | exact hlo1 | (rw [flatk_len len_hold]; simp <;> omega)) <| jp_tk (ap_s <| ap_0) <| ?_
              refine p_lp (k + 1) ?_ ?_ (sub_c rfl <| sub_c (sub_v rfl (by rw [due_succ (by omega)]; simp [hDue, *])) <| sub_c rfl <| sub_c rfl <| sub_c rfl <| sub_c rfl <| sub_c rfl <| sub_c rfl <| sub_c rfl <| sub_n) rfl (by first | rw [exp_succ (by omega) (by simp [hDue, *])] | rw [← exp_same (by omega) (by simp [hDue, *])])
              · omega
              · omega
            · have phb8 := hb8; try simp at phb8
              refine c_skip <| p_inb <| p_thn <| c_region <| jadd rfl rfl rfl (by first | exact wr (by omega) (by omega) | rfl) <| jm rfl rfl <| j_nil <| jp_perm (fr_s <| fr_0) <| jp_shut (by first | omega | (simp; omega)) hco1 hro1 (by first | exact hlo1 | (rw [flatk_len len_hold]; simp <;> omega)) <| jp_tk (ap_s <| ap_0) <| ?_
              refine p_lp (k + 1) ?_ ?_ (sub_c rfl <| sub_c (sub_v rfl (by rw [due_succ (by omega)]; simp [hDue, *])) <| sub_c rfl <| sub_c rfl <| sub_c rfl <| sub_c rfl <| sub_c rfl <| sub_c rfl <| sub_c rfl <| sub_n) rfl (by first | rw [exp_succ (by omega) (by simp [hDue, *])] | rw [← exp_same (by omega) (by simp [hDue, *])])
              · omega
              · omega
          · have phb7 := hb7; try simp at phb7
            refine jg_off rfl rfl rfl hb7 <| jg_off rfl rfl rfl hb7 <| jg_off rfl rfl rfl hb7 <| jg_off rfl rfl rfl hb7 <| jpick_f rfl rfl hb7 rfl <| j_nil <| p_thn <| c_cond_kf rfl rfl <| c_skip <| p_inb <| p_thn <| c_region <| jadd rfl rfl rfl (by first | exact wr (by omega) (by omega) | rfl) <| jm rfl rfl <| j_nil <| jp_perm (fr_s <| fr_0) <| jp_shut (by first | omega | (simp; omega)) hco1 hro1 (by first | exact hlo1 | (rw [flatk_len len_hold]; simp <;> omega)) <| jp_tk (ap_s <| ap_0) <| ?_
            refine p_lp (k + 1) ?_ ?_ (sub_c rfl <| sub_c (sub_v rfl (by rw [due_succ (by omega)]; simp [hDue, *])) <| sub_c rfl <| sub_c rfl <| sub_c rfl <| sub_c rfl <| sub_c rfl <| sub_c rfl <| sub_c rfl <| sub_n) rfl (by first | rw [exp_succ (by omega) (by simp [hDue, *])] | rw [← exp_same (by omega) (by simp [hDue, *])])
            · omega
            · omega
        · have phb6 := hb6; try simp at phb6
          refine jg_off rfl rfl rfl hb6 <| jg_off rfl rfl rfl hb6 <| jg_off rfl rfl rfl hb6 <| jpick_f rfl rfl hb6 rfl <| jm rfl rfl <| jg_off rfl rfl rfl rfl <| jg_off rfl rfl rfl rfl <| jg_off rfl rfl rfl rfl <| jg_off rfl rfl rfl rfl <| jpick_f rfl rfl rfl rfl <| j_nil <| p_thn <| c_cond_kf rfl rfl <| c_skip <| p_inb <| p_thn <| c_region <| jadd rfl rfl rfl (by first | exact wr (by omega) (by omega) | rfl) <| jm rfl rfl <| j_nil <| jp_perm (fr_s <| fr_0) <| jp_shut (by first | omega | (simp; omega)) hco1 hro1 (by first | exact hlo1 | (rw [flatk_len len_hold]; simp <;> omega)) <| jp_tk (ap_s <| ap_0) <| ?_
          refine p_lp (k + 1) ?_ ?_ (sub_c rfl <| sub_c (sub_v rfl (by rw [due_succ (by omega)]; simp [hDue, *])) <| sub_c rfl <| sub_c rfl <| sub_c rfl <| sub_c rfl <| sub_c rfl <| sub_c rfl <| sub_c rfl <| sub_n) rfl (by first | rw [exp_succ (by omega) (by simp [hDue, *])] | rw [← exp_same (by omega) (by simp [hDue, *])])
          · omega
          · omega
      · have phb4 := hb4; try simp at phb4
        refine c_exit <| p_thn_exit <| p_lp_exit <| p_inb_exit <| p_thn <| c_seq <| c_region <| jm rfl rfl <| jm rfl rfl <| ja rfl rfl <| ja rfl rfl <| j_nil <| p_thn <| c_ret <| ?_
        refine jp_freeze fun M2z hM2z hz2 => ?_
        obtain ⟨A2z, cap2z, rfl, hS2z⟩ := frz (r := rHold) (xs := hs.map (hExp i d)) hz2 (by rw [List.take_of_length_le (by omega), List.drop_of_length_le (by omega), List.append_nil]; exact Rows.flat (fun _ => rfl) _) (by simp)
        refine p_ret0 rfl rfl (.tmp rfl <| .tmp rfl <| .nil) ?_
        have e : hExpire hs i d = (hs.map (hExp i d), ((hs.filter (hDue i d)).length : Int)) := by unfold hExpire; rw [if_pos phb3]
        obtain rfl : k = hs.length := by omega
        rw [e]; exact ⟨_, _, hS2z, by rw [List.take_length]; rfl⟩
end Go.Proofs.YtihgpbpcbbgdiaaGreat

/- slices.SortFunc at structs, over an owned row. -/
namespace Go.Proofs.YtihgpbpcbbgdiaaGreat
open Go.RowKit Go.Shelf Go.Sort Go.Lib
set_option linter.unusedVariables false
set_option linter.unusedSimpArgs false
theorem flatK_eq {α : Type} [Inhabited α] {f : α → List Value} {k : Nat} (hk : ∀ x, (f x).length = k) (d : Array α) : flatK f k d = (d.toList.flatMap f).toArray := by
  apply Array.ext
  · simp [flatK, flatk_len hk]
  · intro t h1 h2
    have ht : t < d.size * k := by simpa [flatK] using h1
    have k0 : 0 < k := by rcases Nat.eq_zero_or_pos k with rfl | h; · simp at ht
                          · exact h
    have hi : t / k < d.size := Nat.div_lt_of_lt_mul (by rw [Nat.mul_comm]; exact ht)
    have hp := flatk_part hk d.toList (i := t / k) (x := d[t / k]) (by simp [hi])
    have e1 : (flatK f k d)[t] = (f d[t / k]!)[t % k]! := by
      have := get_flatK f k d t ht
      rwa [getElem!_pos (flatK f k d) t h1] at this
    rw [e1, getElem!_pos d _ hi]
    have hm : t % k < k := Nat.mod_lt _ k0
    rw [getElem!_pos _ _ (by rw [hk]; exact hm)]
    have e2 : (f d[t / k])[t % k]? = (d.toList.flatMap f)[t]? := by
      rw [← hp, List.getElem?_take]
      simp [hm]
      congr 1
      have := Nat.div_add_mod t k
      rw [Nat.mul_comm] at this; omega
    rw [List.getElem?_eq_getElem (by rw [hk]; exact hm), List.getElem?_eq_getElem (by simpa using h2)] at e2
    simpa using Option.some.inj e2
theorem grown_of {W w' : World} (hos : w'.os = W.os) (ht : w'.tape = W.tape) (ho : w'.output = W.output) (hd : W.drawn ≤ w'.drawn) (hs : W.heap.size ≤ w'.heap.size) (hk : ∀ k, k < W.heap.size → w'.heap[k]? = W.heap[k]?) :
    ∃ q os', w' = Go.Sort.grow (W.drewN q) os' := by
  refine ⟨w'.drawn - W.drawn, w'.heap.extract W.heap.size w'.heap.size, ?_⟩
  obtain ⟨h1, t1, d1, o1, p1⟩ := w'
  obtain ⟨h2, t2, d2, o2, p2⟩ := W
  simp only at *
  subst hos ht ho
  unfold Go.Sort.grow World.drewN
  simp only [World.mk.injEq, true_and, and_true]
  refine ⟨?_, by omega⟩
  apply Array.ext_getElem?
  intro i
  by_cases hi : i < h2.size
  · rw [hk i hi, Array.getElem?_append_left hi]
  · rw [Array.getElem?_append_right (by omega)]
    by_cases hj : i < h1.size
    · rw [Array.getElem?_extract]
      simp; rw [if_pos (by omega)]; congr 1; omega
    · rw [Array.getElem?_eq_none (by omega), Array.getElem?_eq_none (by simp; omega)]
theorem heap_sortK {α : Type} [Inhabited α] {f : α → List Value} {k : Nat} (hk : ∀ x, (f x).length = k) {w : World} {B T m : Nat} {c rs : List Value} {d : Array α} {os : Array Obj} (hB : w.heap[B]? = some (.cells (c ++ rs).toArray T (0, 0))) (hc : c.length = d.size * k) :
    (sortWorldK f k w B 0 m d os).heap[B]? = some (.cells (d.toList.flatMap f ++ rs).toArray T (0, 0)) := by
  have hlt := (Array.getElem?_eq_some_iff.1 hB).1
  show ((w.heap.modify B (onCells (putCells id 0 (flatK f k d)))) ++ os)[B]? = _
  rw [Array.getElem?_append_left (by simpa using hlt), Array.getElem?_modify, if_pos rfl, hB]
  show some (Obj.cells (putCells id 0 (flatK f k d) (c ++ rs).toArray) T (0, 0)) = _
  congr 2
  rw [flatK_eq hk]
  have hl : (d.toList.flatMap f).length = d.size * k := by rw [flatk_len hk]; simp
  unfold putCells
  apply Array.ext_getElem?
  intro i
  simp only [Array.getElem?_mapIdx, Nat.zero_le, true_and, Nat.zero_add, Nat.sub_zero, id]
  by_cases hi : i < d.size * k
  · have h1 : i < (c ++ rs).length := by rw [List.length_append]; omega
    simp only [List.getElem?_toArray, List.getElem?_eq_getElem h1, Option.map_some, List.size_toArray, hl, hi, if_true]
    rw [List.getElem?_append_left (by omega), List.getElem?_eq_getElem (by omega), getElem!_pos _ i (by rw [List.size_toArray]; omega)]
    simp
  · simp only [List.getElem?_toArray, List.size_toArray, hl, hi, if_false]
    rw [List.getElem?_append_right (by omega), List.getElem?_append_right (by omega), hc, hl]
    cases rs[i - d.size * k]? <;> rfl
theorem other_sortK {α : Type} [Inhabited α] {f : α → List Value} {k : Nat} {w : World} {B m i : Nat} {d : Array α} {os : Array Obj} (hi : i < w.heap.size) (hne : i ≠ B) : (sortWorldK f k w B 0 m d os).heap[i]? = w.heap[i]? := by
  show ((w.heap.modify B (onCells (putCells id 0 (flatK f k d)))) ++ os)[i]? = _
  rw [Array.getElem?_append_left (by simpa using hi), Array.getElem?_modify, if_neg (Ne.symm hne)]
def pdqL {α : Type} [Inhabited α] (cf : α → α → Int) (xs : List α) : List α := (pdq (ltOf cf) xs.toArray 0 xs.toArray.size (Go.Lib.bitLen xs.toArray.size) true true).toList
theorem pdqL_perm {α : Type} [Inhabited α] {cf : α → α → Int} (hO : SWO (ltOf cf)) (xs : List α) : (pdqL cf xs).Perm xs := by
  have h := (pdq_sorts (ltOf cf) hO xs.toArray 0 xs.toArray.size (Go.Lib.bitLen xs.toArray.size) true true (Nat.zero_le _) (Nat.le_refl _) (Or.inl rfl)).1
  unfold pdqL
  generalize pdq (ltOf cf) xs.toArray 0 xs.toArray.size (Go.Lib.bitLen xs.toArray.size) true true = d at h ⊢
  obtain ⟨h1, _, h3⟩ := h
  have e1 : d.extract 0 xs.toArray.size = d := by rw [← h1]; simp
  rw [e1] at h3
  simpa using h3
theorem ctr_sort {P : Program} {ρ : Ren} (Ly : SlLaysF0.n6 P ρ) {α : Type} [Inhabited α] {f : α → List Value} {k : Nat} (hk : ∀ x, (f x).length = k) (h1 : ∀ x, (f x).all Value.oneCell' = true) [Ty : TyI P (ρ.t 24) true k] {cf : α → α → Int} (hO : SWO (ltOf cf)) {g : Nat} [FnI P g]
    (hcmp : ∀ M x y, Ctr P g [.agg (f x).toArray, .agg (f y).toArray] M [] (fun v _ _ => v = .int .i64 (cf x y))) (xs : List α) {v : Value} {T n : Nat} {c : List Value} (M : Mem) (hl : xs.length ≤ 100000) (hn : n = xs.length) (hc : c = xs.flatMap f) :
    Ctr P (ρ.f 6) [v, .func (.func g) #[] #[]] M [.row v T k n c] (fun r _ L' => r = .tuple #[] ∧ L' = [.row v T k n ((pdqL cf xs).flatMap f)]) := fun w ho => by
  have hperm := pdqL_perm hO xs
  have hrow := ho.at' (i := 0) rfl
  subst hn hc
  rcases hrow.2 with ⟨h0, A, rfl⟩ | ⟨B, cap, rs, rfl, g0, g1, g2, g3⟩
  · have hx : xs = [] := List.length_eq_zero_iff.1 h0
    subst hx
    have hp0 : pdqL cf ([] : List α) = [] := List.Perm.eq_nil hperm
    refine (AnyF.slices_SortFunc_none Ly A 0 _ w).mono ?_
    rintro e w' ⟨rfl, rfl⟩
    exact ⟨_, M, _, rfl, ⟨rfl, rfl⟩, by rw [hp0]; exact ho⟩
  · have hBin : B ∈ blks [Ent.row (.slice (some ⟨B, 0, none⟩) xs.length cap) T k xs.length (xs.flatMap f)] := by simp [blks, Ent.bs]; omega
    have hbl : blks [Ent.row (.slice (some ⟨B, 0, none⟩) xs.length cap) T k xs.length (xs.flatMap f)] = [B] := by simp [blks, Ent.bs]; omega
    have hlt := (Array.getElem?_eq_some_iff.1 g3).1
    have hlen : (xs.flatMap f).length = xs.toArray.size * k := by rw [flatk_len hk]; simp
    have hlen2 : (xs.toArray.toList.flatMap f).length = xs.toArray.size * k := hlen
    have hC : CmpLays P g #[] f k cf B 0 xs.toArray.size w := by
      intro m os dk hdk x y
      let W := sortWorldK f k w B 0 m dk os
      have hW : Own ⟨P, 0, W, blks [], fun _ => none, []⟩ (fun _ => none) W [] :=
        ⟨rfl, rfl, rfl, Nat.le_refl _, Nat.le_refl _, fun _ _ _ => rfl, fun _ _ h => (by cases h), fun _ _ h => (by cases h), fun _ _ h => h, fun _ _ h => (by cases h), fun _ h => (by cases h), List.nodup_nil, fun _ h => (by cases h)⟩
      have := hcmp (fun _ => none) x y W hW
      refine this.mono ?_
      rintro e w' ⟨v, M', L', rfl, rfl, h2⟩
      exact ⟨rfl, grown_of h2.os h2.tape h2.output h2.dr h2.size (fun i hi => h2.keep i hi (by simp [blks]))⟩
    have hH : HoldsK f k w B 0 xs.toArray := by
      intro j hj
      have hj' : j < xs.toArray.size * k := by simpa using hj
      refine ⟨?_, ?_⟩
      · rw [cell_of_heap g3, Nat.zero_add, List.getElem?_append_left (by omega), flatK_eq hk]
        rw [List.getElem?_eq_getElem (by omega), getElem!_pos _ j (by rw [List.size_toArray]; omega)]
        simp
      · unfold World.frozen?
        simp [g3]
    refine (AnyQ.slices_SortFunc_eq Ly k (fun w => run_isAgg w) (fun w => run_sz w) f hk (fun x v hv => by have := List.all_eq_true.1 (h1 x) v hv; exact this) cf hO g #[] B 0 cap xs.toArray w (fun args w => run_callFunc args w) hC hH hlt (by simp; omega)).mono ?_
    rintro e w' ⟨rfl, q, os, rfl⟩
    have hsz : (pdq (ltOf cf) xs.toArray 0 xs.toArray.size (Go.Lib.bitLen xs.toArray.size) true true).size = xs.length := by
      have := hperm.length_eq; simpa [pdqL] using this
    have hheap := heap_sortK (m := q) (os := os) (d := pdq (ltOf cf) xs.toArray 0 xs.toArray.size (Go.Lib.bitLen xs.toArray.size) true true) hk g3 (by rw [hsz, flatk_len hk])
    refine ⟨_, M, _, rfl, ⟨rfl, rfl⟩, rfl, rfl, rfl, Nat.le_add_right _ _, ?_, ?_, ?_, fun a v hv => .inl hv, fun _ _ h => h, ?_, ?_, ?_, ?_⟩
    · show w.heap.size ≤ ((w.heap.modify B _) ++ os).size
      simp
    · intro i hi hn
      rw [hbl] at hn
      exact other_sortK hi (by simpa using hn)
    · intro a v hv
      have hne : a.block ≠ B := fun e => ho.off a v hv (by rw [e]; exact hBin)
      have h2 := ho.mem a v hv
      rw [World.cell?_of_block (w := w) (other_sortK (cell_lt h2) hne)]
      exact h2
    · intro a v hv hm
      have : blks [Ent.row (.slice (some ⟨B, 0, none⟩) xs.length cap) T k xs.length ((pdqL cf xs).flatMap f)] = [B] := by simp [blks, Ent.bs]; omega
      rw [this] at hm
      exact ho.off a v hv (by rw [hbl]; exact hm)
    · intro e he
      simp at he; subst he
      refine ⟨by rw [flatk_len hk, hperm.length_eq], .inr ⟨B, cap, rs, rfl, g0, g1, g2, hheap⟩⟩
    · simp [blks, Ent.bs, Nat.ne_of_gt g0]
    · intro b hb
      have : blks [Ent.row (.slice (some ⟨B, 0, none⟩) xs.length cap) T k xs.length ((pdqL cf xs).flatMap f)] = [B] := by simp [blks, Ent.bs]; omega
      rw [this] at hb
      exact .inl (by rw [hbl]; exact hb)
end Go.Proofs.YtihgpbpcbbgdiaaGreat

/-
  DERIVED: THE SHELF's CONTRACTS AT THIS DUMP, IN PLAIN WORDS (tools/lay-plain.mjs out of 'YtihgpbpcbbgdiaaGreatShelf.lean', which tools/lay-shelf.mjs wrote): THE SAME DECLARATIONS UNDER THE SAME NAMES: 'import', 'namespace', 'open', 'def', 'theorem' AND NOTHING ELSE: no command of the shelf's: FOR A HAND-IN. Each laying: the table of numbers ('.._ren') and one theorem, a field a fact of the dump's own or the kernel's comparison; each contract: ONE APPLICATION.
-/
namespace Go.Proofs
open Go.Shelf
def Tryz.laysSortHold_ren : Go.Shelf.Ren := ⟨fun | 6 => 117 | 15 => 139 | 14 => 160 | 28 => 189 | 29 => 190 | 20 => 196 | 21 => 197 | 22 => 198 | 23 => 199 | 24 => 200 | 25 => 201 | 26 => 202 | 27 => 203 | 46 => 213 | 47 => 208 | 48 => 209 | 49 => 214 | 50 => 215 | 57 => 217 | n => n, fun | 22 => 47 | 24 => 129 | 25 => 158 | 3 => 3 | 39 => 180 | 0 => 0 | 53 => 208 | 55 => 210 | 4 => 4 | 46 => 202 | 45 => 201 | 50 => 95 | 5 => 5 | 9 => 9 | 66 => 220 | 70 => 224 | 76 => 228 | 77 => 75 | n => n, fun | n => n⟩
theorem Tryz.laysSortHold : Go.Proofs.SlLaysF0.n6 Tryz.prog Tryz.laysSortHold_ren := {
  mixed := by kernel_rfl
  f6 := ⟨Tryz.f117.name, by decide, Tryz.func117.trans (congrArg some (by kernel_rfl))⟩
  f14 := ⟨Tryz.f160.name, by decide, Tryz.func160.trans (congrArg some (by kernel_rfl))⟩
  f15 := Tryz.func139.trans (congrArg some (by kernel_rfl))
  f20 := ⟨Tryz.f196.name, by decide, Tryz.func196.trans (congrArg some (by kernel_rfl))⟩
  f21 := ⟨Tryz.f197.name, by decide, Tryz.func197.trans (congrArg some (by kernel_rfl))⟩
  f22 := ⟨Tryz.f198.name, by decide, Tryz.func198.trans (congrArg some (by kernel_rfl))⟩
  f23 := ⟨Tryz.f199.name, by decide, Tryz.func199.trans (congrArg some (by kernel_rfl))⟩
  f24 := ⟨Tryz.f200.name, by decide, Tryz.func200.trans (congrArg some (by kernel_rfl))⟩
  f25 := ⟨Tryz.f201.name, by decide, Tryz.func201.trans (congrArg some (by kernel_rfl))⟩
  f26 := ⟨Tryz.f202.name, by decide, Tryz.func202.trans (congrArg some (by kernel_rfl))⟩
  f27 := ⟨Tryz.f203.name, by decide, Tryz.func203.trans (congrArg some (by kernel_rfl))⟩
  f28 := Tryz.func189.trans (congrArg some (by kernel_rfl))
  f29 := Tryz.func190.trans (congrArg some (by kernel_rfl))
  f46 := ⟨Tryz.f213.name, by decide, Tryz.func213.trans (congrArg some (by kernel_rfl))⟩
  f47 := Tryz.func208.trans (congrArg some (by kernel_rfl))
  f48 := Tryz.func209.trans (congrArg some (by kernel_rfl))
  f49 := ⟨Tryz.f214.name, by decide, Tryz.func214.trans (congrArg some (by kernel_rfl))⟩
  f50 := ⟨Tryz.f215.name, by decide, Tryz.func215.trans (congrArg some (by kernel_rfl))⟩
  f57 := ⟨Tryz.f217.name, by decide, Tryz.func217.trans (congrArg some (by kernel_rfl))⟩
  t0 := Tryz.underlying0
  a0 := Tryz.isAgg0
  z0 := Tryz.sizeOf0
  v0 := Tryz.zeroValue0
  t3 := Tryz.underlying3
  a3 := Tryz.isAgg3
  z3 := Tryz.sizeOf3
  v3 := Tryz.zeroValue3
  t4 := Tryz.underlying4
  a4 := Tryz.isAgg4
  z4 := Tryz.sizeOf4
  v4 := Tryz.zeroValue4
  t5 := Tryz.underlying5
  a5 := Tryz.isAgg5
  z5 := Tryz.sizeOf5
  v5 := Tryz.zeroValue5
  t9 := Tryz.underlying9
  a9 := Tryz.isAgg9
  z9 := Tryz.sizeOf9
  v9 := Tryz.zeroValue9
  t22 := Tryz.underlying47
  a22 := Tryz.isAgg47
  z22 := Tryz.sizeOf47
  v22 := Tryz.zeroValue47
  t25 := Tryz.underlying158
  a25 := Tryz.isAgg158
  z25 := Tryz.sizeOf158
  v25 := Tryz.zeroValue158
  t39 := Tryz.underlying180
  a39 := Tryz.isAgg180
  z39 := Tryz.sizeOf180
  v39 := Tryz.zeroValue180
  t45 := Tryz.underlying201
  a45 := Tryz.isAgg201
  z45 := Tryz.sizeOf201
  v45 := Tryz.zeroValue201
  t46 := Tryz.underlying202
  a46 := Tryz.isAgg202
  z46 := Tryz.sizeOf202
  v46 := Tryz.zeroValue202
  t50 := Tryz.underlying95
  a50 := Tryz.isAgg95
  z50 := Tryz.sizeOf95
  v50 := Tryz.zeroValue95
  t53 := Tryz.underlying208
  a53 := Tryz.isAgg208
  z53 := Tryz.sizeOf208
  v53 := Tryz.zeroValue208
  t55 := Tryz.underlying210
  a55 := Tryz.isAgg210
  z55 := Tryz.sizeOf210
  v55 := Tryz.zeroValue210
  t66 := Tryz.underlying220
  a66 := Tryz.isAgg220
  z66 := Tryz.sizeOf220
  v66 := Tryz.zeroValue220
  t70 := Tryz.underlying224
  a70 := Tryz.isAgg224
  z70 := Tryz.sizeOf224
  v70 := Tryz.zeroValue224
  t76 := Tryz.underlying228
  a76 := Tryz.isAgg228
  z76 := Tryz.sizeOf228
  v76 := Tryz.zeroValue228
  t77 := Tryz.underlying75
  a77 := Tryz.isAgg75
  z77 := Tryz.sizeOf75
  v77 := Tryz.zeroValue75 }
def Tryz.laysSortField_ren : Go.Shelf.Ren := ⟨fun | 6 => 94 | 15 => 139 | 14 => 138 | 28 => 189 | 29 => 190 | 20 => 181 | 21 => 182 | 22 => 183 | 23 => 184 | 24 => 185 | 25 => 186 | 26 => 187 | 27 => 188 | 46 => 207 | 47 => 208 | 48 => 209 | 49 => 210 | 50 => 211 | 57 => 216 | n => n, fun | 22 => 22 | 24 => 49 | 25 => 141 | 3 => 3 | 39 => 180 | 0 => 0 | 53 => 208 | 55 => 210 | 4 => 4 | 46 => 202 | 45 => 201 | 50 => 95 | 5 => 5 | 9 => 9 | 66 => 220 | 70 => 224 | 76 => 228 | 77 => 75 | n => n, fun | n => n⟩
theorem Tryz.laysSortField : Go.Proofs.SlLaysF0.n6 Tryz.prog Tryz.laysSortField_ren := {
  mixed := by kernel_rfl
  f6 := ⟨Tryz.f94.name, by decide, Tryz.func94.trans (congrArg some (by kernel_rfl))⟩
  f14 := ⟨Tryz.f138.name, by decide, Tryz.func138.trans (congrArg some (by kernel_rfl))⟩
  f15 := Tryz.func139.trans (congrArg some (by kernel_rfl))
  f20 := ⟨Tryz.f181.name, by decide, Tryz.func181.trans (congrArg some (by kernel_rfl))⟩
  f21 := ⟨Tryz.f182.name, by decide, Tryz.func182.trans (congrArg some (by kernel_rfl))⟩
  f22 := ⟨Tryz.f183.name, by decide, Tryz.func183.trans (congrArg some (by kernel_rfl))⟩
  f23 := ⟨Tryz.f184.name, by decide, Tryz.func184.trans (congrArg some (by kernel_rfl))⟩
  f24 := ⟨Tryz.f185.name, by decide, Tryz.func185.trans (congrArg some (by kernel_rfl))⟩
  f25 := ⟨Tryz.f186.name, by decide, Tryz.func186.trans (congrArg some (by kernel_rfl))⟩
  f26 := ⟨Tryz.f187.name, by decide, Tryz.func187.trans (congrArg some (by kernel_rfl))⟩
  f27 := ⟨Tryz.f188.name, by decide, Tryz.func188.trans (congrArg some (by kernel_rfl))⟩
  f28 := Tryz.func189.trans (congrArg some (by kernel_rfl))
  f29 := Tryz.func190.trans (congrArg some (by kernel_rfl))
  f46 := ⟨Tryz.f207.name, by decide, Tryz.func207.trans (congrArg some (by kernel_rfl))⟩
  f47 := Tryz.func208.trans (congrArg some (by kernel_rfl))
  f48 := Tryz.func209.trans (congrArg some (by kernel_rfl))
  f49 := ⟨Tryz.f210.name, by decide, Tryz.func210.trans (congrArg some (by kernel_rfl))⟩
  f50 := ⟨Tryz.f211.name, by decide, Tryz.func211.trans (congrArg some (by kernel_rfl))⟩
  f57 := ⟨Tryz.f216.name, by decide, Tryz.func216.trans (congrArg some (by kernel_rfl))⟩
  t0 := Tryz.underlying0
  a0 := Tryz.isAgg0
  z0 := Tryz.sizeOf0
  v0 := Tryz.zeroValue0
  t3 := Tryz.underlying3
  a3 := Tryz.isAgg3
  z3 := Tryz.sizeOf3
  v3 := Tryz.zeroValue3
  t4 := Tryz.underlying4
  a4 := Tryz.isAgg4
  z4 := Tryz.sizeOf4
  v4 := Tryz.zeroValue4
  t5 := Tryz.underlying5
  a5 := Tryz.isAgg5
  z5 := Tryz.sizeOf5
  v5 := Tryz.zeroValue5
  t9 := Tryz.underlying9
  a9 := Tryz.isAgg9
  z9 := Tryz.sizeOf9
  v9 := Tryz.zeroValue9
  t22 := Tryz.underlying22
  a22 := Tryz.isAgg22
  z22 := Tryz.sizeOf22
  v22 := Tryz.zeroValue22
  t25 := Tryz.underlying141
  a25 := Tryz.isAgg141
  z25 := Tryz.sizeOf141
  v25 := Tryz.zeroValue141
  t39 := Tryz.underlying180
  a39 := Tryz.isAgg180
  z39 := Tryz.sizeOf180
  v39 := Tryz.zeroValue180
  t45 := Tryz.underlying201
  a45 := Tryz.isAgg201
  z45 := Tryz.sizeOf201
  v45 := Tryz.zeroValue201
  t46 := Tryz.underlying202
  a46 := Tryz.isAgg202
  z46 := Tryz.sizeOf202
  v46 := Tryz.zeroValue202
  t50 := Tryz.underlying95
  a50 := Tryz.isAgg95
  z50 := Tryz.sizeOf95
  v50 := Tryz.zeroValue95
  t53 := Tryz.underlying208
  a53 := Tryz.isAgg208
  z53 := Tryz.sizeOf208
  v53 := Tryz.zeroValue208
  t55 := Tryz.underlying210
  a55 := Tryz.isAgg210
  z55 := Tryz.sizeOf210
  v55 := Tryz.zeroValue210
  t66 := Tryz.underlying220
  a66 := Tryz.isAgg220
  z66 := Tryz.sizeOf220
  v66 := Tryz.zeroValue220
  t70 := Tryz.underlying224
  a70 := Tryz.isAgg224
  z70 := Tryz.sizeOf224
  v70 := Tryz.zeroValue224
  t76 := Tryz.underlying228
  a76 := Tryz.isAgg228
  z76 := Tryz.sizeOf228
  v76 := Tryz.zeroValue228
  t77 := Tryz.underlying75
  a77 := Tryz.isAgg75
  z77 := Tryz.sizeOf75
  v77 := Tryz.zeroValue75 }
end Go.Proofs

/- slices.SortFunc, at holds. -/
namespace Go.Proofs.YtihgpbpcbbgdiaaGreat
open Go.RowKit Go.Sort
set_option linter.unusedVariables false
set_option linter.unusedSimpArgs false
instance : Inhabited Hold := ⟨hZ⟩
theorem hCmp_lt {a b : Hold} : hCmp a b < 0 ↔ a.replica < b.replica ∨ (a.replica = b.replica ∧ a.number < b.number) := by
  unfold hCmp
  split
  · split <;> simp <;> omega
  · split
    · split <;> simp <;> omega
    · simp; omega
theorem hCmp_swo : SWO (ltOf hCmp) where
  irrefl := fun x => by unfold ltOf; rw [decide_eq_false_iff_not, hCmp_lt]; omega
  trans := fun x y z => by unfold ltOf; simp only [decide_eq_true_eq, hCmp_lt]; omega
  ntrans := fun x y z => by unfold ltOf; simp only [decide_eq_false_iff_not, hCmp_lt]; omega
def hSort (hs : List Hold) : List Hold := pdqL hCmp hs
theorem hSort_perm (hs : List Hold) : (hSort hs).Perm hs := pdqL_perm hCmp_swo hs
theorem hSort_len (hs : List Hold) : (hSort hs).length = hs.length := (hSort_perm hs).length_eq
theorem sort_Hold (hs : List Hold) {v : Value} {T n : Nat} {c : List Value} (M : Mem) (hl : hs.length ≤ 100000) (hn : n = hs.length) (hc : c = hs.flatMap encHold) : Ctr Tryz.prog 117 [v, .func (.func 118) #[] #[]] M [.row v T 5 n c]
    (fun r _ L' => r = .tuple #[] ∧ L' = [.row v T 5 n ((hSort hs).flatMap encHold)]) :=
  haveI : TyI Tryz.prog (Tryz.laysSortHold_ren.t 24) true 5 := inferInstanceAs (TyI Tryz.prog 129 true 5)
  ctr_sort (ρ := Tryz.laysSortHold_ren) Tryz.laysSortHold len_hold one_hold hCmp_swo (g := 118) (fun M x y => hold_compare x y M) hs M hl hn hc
end Go.Proofs.YtihgpbpcbbgdiaaGreat
