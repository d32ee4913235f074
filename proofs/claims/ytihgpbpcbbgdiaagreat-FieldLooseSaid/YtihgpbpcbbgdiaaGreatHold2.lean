/- What the functions of package hold that hand holds tell: End, Expire. -/
import Derived.Test.YtihgpbpcbbgdiaaGreatHold
namespace Go.Proofs.YtihgpbpcbbgdiaaGreat
open Go.RowKit
set_option linter.unusedVariables false
set_option linter.unusedSimpArgs false
attribute [local irreducible] hRights hPlace

theorem hold_End (hs : List Hold) (A : Option Addr) (cap : Nat) (hl : hs.length ≤ 100000) (i n s : Int) (M : Mem) (hS : SlR rHold M A cap hs) : Ctr Tryz.prog 73 [.slice A hs.length cap, vi i, vi n, vi s] M [] (fun v M' _ => ∃ A' cap', SlR rHold M' A' cap' (hEnd hs i n s).1 ∧ v = .tuple #[.slice A' (hEnd hs i n s).1.length cap', vi (hEnd hs i n s).2.1, vi (hEnd hs i n s).2.2]) := by
  refine ctr Tryz.func73 rfl Tryz.ntmps73 rfl fun w => ?_
  refine c_seq <| c_region <| ja rfl rfl <| ja rfl rfl <| ja rfl rfl <| j_nil <| p_thn <| c_seq <| c_region <| jm rfl rfl <| jm rfl rfl <| jm rfl rfl <| jcallv rfl rfl rfl (hold_place _ _ _ hl _ _ _ hS) <| ja rfl rfl <| j_nil <| p_thn <| c_seq <| c_block <| c_seq <| c_region <| jm rfl rfl <| jcallv rfl rfl rfl (hold_Rights _ _ _ hl _ hS) <| jnot rfl rfl <| jm rfl rfl <| jgs rfl rfl (fun hb1 => ?_) (fun hb1 => ?_)
  · have phb1 := hb1; try simp at phb1
    refine jg_off rfl rfl rfl hb1 <| jg_off rfl rfl rfl hb1 <| jg_off rfl rfl rfl hb1 <| jg_u rfl rfl rfl <| jg_u rfl rfl rfl <| jg_off rfl rfl rfl hb1 <| jpick_t rfl rfl hb1 rfl <| ja rfl rfl <| j_nil <| p_thn <| c_cond_kt rfl rfl <| c_seq <| c_region <| ja rfl rfl <| ja rfl rfl <| ja rfl rfl <| j_nil <| p_thn <| c_ret <| p_inb_ret <| p_thn_ret <| ?_
    refine p_ret0 rfl rfl (.tmp rfl <| .tmp rfl <| .tmp rfl <| .nil) ?_
    refine ⟨none, 0, ?_⟩
    have e : hEnd hs i n s = ([], 0, 1) := by unfold hEnd; rw [if_neg (by simp [*])]
    rw [e]; exact ⟨SlR.nil, rfl⟩
  · have phb1 := hb1; try simp at phb1
    refine jg rfl rfl hb1 <| jm rfl rfl <| jg rfl rfl hb1 <| jneq rfl rfl rfl <| jg rfl rfl hb1 <| jm rfl rfl <| jgs rfl rfl (fun hb2 => ?_) (fun hb2 => ?_)
    · have phb2 := hb2; try simp at phb2
      refine jg rfl rfl hb2 <| jm rfl rfl <| jg rfl rfl hb2 <| jneq rfl rfl rfl <| jg rfl rfl hb1 <| jpick_t rfl rfl hb2 rfl <| jpick_f rfl rfl hb1 rfl <| ja rfl rfl <| j_nil <| p_thn <| c_cond rfl (fun hb3 => ?_) (fun hb3 => ?_)
      · have phb3 := hb3; try simp at phb3
        refine c_seq <| c_region <| ja rfl rfl <| ja rfl rfl <| ja rfl rfl <| j_nil <| p_thn <| c_ret <| p_inb_ret <| p_thn_ret <| ?_
        refine p_ret0 rfl rfl (.tmp rfl <| .tmp rfl <| .tmp rfl <| .nil) ?_
        refine ⟨none, 0, ?_⟩
        have e : hEnd hs i n s = ([], 0, 1) := by unfold hEnd; rw [if_neg (by simp [*])]
        rw [e]; exact ⟨SlR.nil, rfl⟩
      · have phb3 := hb3; try simp at phb3
        refine c_seq <| c_region <| jm rfl rfl <| jlss rfl rfl rfl <| ja rfl rfl <| j_nil <| p_thn <| c_cond rfl (fun hb4 => ?_) (fun hb4 => ?_)
        · have phb4 := hb4; try simp at phb4
          refine c_seq <| c_region <| ja rfl rfl <| ja rfl rfl <| ja rfl rfl <| j_nil <| p_thn <| c_ret <| p_inb_ret <| p_thn_ret <| ?_
          refine p_ret0 rfl rfl (.tmp rfl <| .tmp rfl <| .tmp rfl <| .nil) ?_
          refine ⟨none, 0, ?_⟩
          have e : hEnd hs i n s = ([], 0, 10) := by unfold hEnd; rw [if_pos (by simp [*]), if_pos phb4]
          rw [e]; exact ⟨SlR.nil, rfl⟩
        · have phb4 := hb4; try simp at phb4
          have hlt : (hPlace hs i n).toNat < hs.length := by unfold hPlace at phb4 ⊢; exact lFind_lt phb4
          refine c_seq <| c_region <| jm rfl rfl <| jm rfl rfl <| ji rfl rfl rfl (by omega) (by omega) (hS.adr (i := (hPlace hs i n).toNat) (by omega)) <| jfe rfl rfl rfl (hS.adr (i := (hPlace hs i n).toNat) (by omega)) <| jle1 (o := 4) rfl hS (ix_get (z := hZ) (i := (hPlace hs i n).toNat) (by omega)) rfl (fun c h => by cases h; rfl) <| jneq rfl rfl rfl <| ja rfl rfl <| j_nil <| p_thn <| c_cond rfl (fun hb5 => ?_) (fun hb5 => ?_)
          · have phb5 := hb5; try simp at phb5
            refine c_seq <| c_region <| ja rfl rfl <| ja rfl rfl <| ja rfl rfl <| j_nil <| p_thn <| c_ret <| p_inb_ret <| p_thn_ret <| ?_
            refine p_ret0 rfl rfl (.tmp rfl <| .tmp rfl <| .tmp rfl <| .nil) ?_
            refine ⟨none, 0, ?_⟩
            have e : hEnd hs i n s = ([], 0, 12) := by unfold hEnd; rw [if_pos (by simp [*]), if_neg (by omega), if_pos phb5]
            rw [e]; exact ⟨SlR.nil, rfl⟩
          · have phb5 := hb5; try simp at phb5
            refine c_skip <| p_inb <| p_thn <| c_seq <| c_region <| jm rfl rfl <| jcallr rfl rfl rfl (ap_0) (clone_Hold _ _ _ hl _ hS) (fun _ => (ap_s <| ap_0)) fun vc => ja rfl rfl <| j_nil <| p_thn <| c_seq <| c_region <| jm rfl rfl <| jm rfl rfl <| jm rfl rfl <| j_open (by first | omega | (simp; omega)) fun Bo1 capo1 rso1 hvo1 hco1 hro1 hlo1 => ?_
            subst hvo1
            refine jis rfl rfl rfl (by omega) (by first | omega | (simp; omega)) <| jfa rfl rfl rfl <| jst 0 rfl rfl rfl rfl rfl rfl (by rw [List.length_append, flatk_len len_hold]; simp; omega) (flatk_put1 (i := (hPlace hs i n).toNat) len_hold (z := hZ) (by first | omega | (simp; omega)) (by decide) uH_state) <| j_nil <| p_thn <| c_seq <| c_draw [3, 5] (by kernel_rfl) <| jd_z (i := 0) rfl rfl (by kernel_rfl) (by kernel_rfl) (by kernel_rfl) (by kernel_rfl) rfl (zm rfl) <| jd_z (i := 1) rfl rfl (by kernel_rfl) (by kernel_rfl) (by kernel_rfl) (by kernel_rfl) rfl (zm rfl) <| jd_z (i := 2) rfl rfl (by kernel_rfl) (by kernel_rfl) (by kernel_rfl) (by kernel_rfl) rfl (zm rfl) <| jd_first (i := 3) rfl rfl (by kernel_rfl) (by kernel_rfl) (by kernel_rfl) (by kernel_rfl) (by kernel_rfl) rfl (fun _ h => h) (yis rfl rfl (by omega) (by first | omega | (simp; omega))) <| jd_z (i := 4) rfl rfl (by kernel_rfl) (by kernel_rfl) (by kernel_rfl) (by kernel_rfl) rfl (zfa rfl rfl) <| jd_first (i := 5) rfl rfl (by kernel_rfl) (by kernel_rfl) (by kernel_rfl) (by kernel_rfl) (by kernel_rfl) rfl (fun _ h => h) (yld1 0 rfl rfl (flatk_get (i := (hPlace hs i n).toNat) len_hold (z := hZ) (by first | omega | (simp; omega)) rfl)) <| jd_z (i := 6) rfl rfl (by kernel_rfl) (by kernel_rfl) (by kernel_rfl) (by kernel_rfl) rfl (za rfl) <| jd_z (i := 7) rfl rfl (by kernel_rfl) (by kernel_rfl) (by kernel_rfl) (by kernel_rfl) rfl (za rfl) <| jd_z (i := 8) rfl rfl (by kernel_rfl) (by kernel_rfl) (by kernel_rfl) (by kernel_rfl) rfl (za rfl) <| jd_done (by kernel_rfl) <| p_thn <| c_ret <| ?_
            refine jp_shut (by first | omega | (simp; omega)) hco1 hro1 (by first | exact hlo1 | (rw [flatk_len len_hold]; simp <;> omega)) <| jp_freeze fun M1z hM1z hz1 => ?_
            have hS1z := frzS (r := rHold) (xs := hs.set (hPlace hs i n).toNat { ix hZ hs (hPlace hs i n).toNat with state := s }) hz1 (Rows.flat (fun _ => rfl) _) (by simp)
            refine p_ret0 rfl rfl (.tmp rfl <| .tmp rfl <| .tmp rfl <| .nil) ?_
            have e : hEnd hs i n s = (hs.set (hPlace hs i n).toNat { ix hZ hs (hPlace hs i n).toNat with state := s }, (ix hZ hs (hPlace hs i n).toNat).amount, 0) := by unfold hEnd; rw [if_pos (by simp [*]), if_neg (by omega), if_neg (by simp [*])]
            rw [e]
            exact ⟨_, _, hS1z, by rw [set_amount hlt hlt]; simp; rfl⟩
    · have phb2 := hb2; try simp at phb2
      refine jg_off rfl rfl rfl hb2 <| jg_off rfl rfl rfl hb2 <| jg rfl rfl hb1 <| jpick_f rfl rfl hb2 rfl <| jpick_f rfl rfl hb1 rfl <| ja rfl rfl <| j_nil <| p_thn <| c_cond_kf rfl rfl <| c_seq <| c_region <| jm rfl rfl <| jlss rfl rfl rfl <| ja rfl rfl <| j_nil <| p_thn <| c_cond rfl (fun hb8 => ?_) (fun hb8 => ?_)
      · have phb8 := hb8; try simp at phb8
        refine c_seq <| c_region <| ja rfl rfl <| ja rfl rfl <| ja rfl rfl <| j_nil <| p_thn <| c_ret <| p_inb_ret <| p_thn_ret <| ?_
        refine p_ret0 rfl rfl (.tmp rfl <| .tmp rfl <| .tmp rfl <| .nil) ?_
        refine ⟨none, 0, ?_⟩
        have e : hEnd hs i n s = ([], 0, 10) := by unfold hEnd; rw [if_pos (by simp [*]), if_pos phb8]
        rw [e]; exact ⟨SlR.nil, rfl⟩
      · have phb8 := hb8; try simp at phb8
        have hlt : (hPlace hs i n).toNat < hs.length := by unfold hPlace at phb8 ⊢; exact lFind_lt phb8
        refine c_seq <| c_region <| jm rfl rfl <| jm rfl rfl <| ji rfl rfl rfl (by omega) (by omega) (hS.adr (i := (hPlace hs i n).toNat) (by omega)) <| jfe rfl rfl rfl (hS.adr (i := (hPlace hs i n).toNat) (by omega)) <| jle1 (o := 4) rfl hS (ix_get (z := hZ) (i := (hPlace hs i n).toNat) (by omega)) rfl (fun c h => by cases h; rfl) <| jneq rfl rfl rfl <| ja rfl rfl <| j_nil <| p_thn <| c_cond rfl (fun hb9 => ?_) (fun hb9 => ?_)
        · have phb9 := hb9; try simp at phb9
          refine c_seq <| c_region <| ja rfl rfl <| ja rfl rfl <| ja rfl rfl <| j_nil <| p_thn <| c_ret <| p_inb_ret <| p_thn_ret <| ?_
          refine p_ret0 rfl rfl (.tmp rfl <| .tmp rfl <| .tmp rfl <| .nil) ?_
          refine ⟨none, 0, ?_⟩
          have e : hEnd hs i n s = ([], 0, 12) := by unfold hEnd; rw [if_pos (by simp [*]), if_neg (by omega), if_pos phb9]
          rw [e]; exact ⟨SlR.nil, rfl⟩
        · have phb9 := hb9; try simp at phb9
          refine c_skip <| p_inb <| p_thn <| c_seq <| c_region <| jm rfl rfl <| jcallr rfl rfl rfl (ap_0) (clone_Hold _ _ _ hl _ hS) (fun _ => (ap_s <| ap_0)) fun vc => ja rfl rfl <| j_nil <| p_thn <| c_seq <| c_region <| jm rfl rfl <| jm rfl rfl <| jm rfl rfl <| j_open (by first | omega | (simp; omega)) fun Bo2 capo2 rso2 hvo2 hco2 hro2 hlo2 => ?_
          subst hvo2
          refine jis rfl rfl rfl (by omega) (by first | omega | (simp; omega)) <| jfa rfl rfl rfl <| jst 0 rfl rfl rfl rfl rfl rfl (by rw [List.length_append, flatk_len len_hold]; simp; omega) (flatk_put1 (i := (hPlace hs i n).toNat) len_hold (z := hZ) (by first | omega | (simp; omega)) (by decide) uH_state) <| j_nil <| p_thn <| c_seq <| c_draw [3, 5] (by kernel_rfl) <| jd_z (i := 0) rfl rfl (by kernel_rfl) (by kernel_rfl) (by kernel_rfl) (by kernel_rfl) rfl (zm rfl) <| jd_z (i := 1) rfl rfl (by kernel_rfl) (by kernel_rfl) (by kernel_rfl) (by kernel_rfl) rfl (zm rfl) <| jd_z (i := 2) rfl rfl (by kernel_rfl) (by kernel_rfl) (by kernel_rfl) (by kernel_rfl) rfl (zm rfl) <| jd_first (i := 3) rfl rfl (by kernel_rfl) (by kernel_rfl) (by kernel_rfl) (by kernel_rfl) (by kernel_rfl) rfl (fun _ h => h) (yis rfl rfl (by omega) (by first | omega | (simp; omega))) <| jd_z (i := 4) rfl rfl (by kernel_rfl) (by kernel_rfl) (by kernel_rfl) (by kernel_rfl) rfl (zfa rfl rfl) <| jd_first (i := 5) rfl rfl (by kernel_rfl) (by kernel_rfl) (by kernel_rfl) (by kernel_rfl) (by kernel_rfl) rfl (fun _ h => h) (yld1 0 rfl rfl (flatk_get (i := (hPlace hs i n).toNat) len_hold (z := hZ) (by first | omega | (simp; omega)) rfl)) <| jd_z (i := 6) rfl rfl (by kernel_rfl) (by kernel_rfl) (by kernel_rfl) (by kernel_rfl) rfl (za rfl) <| jd_z (i := 7) rfl rfl (by kernel_rfl) (by kernel_rfl) (by kernel_rfl) (by kernel_rfl) rfl (za rfl) <| jd_z (i := 8) rfl rfl (by kernel_rfl) (by kernel_rfl) (by kernel_rfl) (by kernel_rfl) rfl (za rfl) <| jd_done (by kernel_rfl) <| p_thn <| c_ret <| ?_
          refine jp_shut (by first | omega | (simp; omega)) hco2 hro2 (by first | exact hlo2 | (rw [flatk_len len_hold]; simp <;> omega)) <| jp_freeze fun M2z hM2z hz2 => ?_
          have hS2z := frzS (r := rHold) (xs := hs.set (hPlace hs i n).toNat { ix hZ hs (hPlace hs i n).toNat with state := s }) hz2 (Rows.flat (fun _ => rfl) _) (by simp)
          refine p_ret0 rfl rfl (.tmp rfl <| .tmp rfl <| .tmp rfl <| .nil) ?_
          have e : hEnd hs i n s = (hs.set (hPlace hs i n).toNat { ix hZ hs (hPlace hs i n).toNat with state := s }, (ix hZ hs (hPlace hs i n).toNat).amount, 0) := by unfold hEnd; rw [if_pos (by simp [*]), if_neg (by omega), if_neg (by simp [*])]
          rw [e]
          exact ⟨_, _, hS2z, by rw [set_amount hlt hlt]; simp; rfl⟩
theorem hold_Expire (hs : List Hold) (A : Option Addr) (cap : Nat) (hl : hs.length ≤ 100000) (i d : Int) (M : Mem) (hS : SlR rHold M A cap hs) : Ctr Tryz.prog 109 [.slice A hs.length cap, vi i, vi d] M [] (fun v M' _ => ∃ A' cap', SlR rHold M' A' cap' (hExpire hs i d).1 ∧ v = .tuple #[.slice A' (hExpire hs i d).1.length cap', vi (hExpire hs i d).2]) := by
  refine ctr Tryz.func109 rfl Tryz.ntmps109 rfl fun w => ?_
  refine c_seq <| c_region <| ja rfl rfl <| ja rfl rfl <| j_nil <| p_thn <| c_seq <| c_region <| jm rfl rfl <| jcallr rfl rfl rfl (ap_0) (clone_Hold _ _ _ hl _ hS) (fun _ => (ap_s <| ap_0)) fun vc => ja rfl rfl <| ja rfl rfl <| j_nil <| p_thn <| c_seq <| c_seq <| c_region <| jm rfl rfl <| jcallv rfl rfl rfl (hold_Rights _ _ _ hl _ hS) <| jnot rfl rfl <| j_nil <| p_thn <| c_cond rfl (fun hb3 => ?_) (fun hb3 => ?_)
  · have phb3 := hb3; try simp at phb3
    refine c_seq <| c_region <| jm rfl rfl <| ja rfl rfl <| ja rfl rfl <| j_nil <| p_thn <| c_ret <| p_thn_ret <| ?_
    refine jp_freeze fun M1z hM1z hz1 => ?_
    obtain ⟨A1z, cap1z, rfl, hS1z⟩ := frz (r := rHold) (xs := hs) hz1 (Rows.flat (fun _ => rfl) _) rfl
    refine p_ret0 rfl rfl (.tmp rfl <| .tmp rfl <| .nil) ?_
    have e : hExpire hs i d = (hs, 0) := by unfold hExpire; rw [if_neg (by simp [*])]
    rw [e]; exact ⟨_, _, hS1z, rfl⟩
  · have phb3 := hb3; try simp at phb3
    refine c_skip <| p_thn <| c_seq <| c_seq <| c_region <| jm rfl rfl <| jrlen 0 rfl rfl rfl <| jm rfl rfl <| j_nil <| p_thn <| c_block <| c_lpL (X := Nat) (fun k => k ≤ hs.length) (fun k => hs.length - k) (fun k => [(20, vi (k : Int)), (9, vi (((hs.take k).filter (hDue i d)).length))]) [19, 18, 8, 7, 6, 2, 1] (fun k => [.row vc 129 5 hs.length (((hs.take k).map (hExp i d) ++ hs.drop k).flatMap encHold)]) 0 ?_ (sub_c rfl <| sub_c rfl <| sub_c rfl <| sub_c rfl <| sub_c rfl <| sub_c rfl <| sub_c rfl <| sub_c rfl <| sub_c rfl <| sub_n) (by simp) ?_
    · exact Nat.zero_le _
    · intro k hI
      have hfl : ((hs.take k).filter (hDue i d)).length ≤ hs.length := Nat.le_trans (List.length_filter_le _ _) (by simp; omega)
      refine c_seq <| c_region <| jlss rfl rfl rfl <| j_nil <| p_thn <| c_seq <| c_cond rfl (fun hb4 => ?_) (fun hb4 => ?_)
      · have phb4 := hb4; try simp at phb4
        refine c_skip <| p_thn <| c_seq <| c_block <| c_seq <| c_region <| jm rfl rfl <| j_open (by first | omega | (simp; omega)) fun Bo1 capo1 rso1 hvo1 hco1 hro1 hlo1 => ?_
        subst hvo1
        refine jis rfl rfl rfl (by omega) (by first | omega | (simp; omega)) <| jld 0 rfl rfl rfl (flatk_getw (i := k) len_hold (z := hZ) (by first | omega | (simp; omega))) (len_hold _) <| ?_
        rw [exp_at (by omega)]
        refine jalloc rfl fun B5 => ja rfl rfl <| jstw 0 rfl rfl rfl rfl (len_hold _) (one_hold _) (len_hold _) <| j_nil <| p_thn <| c_seq <| c_region <| jfa rfl rfl rfl <| jld1 0 rfl rfl rfl rfl <| jm rfl rfl <| jeql rfl rfl rfl <| jm rfl rfl <| jgs rfl rfl (fun hb6 => ?_) (fun hb6 => ?_)
        · have phb6 := hb6; try simp at phb6
          refine jg rfl rfl hb6 <| jfa rfl rfl rfl <| jg rfl rfl hb6 <| jld1 0 rfl rfl rfl rfl <| jg rfl rfl hb6 <| jeql rfl rfl rfl <| jpick_t rfl rfl hb6 rfl <| jm rfl rfl <| jgs rfl rfl (fun hb7 => ?_) (fun hb7 => ?_)
          · have phb7 := hb7; try simp at phb7
            refine jg rfl rfl hb7 <| jfa rfl rfl rfl <| jg rfl rfl hb7 <| jld1 0 rfl rfl rfl rfl <| jg rfl rfl hb7 <| jm rfl rfl <| jg rfl rfl hb7 <| jlss rfl rfl rfl <| jpick_t rfl rfl hb7 rfl <| j_nil <| p_thn <| c_cond rfl (fun hb8 => ?_) (fun hb8 => ?_)
            · have phb8 := hb8; try simp at phb8
              refine c_seq <| c_region <| jm rfl rfl <| jm rfl rfl <| jis rfl rfl rfl (by omega) (by first | omega | (simp; omega)) <| jfa rfl rfl rfl <| jst 1 rfl rfl rfl rfl rfl rfl (by rw [List.length_append, flatk_len len_hold]; simp; omega) (flatk_put1 (i := k) len_hold (z := hZ) (by first | omega | (simp; omega)) (by decide) uH_state) <| j_nil <| p_thn <| c_region <| jm rfl rfl <| jadd rfl rfl rfl (by first | exact wr (by omega) (by omega) | rfl) <| ja rfl rfl <| j_nil <| p_inb <| p_thn <| c_region <| jadd rfl rfl rfl (by first | exact wr (by omega) (by omega) | rfl) <| jm rfl rfl <| j_nil <| jp_perm (fr_s <| fr_0) <| jp_shut (by first | omega | (simp; omega)) hco1 hro1 (by first | exact hlo1 | (rw [flatk_len len_hold]; simp <;> omega)) <| jp_tk (ap_s <| ap_0) <| ?_
              refine p_lp (k + 1) ?_ ?_ (sub_c rfl <| sub_c (sub_v rfl (by rw [due_succ (by omega)]; simp [hDue, *])) <| sub_c rfl <| sub_c rfl <| sub_c rfl <| sub_c rfl <| sub_c rfl <| sub_c rfl <| sub_c rfl <| sub_n) rfl (by first | rw [exp_succ (by omega) (by simp [hDue, *])] | rw [← exp_same (by omega) (by simp [hDue, *])])
              · omega
              · omega
            · have phb8 := hb8; try simp at phb8
              refine c_skip <| p_inb <| p_thn <| c_region <| jadd rfl rfl rfl (by first | exact wr (by omega) (by omega) | rfl) <| jm rfl rfl <| j_nil <| jp_perm (fr_s <| fr_0) <| jp_shut (by first | omega | (simp; omega)) hco1 hro1 (by first | exact hlo1 | (rw [flatk_len len_hold]; simp <;> omega)) <| jp_tk (ap_s <| ap_0) <| ?_
              refine p_lp (k + 1) ?_ ?_ (sub_c rfl <| sub_c (sub_v rfl (by rw [due_succ (by omega)]; simp [hDue, *])) <| sub_c rfl <| sub_c rfl <| sub_c rfl <| sub_c rfl <| sub_c rfl <| sub_c rfl <| sub_c rfl <| sub_n) rfl (by first | rw [exp_succ (by omega) (by simp [hDue, *])] | rw [← exp_same (by omega) (by simp [hDue, *])])
              · omega
              · omega
          · have phb7 := hb7; try simp at phb7
            refine jg_off rfl rfl rfl hb7 <| jg_off rfl rfl rfl hb7 <| jg_off rfl rfl rfl hb7 <| jg_off rfl rfl rfl hb7 <| jpick_f rfl rfl hb7 rfl <| j_nil <| p_thn <| c_cond_kf rfl rfl <| c_skip <| p_inb <| p_thn <| c_region <| jadd rfl rfl rfl (by first | exact wr (by omega) (by omega) | rfl) <| jm rfl rfl <| j_nil <| jp_perm (fr_s <| fr_0) <| jp_shut (by first | omega | (simp; omega)) hco1 hro1 (by first | exact hlo1 | (rw [flatk_len len_hold]; simp <;> omega)) <| jp_tk (ap_s <| ap_0) <| ?_
            refine p_lp (k + 1) ?_ ?_ (sub_c rfl <| sub_c (sub_v rfl (by rw [due_succ (by omega)]; simp [hDue, *])) <| sub_c rfl <| sub_c rfl <| sub_c rfl <| sub_c rfl <| sub_c rfl <| sub_c rfl <| sub_c rfl <| sub_n) rfl (by first | rw [exp_succ (by omega) (by simp [hDue, *])] | rw [← exp_same (by omega) (by simp [hDue, *])])
            · omega
            · omega
        · have phb6 := hb6; try simp at phb6
          refine jg_off rfl rfl rfl hb6 <| jg_off rfl rfl rfl hb6 <| jg_off rfl rfl rfl hb6 <| jpick_f rfl rfl hb6 rfl <| jm rfl rfl <| jg_off rfl rfl rfl rfl <| jg_off rfl rfl rfl rfl <| jg_off rfl rfl rfl rfl <| jg_off rfl rfl rfl rfl <| jpick_f rfl rfl rfl rfl <| j_nil <| p_thn <| c_cond_kf rfl rfl <| c_skip <| p_inb <| p_thn <| c_region <| jadd rfl rfl rfl (by first | exact wr (by omega) (by omega) | rfl) <| jm rfl rfl <| j_nil <| jp_perm (fr_s <| fr_0) <| jp_shut (by first | omega | (simp; omega)) hco1 hro1 (by first | exact hlo1 | (rw [flatk_len len_hold]; simp <;> omega)) <| jp_tk (ap_s <| ap_0) <| ?_
          refine p_lp (k + 1) ?_ ?_ (sub_c rfl <| sub_c (sub_v rfl (by rw [due_succ (by omega)]; simp [hDue, *])) <| sub_c rfl <| sub_c rfl <| sub_c rfl <| sub_c rfl <| sub_c rfl <| sub_c rfl <| sub_c rfl <| sub_n) rfl (by first | rw [exp_succ (by omega) (by simp [hDue, *])] | rw [← exp_same (by omega) (by simp [hDue, *])])
          · omega
          · omega
      · have phb4 := hb4; try simp at phb4
        refine c_exit <| p_thn_exit <| p_lp_exit <| p_inb_exit <| p_thn <| c_seq <| c_region <| jm rfl rfl <| jm rfl rfl <| ja rfl rfl <| ja rfl rfl <| j_nil <| p_thn <| c_ret <| ?_
        refine jp_freeze fun M2z hM2z hz2 => ?_
        obtain ⟨A2z, cap2z, rfl, hS2z⟩ := frz (r := rHold) (xs := hs.map (hExp i d)) hz2 (by rw [List.take_of_length_le (by omega), List.drop_of_length_le (by omega), List.append_nil]; exact Rows.flat (fun _ => rfl) _) (by simp)
        refine p_ret0 rfl rfl (.tmp rfl <| .tmp rfl <| .nil) ?_
        have e : hExpire hs i d = (hs.map (hExp i d), ((hs.filter (hDue i d)).length : Int)) := by unfold hExpire; rw [if_pos phb3]
        obtain rfl : k = hs.length := by omega
        rw [e]; exact ⟨_, _, hS2z, by rw [List.take_length]; rfl⟩
end Go.Proofs.YtihgpbpcbbgdiaaGreat
