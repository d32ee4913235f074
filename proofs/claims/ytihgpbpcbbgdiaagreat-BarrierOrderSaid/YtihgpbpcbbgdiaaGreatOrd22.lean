/- Several texts in one. -/
import Derived.Test.YtihgpbpcbbgdiaaGreatOrd21
/- A step of one of sixteen replicas (usufructlaw07.Step). -/
namespace Go.Proofs.YtihgpbpcbbgdiaaGreat
open Go.RowKit
set_option linter.unusedVariables false
set_option linter.unusedSimpArgs false
attribute [local irreducible] hRights hNum hSort hReserve hEnd hExpire hJoin hSum lJoin fLacks fDone fAdd fHand fReserve fEnd fExpire fLocked fJoin
/-- a field, and where its holds lie -/
structure FS where
  f : Field
  A : Option Addr
  cap : Nat
abbrev encS (s : FS) : List Value := encF s.f s.A s.cap
theorem len_S (s : FS) : (encS s).length = 587 := len_F _ _ _
theorem one_S (s : FS) : (encS s).all Value.oneCell' = true := one_F _ _ _
def sZ : FS := ⟨fZ, none, 0⟩
def FSok (M : Mem) (s : FS) : Prop := SlR rHold M s.A s.cap s.f.holds ∧ s.f.holds.length ≤ 16
def FSs (M : Mem) (xs : List FS) : Prop := xs.length = 16 ∧ ∀ s ∈ xs, FSok M s
theorem FSok.mono {M M' : Mem} {s : FS} (hm : MLe M M') (h : FSok M s) : FSok M' s := ⟨h.1.mono hm, h.2⟩
theorem FSs.mono {M M' : Mem} {xs : List FS} (hm : MLe M M') (h : FSs M xs) : FSs M' xs := ⟨h.1, fun s hs => (h.2 s hs).mono hm⟩
theorem FSs.set {M : Mem} {xs : List FS} {j : Nat} {s : FS} (h : FSs M xs) (hs : FSok M s) : FSs M (xs.set j s) :=
  ⟨by rw [List.length_set]; exact h.1, fun t ht => (List.mem_or_eq_of_mem_set ht).elim (h.2 t) (fun e => e ▸ hs)⟩
theorem FSs.at {M : Mem} {xs : List FS} {j : Nat} (h : FSs M xs) (hj : j < 16) : FSok M (ix sZ xs j) := h.2 _ (by rw [ix_eq (by rw [h.1]; exact hj)]; exact List.getElem_mem _)
theorem ix_map {α β : Type} {g : α → β} {z : α} {z' : β} {xs : List α} {j : Nat} (h : j < xs.length) : ix z' (xs.map g) j = g (ix z xs j) := by
  rw [ix_eq (by simpa using h), ix_eq h, List.getElem_map]
section
variable {xs : List FS} {i : Int} {f : Field} {A : Option Addr} {cap : Nat}
theorem gS (hl : xs.length = 16) (h0 : 0 ≤ i) (h1 : i < 16) : ((xs.flatMap encS).drop (0 + i.toNat * 587)).take 587 = encF (ix sZ xs i.toNat).f (ix sZ xs i.toNat).A (ix sZ xs i.toNat).cap := by
  have := flatk_getw (f := encS) len_S (xs := xs) (rs := []) (i := i.toNat) (z := sZ) (by omega)
  rw [List.append_nil] at this; exact this
theorem uS (hl : xs.length = 16) (h0 : 0 ≤ i) (h1 : i < 16) : (xs.flatMap encS).take (0 + i.toNat * 587) ++ encF f A cap ++ (xs.flatMap encS).drop (0 + i.toNat * 587 + 587) = (xs.set i.toNat ⟨f, A, cap⟩).flatMap encS := by
  rw [Nat.zero_add]
  exact flatk_put (f := encS) len_S (x := ⟨f, A, cap⟩) xs (by omega)
end
/-- what a step of verb v makes of the replica's own field; the error -/
def fDo (fs : List Field) (v i k n m : Int) (f : Field) : Field × Int :=
  if v = 0 then fAdd f i n else if v = 1 then fHand f i k n m else if v = 2 then ((fReserve f i n m).1, (fReserve f i n m).2.2) else if v = 3 then fEnd f i n m
  else if v = 4 then ((fExpire f i m).1, 0) else if v = 5 then fLocked f (fun l => lWrite l i n) else if v = 6 then fLocked f (fun l => lPass l i k)
  else if v = 7 then (if 0 ≤ k ∧ k ≤ 15 then fJoin f (ix fZ fs k.toNat) else (f, 1)) else (f, 1)
def stepF (fs : List Field) (v i k n m : Int) : List Field :=
  if i < 0 ∨ 15 < i then fs else if (fDo fs v i k n m (ix fZ fs i.toNat)).2 = 0 then fs.set i.toNat (fDo fs v i k n m (ix fZ fs i.toNat)).1 else fs
section
attribute [local semireducible] fDone fAdd fHand fReserve fEnd fExpire fLocked fJoin fLacks
theorem fDone_len (f : Field) (e : Int) : (fDone f e).1.holds.length ≤ f.holds.length := by unfold fDone; split <;> simp [fZ]
theorem fAdd_len (f : Field) (i n : Int) : (fAdd f i n).1.holds.length ≤ f.holds.length := by
  unfold fAdd fChanged; repeat' split
  all_goals first | simp [fZ]; done | exact fDone_len _ _
theorem fHand_len (f : Field) (i k n m : Int) : (fHand f i k n m).1.holds.length ≤ f.holds.length := by
  unfold fHand fChanged; repeat' split
  all_goals first | simp [fZ]; done | exact fDone_len _ _
theorem fLocked_len (f : Field) (p : Lock → Lock × Int) : (fLocked f p).1.holds.length ≤ f.holds.length := by
  unfold fLocked; split
  · simp [fZ]
  · exact fDone_len _ _
theorem fExpire_len (f : Field) (i d : Int) : (fExpire f i d).1.holds.length ≤ f.holds.length := by
  unfold fExpire; split
  · exact Nat.le_of_eq (hExpire_len _ _ _)
  · exact Nat.le_refl _
theorem fEnd_len (f : Field) (i n s : Int) : (fEnd f i n s).1.holds.length ≤ f.holds.length := by
  unfold fEnd; repeat' split
  · simp [fZ]
  · exact Nat.le_trans (fDone_len _ _) (hEnd_len _ _ _ _)
  · exact Nat.le_trans (fDone_len _ _) (hEnd_len _ _ _ _)
theorem fReserve_len (f : Field) (i n d : Int) : (fReserve f i n d).1.holds.length ≤ 16 := by
  unfold fReserve; repeat' split
  · simp [fZ]
  · simp [fZ]
  · show (hReserve f.holds i n d).1.length ≤ 16
    unfold hReserve
    split
    · rename_i h; split
      · simp
      · rename_i h2
        rw [hSort_len]
        have : hRights f.holds = true := by simp at h; exact h.1
        unfold hRights at this
        simp at this
        simp; omega
    · simp
theorem fJoin_len (f g : Field) : (fJoin f g).1.holds.length ≤ 16 := by
  unfold fJoin; repeat' split
  · simp [fZ]
  · simp [fZ]
  · simp [fZ]
  · exact hJoin_len _ _
end
theorem map_set_f {xs : List FS} {j : Nat} {s : FS} : (xs.set j s).map FS.f = (xs.map FS.f).set j s.f := by rw [List.map_set]
theorem step_same {xs : List FS} {v i k n m : Int} (h0 : 0 ≤ i) (h1 : i ≤ 15) (hl : xs.length = 16) (h : (fDo (xs.map FS.f) v i k n m (ix sZ xs i.toNat).f).2 ≠ 0) : xs.map FS.f = stepF (xs.map FS.f) v i k n m := by
  unfold stepF
  rw [if_neg (by omega), ix_map (z := sZ) (by omega), if_neg h]
theorem step_put {xs : List FS} {v i k n m : Int} {s : FS} (h0 : 0 ≤ i) (h1 : i ≤ 15) (hl : xs.length = 16) (h : (fDo (xs.map FS.f) v i k n m (ix sZ xs i.toNat).f).2 = 0) (hf : s.f = (fDo (xs.map FS.f) v i k n m (ix sZ xs i.toNat).f).1) :
    (xs.set i.toNat s).map FS.f = stepF (xs.map FS.f) v i k n m := by
  unfold stepF
  rw [if_neg (by omega), ix_map (z := sZ) (by omega), if_pos h, map_set_f, hf]

theorem law7_Step (xs : List FS) (v i k n m : Int) {X : Nat} (M : Mem) (hx : FSs M xs) : Ctr Tryz.prog 24 [.pointer (some ⟨X, 0, none⟩), .agg [vi v, vi i, vi k, vi n, vi m].toArray] M [.blk X 70 (xs.flatMap encS)] (fun r M' L' => ∃ ys, ys.map FS.f = stepF (xs.map FS.f) v i k n m ∧ FSs M' ys ∧ L' = [.blk X 70 (ys.flatMap encS)]) := by
  refine ctr Tryz.func24 rfl Tryz.ntmps24 rfl fun w => ?_
  refine c_seq <| c_region <| jbox rfl rfl rfl fun B1 => ja rfl rfl <| j_nil <| p_thn <| c_seq <| c_seq <| c_region <| jfa rfl rfl rfl <| jld1 0 rfl rfl rfl rfl <| jlss rfl rfl rfl <| jm rfl rfl <| jgs rfl rfl (fun hb2 => ?_) (fun hb2 => ?_)
  · have phb2 := hb2; try simp at phb2
    refine jg_off rfl rfl rfl hb2 <| jg_off rfl rfl rfl hb2 <| jg_off rfl rfl rfl hb2 <| jpick_t rfl rfl hb2 rfl <| j_nil <| p_thn <| c_cond_kt rfl rfl <| c_seq <| c_region <| ja rfl rfl <| j_nil <| p_thn <| c_ret <| p_thn_ret <| ?_
    refine jp_perm (fr_s <| fr_0) <| ?_
    refine p_retK (ap_s <| ap_0) rfl rfl (.tmp rfl <| .nil) ?_
    refine ⟨xs, ?_, hx, rfl⟩
    unfold stepF; rw [if_pos (by omega)]
  · have phb2 := hb2; try simp at phb2
    refine jg rfl rfl hb2 <| jfa rfl rfl rfl <| jg rfl rfl hb2 <| jld1 0 rfl rfl rfl rfl <| jg rfl rfl hb2 <| jgtr rfl rfl rfl <| jpick_f rfl rfl hb2 rfl <| j_nil <| p_thn <| c_cond rfl (fun hb3 => ?_) (fun hb3 => ?_)
    · have phb3 := hb3; try simp at phb3
      refine c_seq <| c_region <| ja rfl rfl <| j_nil <| p_thn <| c_ret <| p_thn_ret <| ?_
      refine jp_perm (fr_s <| fr_0) <| ?_
      refine p_retK (ap_s <| ap_0) rfl rfl (.tmp rfl <| .nil) ?_
      refine ⟨xs, ?_, hx, rfl⟩
      unfold stepF; rw [if_pos (by omega)]
    · have phb3 := hb3; try simp at phb3
      have hS0 := hx.at (j := i.toNat) (by omega)
      refine c_skip <| p_thn <| c_seq <| c_draw [2, 5] (by kernel_rfl) <| jd_z (i := 0) rfl rfl (by kernel_rfl) (by kernel_rfl) (by kernel_rfl) (by kernel_rfl) rfl (zm rfl) <| jd_z (i := 1) rfl rfl (by kernel_rfl) (by kernel_rfl) (by kernel_rfl) (by kernel_rfl) rfl (zfa rfl rfl) <| jd_first (i := 2) rfl rfl (by kernel_rfl) (by kernel_rfl) (by kernel_rfl) (by kernel_rfl) (by kernel_rfl) rfl (fun _ h => h) (yld1 0 rfl rfl rfl) <| jd_z (i := 3) rfl rfl (by kernel_rfl) (by kernel_rfl) (by kernel_rfl) (by kernel_rfl) rfl (znil rfl) <| jd_z (i := 4) rfl rfl (by kernel_rfl) (by kernel_rfl) (by kernel_rfl) (by kernel_rfl) rfl (zia rfl rfl (by omega) (by omega)) <| jd_first (i := 5) rfl rfl (by kernel_rfl) (by kernel_rfl) (by kernel_rfl) (by kernel_rfl) (by kernel_rfl) rfl (fun _ h => h) (yld 1 rfl rfl (gS (by exact hx.1) (by omega) (by omega)) (len_F _ _ _)) <| jd_one (i := 6) (by kernel_rfl) rfl <| jalloc rfl fun B4 => j_nil <| p_jd rfl (.inr (fun _ h => (h.drop (L := [_])))) <| jd_one (i := 7) (by kernel_rfl) rfl <| jstw 0 rfl rfl rfl rfl (len_F _ _ _) (one_F _ _ _) (len_F _ _ _) <| j_nil <| p_jd rfl (.inl (by kernel_rfl)) <| jd_z (i := 8) rfl rfl (by kernel_rfl) (by kernel_rfl) (by kernel_rfl) (by kernel_rfl) rfl (za rfl) <| jd_done (by kernel_rfl) <| p_thn <| c_seq <| c_seq <| c_region <| jfa rfl rfl rfl <| jld1 1 rfl rfl rfl rfl <| j_nil <| p_thn <| c_block <| c_seq <| c_region <| jeql rfl rfl rfl <| ja rfl rfl <| j_nil <| p_thn <| c_cond rfl (fun hb5 => ?_) (fun hb5 => ?_)
      · have phb5 := hb5; try simp at phb5
        refine c_region <| jldw 0 rfl rfl rfl (len_F _ _ _) <| jfa rfl rfl rfl <| jld1 1 rfl rfl rfl rfl <| jfa rfl rfl rfl <| jld1 1 rfl rfl rfl rfl <| jcalls rfl rfl rfl (field_Add _ _ _ (Nat.le_trans hS0.2 (by decide)) _ _ _ hS0.1) fun A1c cap1c M1c hM1c hS1c => jm rfl rfl <| jext rfl rfl rfl <| jext rfl rfl rfl <| jstw 0 rfl rfl rfl rfl (len_F _ _ _) (one_F _ _ _) (len_F _ _ _) <| ja rfl rfl <| j_nil <| p_inb <| p_thn <| c_seq <| c_seq <| c_region <| jm rfl rfl <| jeql rfl rfl rfl <| j_nil <| p_thn <| c_cond rfl (fun hb6 => ?_) (fun hb6 => ?_)
        · have phb6 := hb6; try simp at phb6
          refine c_draw [2, 3] (by kernel_rfl) <| jd_z (i := 0) rfl rfl (by kernel_rfl) (by kernel_rfl) (by kernel_rfl) (by kernel_rfl) rfl (zm rfl) <| jd_z (i := 1) rfl rfl (by kernel_rfl) (by kernel_rfl) (by kernel_rfl) (by kernel_rfl) rfl (zfa rfl rfl) <| jd_first (i := 2) rfl rfl (by kernel_rfl) (by kernel_rfl) (by kernel_rfl) (by kernel_rfl) (by kernel_rfl) rfl (fun _ h => h) (yld1 1 rfl rfl rfl) <| jd_first (i := 3) rfl rfl (by kernel_rfl) (by kernel_rfl) (by kernel_rfl) (by kernel_rfl) (by kernel_rfl) rfl (fun _ h => h) (yldw 0 rfl rfl (len_F _ _ _)) <| jd_z (i := 4) rfl rfl (by kernel_rfl) (by kernel_rfl) (by kernel_rfl) (by kernel_rfl) rfl (znil rfl) <| jd_z (i := 5) rfl rfl (by kernel_rfl) (by kernel_rfl) (by kernel_rfl) (by kernel_rfl) rfl (zia rfl rfl (by omega) (by omega)) <| jd_one (i := 6) (by kernel_rfl) rfl <| jst 2 rfl rfl rfl rfl (len_F _ _ _) (one_F _ _ _) (by rw [flatk_len len_S, hx.1]; omega) (uS (by exact hx.1) (by omega) (by omega)) <| j_nil <| p_jd rfl (.inl (by kernel_rfl)) <| jd_done (by kernel_rfl) <| p_thn <| c_seq <| c_region <| jm rfl rfl <| ja rfl rfl <| j_nil <| p_thn <| c_ret <| ?_
          refine jp_perm (fr_s <| fr_s <| fr_0) <| ?_
          refine p_retK (ap_s <| ap_0) rfl rfl (.tmp rfl <| .nil) ?_
          have e0 : fDo (xs.map FS.f) v i k n m (ix sZ xs i.toNat).f = fAdd (ix sZ xs i.toNat).f i n := by unfold fDo; rw [if_pos (by omega)]
          exact ⟨xs.set i.toNat ⟨(fAdd (ix sZ xs i.toNat).f i n).1, A1c, cap1c⟩, step_put (by omega) (by omega) hx.1 (by rw [e0]; assumption) (by rw [e0]), (hx.mono hM1c).set ⟨hS1c, Nat.le_trans (fAdd_len _ _ _) hS0.2⟩, rfl⟩
        · have phb6 := hb6; try simp at phb6
          refine c_skip <| p_thn <| c_seq <| c_region <| jm rfl rfl <| ja rfl rfl <| j_nil <| p_thn <| c_ret <| ?_
          refine jp_perm (fr_s <| fr_s <| fr_0) <| ?_
          refine p_retK (ap_s <| ap_0) rfl rfl (.tmp rfl <| .nil) ?_
          have e0 : fDo (xs.map FS.f) v i k n m (ix sZ xs i.toNat).f = fAdd (ix sZ xs i.toNat).f i n := by unfold fDo; rw [if_pos (by omega)]
          exact ⟨xs, step_same (by omega) (by omega) hx.1 (by rw [e0]; assumption), hx.mono hM1c, rfl⟩
      · have phb5 := hb5; try simp at phb5
        refine c_seq <| c_region <| jeql rfl rfl rfl <| ja rfl rfl <| j_nil <| p_thn <| c_cond rfl (fun hb7 => ?_) (fun hb7 => ?_)
        · have phb7 := hb7; try simp at phb7
          refine c_region <| jldw 0 rfl rfl rfl (len_F _ _ _) <| jfa rfl rfl rfl <| jld1 1 rfl rfl rfl rfl <| jfa rfl rfl rfl <| jld1 1 rfl rfl rfl rfl <| jfa rfl rfl rfl <| jld1 1 rfl rfl rfl rfl <| jfa rfl rfl rfl <| jld1 1 rfl rfl rfl rfl <| jcalls rfl rfl rfl (field_Hand _ _ _ (Nat.le_trans hS0.2 (by decide)) _ _ _ _ _ hS0.1) fun A2c cap2c M2c hM2c hS2c => jm rfl rfl <| jext rfl rfl rfl <| jext rfl rfl rfl <| jstw 0 rfl rfl rfl rfl (len_F _ _ _) (one_F _ _ _) (len_F _ _ _) <| ja rfl rfl <| j_nil <| p_inb <| p_thn <| c_seq <| c_seq <| c_region <| jm rfl rfl <| jeql rfl rfl rfl <| j_nil <| p_thn <| c_cond rfl (fun hb8 => ?_) (fun hb8 => ?_)
          · have phb8 := hb8; try simp at phb8
            refine c_draw [2, 3] (by kernel_rfl) <| jd_z (i := 0) rfl rfl (by kernel_rfl) (by kernel_rfl) (by kernel_rfl) (by kernel_rfl) rfl (zm rfl) <| jd_z (i := 1) rfl rfl (by kernel_rfl) (by kernel_rfl) (by kernel_rfl) (by kernel_rfl) rfl (zfa rfl rfl) <| jd_first (i := 2) rfl rfl (by kernel_rfl) (by kernel_rfl) (by kernel_rfl) (by kernel_rfl) (by kernel_rfl) rfl (fun _ h => h) (yld1 1 rfl rfl rfl) <| jd_first (i := 3) rfl rfl (by kernel_rfl) (by kernel_rfl) (by kernel_rfl) (by kernel_rfl) (by kernel_rfl) rfl (fun _ h => h) (yldw 0 rfl rfl (len_F _ _ _)) <| jd_z (i := 4) rfl rfl (by kernel_rfl) (by kernel_rfl) (by kernel_rfl) (by kernel_rfl) rfl (znil rfl) <| jd_z (i := 5) rfl rfl (by kernel_rfl) (by kernel_rfl) (by kernel_rfl) (by kernel_rfl) rfl (zia rfl rfl (by omega) (by omega)) <| jd_one (i := 6) (by kernel_rfl) rfl <| jst 2 rfl rfl rfl rfl (len_F _ _ _) (one_F _ _ _) (by rw [flatk_len len_S, hx.1]; omega) (uS (by exact hx.1) (by omega) (by omega)) <| j_nil <| p_jd rfl (.inl (by kernel_rfl)) <| jd_done (by kernel_rfl) <| p_thn <| c_seq <| c_region <| jm rfl rfl <| ja rfl rfl <| j_nil <| p_thn <| c_ret <| ?_
            refine jp_perm (fr_s <| fr_s <| fr_0) <| ?_
            refine p_retK (ap_s <| ap_0) rfl rfl (.tmp rfl <| .nil) ?_
            have e0 : fDo (xs.map FS.f) v i k n m (ix sZ xs i.toNat).f = fHand (ix sZ xs i.toNat).f i k n m := by unfold fDo; rw [if_neg (by omega), if_pos (by omega)]
            exact ⟨xs.set i.toNat ⟨(fHand (ix sZ xs i.toNat).f i k n m).1, A2c, cap2c⟩, step_put (by omega) (by omega) hx.1 (by rw [e0]; assumption) (by rw [e0]), (hx.mono hM2c).set ⟨hS2c, Nat.le_trans (fHand_len _ _ _ _ _) hS0.2⟩, rfl⟩
          · have phb8 := hb8; try simp at phb8
            refine c_skip <| p_thn <| c_seq <| c_region <| jm rfl rfl <| ja rfl rfl <| j_nil <| p_thn <| c_ret <| ?_
            refine jp_perm (fr_s <| fr_s <| fr_0) <| ?_
            refine p_retK (ap_s <| ap_0) rfl rfl (.tmp rfl <| .nil) ?_
            have e0 : fDo (xs.map FS.f) v i k n m (ix sZ xs i.toNat).f = fHand (ix sZ xs i.toNat).f i k n m := by unfold fDo; rw [if_neg (by omega), if_pos (by omega)]
            exact ⟨xs, step_same (by omega) (by omega) hx.1 (by rw [e0]; assumption), hx.mono hM2c, rfl⟩
        · have phb7 := hb7; try simp at phb7
          refine c_seq <| c_region <| jeql rfl rfl rfl <| ja rfl rfl <| j_nil <| p_thn <| c_cond rfl (fun hb9 => ?_) (fun hb9 => ?_)
          · have phb9 := hb9; try simp at phb9
            refine c_region <| jldw 0 rfl rfl rfl (len_F _ _ _) <| jfa rfl rfl rfl <| jld1 1 rfl rfl rfl rfl <| jfa rfl rfl rfl <| jld1 1 rfl rfl rfl rfl <| jfa rfl rfl rfl <| jld1 1 rfl rfl rfl rfl <| jcalls rfl rfl rfl (field_Reserve _ _ _ (Nat.le_trans hS0.2 (by decide)) _ _ _ _ hS0.1) fun A3c cap3c M3c hM3c hS3c => jm rfl rfl <| jext rfl rfl rfl <| jext rfl rfl rfl <| jext rfl rfl rfl <| jstw 0 rfl rfl rfl rfl (len_F _ _ _) (one_F _ _ _) (len_F _ _ _) <| ja rfl rfl <| j_nil <| p_inb <| p_thn <| c_seq <| c_seq <| c_region <| jm rfl rfl <| jeql rfl rfl rfl <| j_nil <| p_thn <| c_cond rfl (fun hb10 => ?_) (fun hb10 => ?_)
            · have phb10 := hb10; try simp at phb10
              refine c_draw [2, 3] (by kernel_rfl) <| jd_z (i := 0) rfl rfl (by kernel_rfl) (by kernel_rfl) (by kernel_rfl) (by kernel_rfl) rfl (zm rfl) <| jd_z (i := 1) rfl rfl (by kernel_rfl) (by kernel_rfl) (by kernel_rfl) (by kernel_rfl) rfl (zfa rfl rfl) <| jd_first (i := 2) rfl rfl (by kernel_rfl) (by kernel_rfl) (by kernel_rfl) (by kernel_rfl) (by kernel_rfl) rfl (fun _ h => h) (yld1 1 rfl rfl rfl) <| jd_first (i := 3) rfl rfl (by kernel_rfl) (by kernel_rfl) (by kernel_rfl) (by kernel_rfl) (by kernel_rfl) rfl (fun _ h => h) (yldw 0 rfl rfl (len_F _ _ _)) <| jd_z (i := 4) rfl rfl (by kernel_rfl) (by kernel_rfl) (by kernel_rfl) (by kernel_rfl) rfl (znil rfl) <| jd_z (i := 5) rfl rfl (by kernel_rfl) (by kernel_rfl) (by kernel_rfl) (by kernel_rfl) rfl (zia rfl rfl (by omega) (by omega)) <| jd_one (i := 6) (by kernel_rfl) rfl <| jst 2 rfl rfl rfl rfl (len_F _ _ _) (one_F _ _ _) (by rw [flatk_len len_S, hx.1]; omega) (uS (by exact hx.1) (by omega) (by omega)) <| j_nil <| p_jd rfl (.inl (by kernel_rfl)) <| jd_done (by kernel_rfl) <| p_thn <| c_seq <| c_region <| jm rfl rfl <| ja rfl rfl <| j_nil <| p_thn <| c_ret <| ?_
              refine jp_perm (fr_s <| fr_s <| fr_0) <| ?_
              refine p_retK (ap_s <| ap_0) rfl rfl (.tmp rfl <| .nil) ?_
              have e0 : fDo (xs.map FS.f) v i k n m (ix sZ xs i.toNat).f = ((fReserve (ix sZ xs i.toNat).f i n m).1, (fReserve (ix sZ xs i.toNat).f i n m).2.2) := by unfold fDo; rw [if_neg (by omega), if_neg (by omega), if_pos (by omega)]
              exact ⟨xs.set i.toNat ⟨(fReserve (ix sZ xs i.toNat).f i n m).1, A3c, cap3c⟩, step_put (by omega) (by omega) hx.1 (by rw [e0]; assumption) (by rw [e0]), (hx.mono hM3c).set ⟨hS3c, fReserve_len _ _ _ _⟩, rfl⟩
            · have phb10 := hb10; try simp at phb10
              refine c_skip <| p_thn <| c_seq <| c_region <| jm rfl rfl <| ja rfl rfl <| j_nil <| p_thn <| c_ret <| ?_
              refine jp_perm (fr_s <| fr_s <| fr_0) <| ?_
              refine p_retK (ap_s <| ap_0) rfl rfl (.tmp rfl <| .nil) ?_
              have e0 : fDo (xs.map FS.f) v i k n m (ix sZ xs i.toNat).f = ((fReserve (ix sZ xs i.toNat).f i n m).1, (fReserve (ix sZ xs i.toNat).f i n m).2.2) := by unfold fDo; rw [if_neg (by omega), if_neg (by omega), if_pos (by omega)]
              exact ⟨xs, step_same (by omega) (by omega) hx.1 (by rw [e0]; assumption), hx.mono hM3c, rfl⟩
          · have phb9 := hb9; try simp at phb9
            refine c_seq <| c_region <| jeql rfl rfl rfl <| ja rfl rfl <| j_nil <| p_thn <| c_cond rfl (fun hb11 => ?_) (fun hb11 => ?_)
            · have phb11 := hb11; try simp at phb11
              refine c_region <| jldw 0 rfl rfl rfl (len_F _ _ _) <| jfa rfl rfl rfl <| jld1 1 rfl rfl rfl rfl <| jfa rfl rfl rfl <| jld1 1 rfl rfl rfl rfl <| jfa rfl rfl rfl <| jld1 1 rfl rfl rfl rfl <| jcalls rfl rfl rfl (field_End _ _ _ (Nat.le_trans hS0.2 (by decide)) _ _ _ _ hS0.1) fun A4c cap4c M4c hM4c hS4c => jm rfl rfl <| jext rfl rfl rfl <| jext rfl rfl rfl <| jstw 0 rfl rfl rfl rfl (len_F _ _ _) (one_F _ _ _) (len_F _ _ _) <| ja rfl rfl <| j_nil <| p_inb <| p_thn <| c_seq <| c_seq <| c_region <| jm rfl rfl <| jeql rfl rfl rfl <| j_nil <| p_thn <| c_cond rfl (fun hb12 => ?_) (fun hb12 => ?_)
              · have phb12 := hb12; try simp at phb12
                refine c_draw [2, 3] (by kernel_rfl) <| jd_z (i := 0) rfl rfl (by kernel_rfl) (by kernel_rfl) (by kernel_rfl) (by kernel_rfl) rfl (zm rfl) <| jd_z (i := 1) rfl rfl (by kernel_rfl) (by kernel_rfl) (by kernel_rfl) (by kernel_rfl) rfl (zfa rfl rfl) <| jd_first (i := 2) rfl rfl (by kernel_rfl) (by kernel_rfl) (by kernel_rfl) (by kernel_rfl) (by kernel_rfl) rfl (fun _ h => h) (yld1 1 rfl rfl rfl) <| jd_first (i := 3) rfl rfl (by kernel_rfl) (by kernel_rfl) (by kernel_rfl) (by kernel_rfl) (by kernel_rfl) rfl (fun _ h => h) (yldw 0 rfl rfl (len_F _ _ _)) <| jd_z (i := 4) rfl rfl (by kernel_rfl) (by kernel_rfl) (by kernel_rfl) (by kernel_rfl) rfl (znil rfl) <| jd_z (i := 5) rfl rfl (by kernel_rfl) (by kernel_rfl) (by kernel_rfl) (by kernel_rfl) rfl (zia rfl rfl (by omega) (by omega)) <| jd_one (i := 6) (by kernel_rfl) rfl <| jst 2 rfl rfl rfl rfl (len_F _ _ _) (one_F _ _ _) (by rw [flatk_len len_S, hx.1]; omega) (uS (by exact hx.1) (by omega) (by omega)) <| j_nil <| p_jd rfl (.inl (by kernel_rfl)) <| jd_done (by kernel_rfl) <| p_thn <| c_seq <| c_region <| jm rfl rfl <| ja rfl rfl <| j_nil <| p_thn <| c_ret <| ?_
                refine jp_perm (fr_s <| fr_s <| fr_0) <| ?_
                refine p_retK (ap_s <| ap_0) rfl rfl (.tmp rfl <| .nil) ?_
                have e0 : fDo (xs.map FS.f) v i k n m (ix sZ xs i.toNat).f = fEnd (ix sZ xs i.toNat).f i n m := by unfold fDo; rw [if_neg (by omega), if_neg (by omega), if_neg (by omega), if_pos (by omega)]
                exact ⟨xs.set i.toNat ⟨(fEnd (ix sZ xs i.toNat).f i n m).1, A4c, cap4c⟩, step_put (by omega) (by omega) hx.1 (by rw [e0]; assumption) (by rw [e0]), (hx.mono hM4c).set ⟨hS4c, Nat.le_trans (fEnd_len _ _ _ _) hS0.2⟩, rfl⟩
              · have phb12 := hb12; try simp at phb12
                refine c_skip <| p_thn <| c_seq <| c_region <| jm rfl rfl <| ja rfl rfl <| j_nil <| p_thn <| c_ret <| ?_
                refine jp_perm (fr_s <| fr_s <| fr_0) <| ?_
                refine p_retK (ap_s <| ap_0) rfl rfl (.tmp rfl <| .nil) ?_
                have e0 : fDo (xs.map FS.f) v i k n m (ix sZ xs i.toNat).f = fEnd (ix sZ xs i.toNat).f i n m := by unfold fDo; rw [if_neg (by omega), if_neg (by omega), if_neg (by omega), if_pos (by omega)]
                exact ⟨xs, step_same (by omega) (by omega) hx.1 (by rw [e0]; assumption), hx.mono hM4c, rfl⟩
            · have phb11 := hb11; try simp at phb11
              refine c_seq <| c_region <| jeql rfl rfl rfl <| ja rfl rfl <| j_nil <| p_thn <| c_cond rfl (fun hb13 => ?_) (fun hb13 => ?_)
              · have phb13 := hb13; try simp at phb13
                refine c_seq <| c_region <| jldw 0 rfl rfl rfl (len_F _ _ _) <| jfa rfl rfl rfl <| jld1 1 rfl rfl rfl rfl <| jfa rfl rfl rfl <| jld1 1 rfl rfl rfl rfl <| jcalls rfl rfl rfl (field_Expire _ _ _ (Nat.le_trans hS0.2 (by decide)) _ _ _ hS0.1) fun A5c cap5c M5c hM5c hS5c => jm rfl rfl <| jext rfl rfl rfl <| jext rfl rfl rfl <| jstw 0 rfl rfl rfl rfl (len_F _ _ _) (one_F _ _ _) (len_F _ _ _) <| j_nil <| p_thn <| c_region <| ja rfl rfl <| j_nil <| p_inb <| p_thn <| c_seq <| c_seq <| c_region <| jm rfl rfl <| jeql rfl rfl rfl <| j_nil <| p_thn <| c_cond_kt rfl rfl <| c_draw [2, 3] (by kernel_rfl) <| jd_z (i := 0) rfl rfl (by kernel_rfl) (by kernel_rfl) (by kernel_rfl) (by kernel_rfl) rfl (zm rfl) <| jd_z (i := 1) rfl rfl (by kernel_rfl) (by kernel_rfl) (by kernel_rfl) (by kernel_rfl) rfl (zfa rfl rfl) <| jd_first (i := 2) rfl rfl (by kernel_rfl) (by kernel_rfl) (by kernel_rfl) (by kernel_rfl) (by kernel_rfl) rfl (fun _ h => h) (yld1 1 rfl rfl rfl) <| jd_first (i := 3) rfl rfl (by kernel_rfl) (by kernel_rfl) (by kernel_rfl) (by kernel_rfl) (by kernel_rfl) rfl (fun _ h => h) (yldw 0 rfl rfl (len_F _ _ _)) <| jd_z (i := 4) rfl rfl (by kernel_rfl) (by kernel_rfl) (by kernel_rfl) (by kernel_rfl) rfl (znil rfl) <| jd_z (i := 5) rfl rfl (by kernel_rfl) (by kernel_rfl) (by kernel_rfl) (by kernel_rfl) rfl (zia rfl rfl (by omega) (by omega)) <| jd_one (i := 6) (by kernel_rfl) rfl <| jst 2 rfl rfl rfl rfl (len_F _ _ _) (one_F _ _ _) (by rw [flatk_len len_S, hx.1]; omega) (uS (by exact hx.1) (by omega) (by omega)) <| j_nil <| p_jd rfl (.inl (by kernel_rfl)) <| jd_done (by kernel_rfl) <| p_thn <| c_seq <| c_region <| jm rfl rfl <| ja rfl rfl <| j_nil <| p_thn <| c_ret <| ?_
                refine jp_perm (fr_s <| fr_s <| fr_0) <| ?_
                refine p_retK (ap_s <| ap_0) rfl rfl (.tmp rfl <| .nil) ?_
                have e0 : fDo (xs.map FS.f) v i k n m (ix sZ xs i.toNat).f = ((fExpire (ix sZ xs i.toNat).f i m).1, 0) := by unfold fDo; rw [if_neg (by omega), if_neg (by omega), if_neg (by omega), if_neg (by omega), if_pos (by omega)]
                exact ⟨xs.set i.toNat ⟨(fExpire (ix sZ xs i.toNat).f i m).1, A5c, cap5c⟩, step_put (by omega) (by omega) hx.1 (by rw [e0]) (by rw [e0]), (hx.mono hM5c).set ⟨hS5c, Nat.le_trans (fExpire_len _ _ _) hS0.2⟩, rfl⟩
              · have phb13 := hb13; try simp at phb13
                refine c_seq <| c_region <| jeql rfl rfl rfl <| ja rfl rfl <| j_nil <| p_thn <| c_cond rfl (fun hb14 => ?_) (fun hb14 => ?_)
                · have phb14 := hb14; try simp at phb14
                  refine c_region <| jldw 0 rfl rfl rfl (len_F _ _ _) <| jfa rfl rfl rfl <| jld1 1 rfl rfl rfl rfl <| jfa rfl rfl rfl <| jld1 1 rfl rfl rfl rfl <| jcalls rfl rfl rfl (field_Write _ _ _ (Nat.le_trans hS0.2 (by decide)) _ _ _ hS0.1) fun A6c cap6c M6c hM6c hS6c => jm rfl rfl <| jext rfl rfl rfl <| jext rfl rfl rfl <| jstw 0 rfl rfl rfl rfl (len_F _ _ _) (one_F _ _ _) (len_F _ _ _) <| ja rfl rfl <| j_nil <| p_inb <| p_thn <| c_seq <| c_seq <| c_region <| jm rfl rfl <| jeql rfl rfl rfl <| j_nil <| p_thn <| c_cond rfl (fun hb15 => ?_) (fun hb15 => ?_)
                  · have phb15 := hb15; try simp at phb15
                    refine c_draw [2, 3] (by kernel_rfl) <| jd_z (i := 0) rfl rfl (by kernel_rfl) (by kernel_rfl) (by kernel_rfl) (by kernel_rfl) rfl (zm rfl) <| jd_z (i := 1) rfl rfl (by kernel_rfl) (by kernel_rfl) (by kernel_rfl) (by kernel_rfl) rfl (zfa rfl rfl) <| jd_first (i := 2) rfl rfl (by kernel_rfl) (by kernel_rfl) (by kernel_rfl) (by kernel_rfl) (by kernel_rfl) rfl (fun _ h => h) (yld1 1 rfl rfl rfl) <| jd_first (i := 3) rfl rfl (by kernel_rfl) (by kernel_rfl) (by kernel_rfl) (by kernel_rfl) (by kernel_rfl) rfl (fun _ h => h) (yldw 0 rfl rfl (len_F _ _ _)) <| jd_z (i := 4) rfl rfl (by kernel_rfl) (by kernel_rfl) (by kernel_rfl) (by kernel_rfl) rfl (znil rfl) <| jd_z (i := 5) rfl rfl (by kernel_rfl) (by kernel_rfl) (by kernel_rfl) (by kernel_rfl) rfl (zia rfl rfl (by omega) (by omega)) <| jd_one (i := 6) (by kernel_rfl) rfl <| jst 2 rfl rfl rfl rfl (len_F _ _ _) (one_F _ _ _) (by rw [flatk_len len_S, hx.1]; omega) (uS (by exact hx.1) (by omega) (by omega)) <| j_nil <| p_jd rfl (.inl (by kernel_rfl)) <| jd_done (by kernel_rfl) <| p_thn <| c_seq <| c_region <| jm rfl rfl <| ja rfl rfl <| j_nil <| p_thn <| c_ret <| ?_
                    refine jp_perm (fr_s <| fr_s <| fr_0) <| ?_
                    refine p_retK (ap_s <| ap_0) rfl rfl (.tmp rfl <| .nil) ?_
                    have e0 : fDo (xs.map FS.f) v i k n m (ix sZ xs i.toNat).f = fLocked (ix sZ xs i.toNat).f (fun l => lWrite l i n) := by unfold fDo; rw [if_neg (by omega), if_neg (by omega), if_neg (by omega), if_neg (by omega), if_neg (by omega), if_pos (by omega)]
                    exact ⟨xs.set i.toNat ⟨(fLocked (ix sZ xs i.toNat).f (fun l => lWrite l i n)).1, A6c, cap6c⟩, step_put (by omega) (by omega) hx.1 (by rw [e0]; assumption) (by rw [e0]), (hx.mono hM6c).set ⟨hS6c, Nat.le_trans (fLocked_len _ _) hS0.2⟩, rfl⟩
                  · have phb15 := hb15; try simp at phb15
                    refine c_skip <| p_thn <| c_seq <| c_region <| jm rfl rfl <| ja rfl rfl <| j_nil <| p_thn <| c_ret <| ?_
                    refine jp_perm (fr_s <| fr_s <| fr_0) <| ?_
                    refine p_retK (ap_s <| ap_0) rfl rfl (.tmp rfl <| .nil) ?_
                    have e0 : fDo (xs.map FS.f) v i k n m (ix sZ xs i.toNat).f = fLocked (ix sZ xs i.toNat).f (fun l => lWrite l i n) := by unfold fDo; rw [if_neg (by omega), if_neg (by omega), if_neg (by omega), if_neg (by omega), if_neg (by omega), if_pos (by omega)]
                    exact ⟨xs, step_same (by omega) (by omega) hx.1 (by rw [e0]; assumption), hx.mono hM6c, rfl⟩
                · have phb14 := hb14; try simp at phb14
                  refine c_seq <| c_region <| jeql rfl rfl rfl <| ja rfl rfl <| j_nil <| p_thn <| c_cond rfl (fun hb16 => ?_) (fun hb16 => ?_)
                  · have phb16 := hb16; try simp at phb16
                    refine c_region <| jldw 0 rfl rfl rfl (len_F _ _ _) <| jfa rfl rfl rfl <| jld1 1 rfl rfl rfl rfl <| jfa rfl rfl rfl <| jld1 1 rfl rfl rfl rfl <| jcalls rfl rfl rfl (field_Pass _ _ _ (Nat.le_trans hS0.2 (by decide)) _ _ _ hS0.1) fun A7c cap7c M7c hM7c hS7c => jm rfl rfl <| jext rfl rfl rfl <| jext rfl rfl rfl <| jstw 0 rfl rfl rfl rfl (len_F _ _ _) (one_F _ _ _) (len_F _ _ _) <| ja rfl rfl <| j_nil <| p_inb <| p_thn <| c_seq <| c_seq <| c_region <| jm rfl rfl <| jeql rfl rfl rfl <| j_nil <| p_thn <| c_cond rfl (fun hb17 => ?_) (fun hb17 => ?_)
                    · have phb17 := hb17; try simp at phb17
                      refine c_draw [2, 3] (by kernel_rfl) <| jd_z (i := 0) rfl rfl (by kernel_rfl) (by kernel_rfl) (by kernel_rfl) (by kernel_rfl) rfl (zm rfl) <| jd_z (i := 1) rfl rfl (by kernel_rfl) (by kernel_rfl) (by kernel_rfl) (by kernel_rfl) rfl (zfa rfl rfl) <| jd_first (i := 2) rfl rfl (by kernel_rfl) (by kernel_rfl) (by kernel_rfl) (by kernel_rfl) (by kernel_rfl) rfl (fun _ h => h) (yld1 1 rfl rfl rfl) <| jd_first (i := 3) rfl rfl (by kernel_rfl) (by kernel_rfl) (by kernel_rfl) (by kernel_rfl) (by kernel_rfl) rfl (fun _ h => h) (yldw 0 rfl rfl (len_F _ _ _)) <| jd_z (i := 4) rfl rfl (by kernel_rfl) (by kernel_rfl) (by kernel_rfl) (by kernel_rfl) rfl (znil rfl) <| jd_z (i := 5) rfl rfl (by kernel_rfl) (by kernel_rfl) (by kernel_rfl) (by kernel_rfl) rfl (zia rfl rfl (by omega) (by omega)) <| jd_one (i := 6) (by kernel_rfl) rfl <| jst 2 rfl rfl rfl rfl (len_F _ _ _) (one_F _ _ _) (by rw [flatk_len len_S, hx.1]; omega) (uS (by exact hx.1) (by omega) (by omega)) <| j_nil <| p_jd rfl (.inl (by kernel_rfl)) <| jd_done (by kernel_rfl) <| p_thn <| c_seq <| c_region <| jm rfl rfl <| ja rfl rfl <| j_nil <| p_thn <| c_ret <| ?_
                      refine jp_perm (fr_s <| fr_s <| fr_0) <| ?_
                      refine p_retK (ap_s <| ap_0) rfl rfl (.tmp rfl <| .nil) ?_
                      have e0 : fDo (xs.map FS.f) v i k n m (ix sZ xs i.toNat).f = fLocked (ix sZ xs i.toNat).f (fun l => lPass l i k) := by unfold fDo; rw [if_neg (by omega), if_neg (by omega), if_neg (by omega), if_neg (by omega), if_neg (by omega), if_neg (by omega), if_pos (by omega)]
                      exact ⟨xs.set i.toNat ⟨(fLocked (ix sZ xs i.toNat).f (fun l => lPass l i k)).1, A7c, cap7c⟩, step_put (by omega) (by omega) hx.1 (by rw [e0]; assumption) (by rw [e0]), (hx.mono hM7c).set ⟨hS7c, Nat.le_trans (fLocked_len _ _) hS0.2⟩, rfl⟩
                    · have phb17 := hb17; try simp at phb17
                      refine c_skip <| p_thn <| c_seq <| c_region <| jm rfl rfl <| ja rfl rfl <| j_nil <| p_thn <| c_ret <| ?_
                      refine jp_perm (fr_s <| fr_s <| fr_0) <| ?_
                      refine p_retK (ap_s <| ap_0) rfl rfl (.tmp rfl <| .nil) ?_
                      have e0 : fDo (xs.map FS.f) v i k n m (ix sZ xs i.toNat).f = fLocked (ix sZ xs i.toNat).f (fun l => lPass l i k) := by unfold fDo; rw [if_neg (by omega), if_neg (by omega), if_neg (by omega), if_neg (by omega), if_neg (by omega), if_neg (by omega), if_pos (by omega)]
                      exact ⟨xs, step_same (by omega) (by omega) hx.1 (by rw [e0]; assumption), hx.mono hM7c, rfl⟩
                  · have phb16 := hb16; try simp at phb16
                    refine c_seq <| c_region <| jeql rfl rfl rfl <| ja rfl rfl <| j_nil <| p_thn <| c_cond rfl (fun hb18 => ?_) (fun hb18 => ?_)
                    · have phb18 := hb18; try simp at phb18
                      refine c_seq <| c_region <| jfa rfl rfl rfl <| jld1 1 rfl rfl rfl rfl <| jgeq rfl rfl rfl <| jm rfl rfl <| jgs rfl rfl (fun hb19 => ?_) (fun hb19 => ?_)
                      · have phb19 := hb19; try simp at phb19
                        refine jg rfl rfl hb19 <| jfa rfl rfl rfl <| jg rfl rfl hb19 <| jld1 1 rfl rfl rfl rfl <| jg rfl rfl hb19 <| jleq rfl rfl rfl <| jpick_t rfl rfl hb19 rfl <| j_nil <| p_thn <| c_cond rfl (fun hb20 => ?_) (fun hb20 => ?_)
                        · have phb20 := hb20; try simp at phb20
                          have hT0 := hx.at (j := k.toNat) (by omega)
                          refine c_draw [0, 3, 6] (by kernel_rfl) <| jd_first (i := 0) rfl rfl (by kernel_rfl) (by kernel_rfl) (by kernel_rfl) (by kernel_rfl) (by kernel_rfl) rfl (fun _ h => h) (yldw 0 rfl rfl (len_F _ _ _)) <| jd_z (i := 1) rfl rfl (by kernel_rfl) (by kernel_rfl) (by kernel_rfl) (by kernel_rfl) rfl (zm rfl) <| jd_z (i := 2) rfl rfl (by kernel_rfl) (by kernel_rfl) (by kernel_rfl) (by kernel_rfl) rfl (zfa rfl rfl) <| jd_first (i := 3) rfl rfl (by kernel_rfl) (by kernel_rfl) (by kernel_rfl) (by kernel_rfl) (by kernel_rfl) rfl (fun _ h => h) (yld1 1 rfl rfl rfl) <| jd_z (i := 4) rfl rfl (by kernel_rfl) (by kernel_rfl) (by kernel_rfl) (by kernel_rfl) rfl (znil rfl) <| jd_z (i := 5) rfl rfl (by kernel_rfl) (by kernel_rfl) (by kernel_rfl) (by kernel_rfl) rfl (zia rfl rfl (by omega) (by omega)) <| jd_first (i := 6) rfl rfl (by kernel_rfl) (by kernel_rfl) (by kernel_rfl) (by kernel_rfl) (by kernel_rfl) rfl (fun _ h => h) (yld 2 rfl rfl (gS (by exact hx.1) (by omega) (by omega)) (len_F _ _ _)) <| jd_one (i := 7) (by kernel_rfl) rfl <| jcalls rfl rfl rfl (field_Join _ _ _ (Nat.le_trans hS0.2 (by decide)) _ _ _ (Nat.le_trans hT0.2 (by decide)) _ hS0.1 hT0.1) fun A8c cap8c M8c hM8c hS8c => j_nil <| p_jd rfl (.inl (by kernel_rfl)) <| jd_z (i := 8) rfl rfl (by kernel_rfl) (by kernel_rfl) (by kernel_rfl) (by kernel_rfl) rfl (zm rfl) <| jd_z (i := 9) rfl rfl (by kernel_rfl) (by kernel_rfl) (by kernel_rfl) (by kernel_rfl) rfl (zext rfl rfl) <| jd_z (i := 10) rfl rfl (by kernel_rfl) (by kernel_rfl) (by kernel_rfl) (by kernel_rfl) rfl (zext rfl rfl) <| jd_one (i := 11) (by kernel_rfl) rfl <| jstw 0 rfl rfl rfl rfl (len_F _ _ _) (one_F _ _ _) (len_F _ _ _) <| j_nil <| p_jd rfl (.inl (by kernel_rfl)) <| jd_z (i := 12) rfl rfl (by kernel_rfl) (by kernel_rfl) (by kernel_rfl) (by kernel_rfl) rfl (za rfl) <| jd_done (by kernel_rfl) <| p_inb <| p_thn <| c_seq <| c_seq <| c_region <| jm rfl rfl <| jeql rfl rfl rfl <| j_nil <| p_thn <| c_cond rfl (fun hb21 => ?_) (fun hb21 => ?_)
                          · have phb21 := hb21; try simp at phb21
                            refine c_draw [2, 3] (by kernel_rfl) <| jd_z (i := 0) rfl rfl (by kernel_rfl) (by kernel_rfl) (by kernel_rfl) (by kernel_rfl) rfl (zm rfl) <| jd_z (i := 1) rfl rfl (by kernel_rfl) (by kernel_rfl) (by kernel_rfl) (by kernel_rfl) rfl (zfa rfl rfl) <| jd_first (i := 2) rfl rfl (by kernel_rfl) (by kernel_rfl) (by kernel_rfl) (by kernel_rfl) (by kernel_rfl) rfl (fun _ h => h) (yld1 1 rfl rfl rfl) <| jd_first (i := 3) rfl rfl (by kernel_rfl) (by kernel_rfl) (by kernel_rfl) (by kernel_rfl) (by kernel_rfl) rfl (fun _ h => h) (yldw 0 rfl rfl (len_F _ _ _)) <| jd_z (i := 4) rfl rfl (by kernel_rfl) (by kernel_rfl) (by kernel_rfl) (by kernel_rfl) rfl (znil rfl) <| jd_z (i := 5) rfl rfl (by kernel_rfl) (by kernel_rfl) (by kernel_rfl) (by kernel_rfl) rfl (zia rfl rfl (by omega) (by omega)) <| jd_one (i := 6) (by kernel_rfl) rfl <| jst 2 rfl rfl rfl rfl (len_F _ _ _) (one_F _ _ _) (by rw [flatk_len len_S, hx.1]; omega) (uS (by exact hx.1) (by omega) (by omega)) <| j_nil <| p_jd rfl (.inl (by kernel_rfl)) <| jd_done (by kernel_rfl) <| p_thn <| c_seq <| c_region <| jm rfl rfl <| ja rfl rfl <| j_nil <| p_thn <| c_ret <| ?_
                            refine jp_perm (fr_s <| fr_s <| fr_0) <| ?_
                            refine p_retK (ap_s <| ap_0) rfl rfl (.tmp rfl <| .nil) ?_
                            have e0 : fDo (xs.map FS.f) v i k n m (ix sZ xs i.toNat).f = fJoin (ix sZ xs i.toNat).f (ix sZ xs k.toNat).f := by unfold fDo; rw [if_neg (by omega), if_neg (by omega), if_neg (by omega), if_neg (by omega), if_neg (by omega), if_neg (by omega), if_neg (by omega), if_pos (by omega), if_pos (by omega), ix_map (z := sZ) (by rw [hx.1]; omega)]
                            exact ⟨xs.set i.toNat ⟨(fJoin (ix sZ xs i.toNat).f (ix sZ xs k.toNat).f).1, A8c, cap8c⟩, step_put (by omega) (by omega) hx.1 (by rw [e0]; assumption) (by rw [e0]), (hx.mono hM8c).set ⟨hS8c, fJoin_len _ _⟩, rfl⟩
                          · have phb21 := hb21; try simp at phb21
                            refine c_skip <| p_thn <| c_seq <| c_region <| jm rfl rfl <| ja rfl rfl <| j_nil <| p_thn <| c_ret <| ?_
                            refine jp_perm (fr_s <| fr_s <| fr_0) <| ?_
                            refine p_retK (ap_s <| ap_0) rfl rfl (.tmp rfl <| .nil) ?_
                            have e0 : fDo (xs.map FS.f) v i k n m (ix sZ xs i.toNat).f = fJoin (ix sZ xs i.toNat).f (ix sZ xs k.toNat).f := by unfold fDo; rw [if_neg (by omega), if_neg (by omega), if_neg (by omega), if_neg (by omega), if_neg (by omega), if_neg (by omega), if_neg (by omega), if_pos (by omega), if_pos (by omega), ix_map (z := sZ) (by rw [hx.1]; omega)]
                            exact ⟨xs, step_same (by omega) (by omega) hx.1 (by rw [e0]; assumption), hx.mono hM8c, rfl⟩
                        · have phb20 := hb20; try simp at phb20
                          refine c_skip <| p_inb <| p_thn <| c_seq <| c_seq <| c_region <| jm rfl rfl <| jeql rfl rfl rfl <| j_nil <| p_thn <| c_cond_kf rfl rfl <| c_skip <| p_thn <| c_seq <| c_region <| jm rfl rfl <| ja rfl rfl <| j_nil <| p_thn <| c_ret <| ?_
                          refine jp_perm (fr_s <| fr_s <| fr_0) <| ?_
                          refine p_retK (ap_s <| ap_0) rfl rfl (.tmp rfl <| .nil) ?_
                          have e0 : fDo (xs.map FS.f) v i k n m (ix sZ xs i.toNat).f = ((ix sZ xs i.toNat).f, 1) := by unfold fDo; rw [if_neg (by omega), if_neg (by omega), if_neg (by omega), if_neg (by omega), if_neg (by omega), if_neg (by omega), if_neg (by omega), if_pos (by omega), if_neg (by omega)]
                          exact ⟨xs, step_same (by omega) (by omega) hx.1 (by rw [e0]; exact (by decide : (1 : Int) ≠ 0)), hx, rfl⟩
                      · have phb19 := hb19; try simp at phb19
                        refine jg_off rfl rfl rfl hb19 <| jg_off rfl rfl rfl hb19 <| jg_off rfl rfl rfl hb19 <| jpick_f rfl rfl hb19 rfl <| j_nil <| p_thn <| c_cond_kf rfl rfl <| c_skip <| p_inb <| p_thn <| c_seq <| c_seq <| c_region <| jm rfl rfl <| jeql rfl rfl rfl <| j_nil <| p_thn <| c_cond_kf rfl rfl <| c_skip <| p_thn <| c_seq <| c_region <| jm rfl rfl <| ja rfl rfl <| j_nil <| p_thn <| c_ret <| ?_
                        refine jp_perm (fr_s <| fr_s <| fr_0) <| ?_
                        refine p_retK (ap_s <| ap_0) rfl rfl (.tmp rfl <| .nil) ?_
                        have e0 : fDo (xs.map FS.f) v i k n m (ix sZ xs i.toNat).f = ((ix sZ xs i.toNat).f, 1) := by unfold fDo; rw [if_neg (by omega), if_neg (by omega), if_neg (by omega), if_neg (by omega), if_neg (by omega), if_neg (by omega), if_neg (by omega), if_pos (by omega), if_neg (by omega)]
                        exact ⟨xs, step_same (by omega) (by omega) hx.1 (by rw [e0]; exact (by decide : (1 : Int) ≠ 0)), hx, rfl⟩
                    · have phb18 := hb18; try simp at phb18
                      refine c_skip <| p_inb <| p_thn <| c_seq <| c_seq <| c_region <| jm rfl rfl <| jeql rfl rfl rfl <| j_nil <| p_thn <| c_cond_kf rfl rfl <| c_skip <| p_thn <| c_seq <| c_region <| jm rfl rfl <| ja rfl rfl <| j_nil <| p_thn <| c_ret <| ?_
                      refine jp_perm (fr_s <| fr_s <| fr_0) <| ?_
                      refine p_retK (ap_s <| ap_0) rfl rfl (.tmp rfl <| .nil) ?_
                      have e0 : fDo (xs.map FS.f) v i k n m (ix sZ xs i.toNat).f = ((ix sZ xs i.toNat).f, 1) := by unfold fDo; rw [if_neg (by omega), if_neg (by omega), if_neg (by omega), if_neg (by omega), if_neg (by omega), if_neg (by omega), if_neg (by omega), if_neg (by omega)]
                      exact ⟨xs, step_same (by omega) (by omega) hx.1 (by rw [e0]; exact (by decide : (1 : Int) ≠ 0)), hx, rfl⟩
end Go.Proofs.YtihgpbpcbbgdiaaGreat
