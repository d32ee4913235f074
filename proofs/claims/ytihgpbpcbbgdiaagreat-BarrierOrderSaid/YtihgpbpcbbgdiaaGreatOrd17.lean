/- Several texts in one. -/
import Derived.Test.YtihgpbpcbbgdiaaGreatOrd15
/- What the functions of package field tell. -/
namespace Go.Proofs.YtihgpbpcbbgdiaaGreat
open Go.RowKit
set_option linter.unusedVariables false
set_option linter.unusedSimpArgs false
attribute [local irreducible] hRights hNum hSort hReserve hEnd hExpire hJoin hSum lJoin
/-- v is this field and this number, its holds known -/
def FV (M : Mem) (v : Value) (p : Field × Int) : Prop := ∃ A cap, SlR rHold M A cap p.1.holds ∧ v = .tuple #[.agg (encF p.1 A cap).toArray, vi p.2]
def fDone (f : Field) (e : Int) : Field × Int := if e ≠ 0 then (fZ, e) else (f, 0)
def fLoose (f : Field) (i : Int) : Int × Int := if f.kind ≠ 1 then (0, 0) else (IntKind.i64.wrap ((rFree f.counter.down i).1 - hSum f.holds i), (rFree f.counter.up i).1)
def fLacks (f : Field) (i n : Int) : Int := if f.kind ≠ 1 then 17 else if n > (fLoose f i).1 then 8 else 0
def fReserve (f : Field) (i n d : Int) : Field × Int × Int :=
  if fLacks f i n ≠ 0 then (fZ, 0, fLacks f i n) else if (hReserve f.holds i n d).2.2 ≠ 0 then (fZ, 0, (hReserve f.holds i n d).2.2)
  else ({ f with holds := (hReserve f.holds i n d).1 }, (hReserve f.holds i n d).2.1, 0)
def fView (f : Field) : Int × Int := if f.kind = 1 then nSum (valList f.counter) else if f.kind = 2 then (f.lock.value, 0) else (0, 17)
def fEnd (f : Field) (i n s : Int) : Field × Int :=
  if f.kind ≠ 1 then (fZ, 17) else
  if (hEnd f.holds i n s).2.2 = 0 ∧ s = 2 then fDone { f with counter := (cDec f.counter i (hEnd f.holds i n s).2.1).1, holds := (hEnd f.holds i n s).1 } (cDec f.counter i (hEnd f.holds i n s).2.1).2
  else fDone { f with holds := (hEnd f.holds i n s).1 } (hEnd f.holds i n s).2.2

theorem field_done (f : Field) (A : Option Addr) (cap : Nat) (hl : f.holds.length ≤ 10000) (e : Int) (M : Mem) (hS : SlR rHold M A cap f.holds) : Ctr Tryz.prog 62 [.agg (encF f A cap).toArray, vi e] M [] (fun v M' _ => FV M' v (fDone f e)) := by
  refine ctr Tryz.func62 rfl Tryz.ntmps62 rfl fun w => ?_
  refine c_seq <| c_region <| jbox rfl rfl rfl fun B1 => jalloc rfl fun B2 => ja rfl rfl <| j_nil <| p_thn <| c_seq <| c_seq <| c_region <| jm rfl rfl <| jneq rfl rfl rfl <| j_nil <| p_thn <| c_cond rfl (fun hb3 => ?_) (fun hb3 => ?_)
  · have phb3 := hb3; try simp at phb3
    refine c_seq <| c_region <| jbu0 rfl <| jm rfl rfl <| jstw 0 rfl rfl rfl rfl (len_F _ _ _) (one_F _ _ _) (len_F _ _ _) <| ja rfl rfl <| j_nil <| p_thn <| c_ret <| p_thn_ret <| ?_
    refine p_ret0 rfl rfl (.agg 0 inferInstance rfl rfl (len_F _ _ _) <| .tmp rfl <| .nil) ?_
    refine ⟨none, 0, ?_⟩
    have e0 : fDone f e = (fZ, e) := by unfold fDone; rw [if_pos phb3]
    rw [e0]; exact ⟨SlR.nil, rfl⟩
  · have phb3 := hb3; try simp at phb3
    refine c_skip <| p_thn <| c_seq <| c_region <| jfa rfl rfl rfl <| jld1 1 rfl rfl rfl (pF_holds _ _ _) <| jcallr rfl rfl rfl (ap_0) (clone_Hold _ _ _ (by omega) _ hS) (fun _ => (ap_s <| ap_0)) fun vc => j_freeze fun M1z hM1z hz1 => ?_
    obtain ⟨A1z, cap1z, rfl, hS1z⟩ := frz (r := rHold) (xs := f.holds) hz1 (Rows.flat (fun _ => rfl) _) rfl
    refine jfa rfl rfl rfl <| jst 1 rfl rfl rfl rfl rfl rfl (by rw [len_F]; exact Nat.le_of_ble_eq_true rfl) (uF_holds _ _ _ _ _ _) <| j_nil <| p_thn <| c_seq <| c_region <| jldw 1 rfl rfl rfl (len_F _ _ _) <| jstw 0 rfl rfl rfl rfl (len_F _ _ _) (one_F _ _ _) (len_F _ _ _) <| ja rfl rfl <| j_nil <| p_thn <| c_ret <| ?_
    refine p_ret0 rfl rfl (.agg 0 inferInstance rfl rfl (len_F _ _ _) <| .tmp rfl <| .nil) ?_
    refine ⟨A1z, cap1z, ?_⟩
    have e0 : fDone f e = (f, 0) := by unfold fDone; rw [if_neg (by omega)]
    rw [e0]; exact ⟨hS1z, rfl⟩
theorem field_Loose (f : Field) (A : Option Addr) (cap : Nat) (hl : f.holds.length ≤ 10000) (i : Int) (M : Mem) (hS : SlR rHold M A cap f.holds) : Ctr Tryz.prog 25 [.agg (encF f A cap).toArray, vi i] M [] (fun v _ _ => v = pr2 (fLoose f i)) := by
  refine ctr Tryz.func25 rfl Tryz.ntmps25 rfl fun w => ?_
  refine c_seq <| c_region <| jbox rfl rfl rfl fun B1 => ja rfl rfl <| ja rfl rfl <| j_nil <| p_thn <| c_seq <| c_seq <| c_region <| jfa rfl rfl rfl <| jld1 0 rfl rfl rfl rfl <| jneq rfl rfl rfl <| j_nil <| p_thn <| c_cond rfl (fun hb2 => ?_) (fun hb2 => ?_)
  · have phb2 := hb2; try simp at phb2
    refine c_seq <| c_region <| ja rfl rfl <| ja rfl rfl <| j_nil <| p_thn <| c_ret <| p_thn_ret <| ?_
    refine p_ret0 rfl rfl (.tmp rfl <| .tmp rfl <| .nil) ?_
    unfold fLoose
    rw [if_pos phb2]
    rfl
  · have phb2 := hb2; try simp at phb2
    refine c_skip <| p_thn <| c_seq <| c_region <| jfa rfl rfl rfl <| jld 0 rfl rfl rfl (pF_counter _ _ _) (len_counter _) <| jm rfl rfl <| jcallv rfl rfl rfl (counter_Room _ _ _) <| jm rfl rfl <| jext rfl rfl rfl <| jext rfl rfl rfl <| ja rfl rfl <| ja rfl rfl <| j_nil <| p_thn <| c_seq <| c_region <| jm rfl rfl <| jfa rfl rfl rfl <| jld1 0 rfl rfl rfl (pF_holds _ _ _) <| jm rfl rfl <| jcallv rfl rfl rfl (hold_Sum _ _ _ (by omega) _ _ hS) <| jsub rfl rfl rfl rfl <| jm rfl rfl <| ja rfl rfl <| ja rfl rfl <| j_nil <| p_thn <| c_ret <| ?_
    refine p_ret0 rfl rfl (.tmp rfl <| .tmp rfl <| .nil) ?_
    unfold fLoose
    rw [if_neg (by omega)]
    rfl
theorem field_lacks (f : Field) (A : Option Addr) (cap : Nat) (hl : f.holds.length ≤ 10000) (i n : Int) (M : Mem) (hS : SlR rHold M A cap f.holds) : Ctr Tryz.prog 71 [.agg (encF f A cap).toArray, vi i, vi n] M [] (fun v _ _ => v = vi (fLacks f i n)) := by
  refine ctr Tryz.func71 rfl Tryz.ntmps71 rfl fun w => ?_
  refine c_seq <| c_region <| jbox rfl rfl rfl fun B1 => ja rfl rfl <| j_nil <| p_thn <| c_seq <| c_region <| jldw 0 rfl rfl rfl (len_F _ _ _) <| jm rfl rfl <| jcallv rfl rfl rfl (field_Loose _ _ _ hl _ _ hS) <| jm rfl rfl <| jext rfl rfl rfl <| jext rfl rfl rfl <| ja rfl rfl <| ja rfl rfl <| j_nil <| p_thn <| c_seq <| c_block <| c_seq <| c_region <| jfa rfl rfl rfl <| jld1 0 rfl rfl rfl rfl <| jneq rfl rfl rfl <| ja rfl rfl <| j_nil <| p_thn <| c_cond rfl (fun hb2 => ?_) (fun hb2 => ?_)
  · have phb2 := hb2; try simp at phb2
    refine c_seq <| c_region <| ja rfl rfl <| j_nil <| p_thn <| c_ret <| p_inb_ret <| p_thn_ret <| ?_
    refine p_ret0 rfl rfl (.tmp rfl <| .nil) ?_
    show vi _ = vi _
    unfold fLacks
    simp [*]
  · have phb2 := hb2; try simp at phb2
    refine c_seq <| c_region <| jm rfl rfl <| jm rfl rfl <| jgtr rfl rfl rfl <| ja rfl rfl <| j_nil <| p_thn <| c_cond rfl (fun hb3 => ?_) (fun hb3 => ?_)
    · have phb3 := hb3; try simp at phb3
      refine c_seq <| c_region <| ja rfl rfl <| j_nil <| p_thn <| c_ret <| p_inb_ret <| p_thn_ret <| ?_
      refine p_ret0 rfl rfl (.tmp rfl <| .nil) ?_
      show vi _ = vi _
      unfold fLacks
      rw [if_neg (by omega), if_pos (by omega)]
    · have phb3 := hb3; try simp at phb3
      refine c_skip <| p_inb <| p_thn <| c_seq <| c_region <| ja rfl rfl <| j_nil <| p_thn <| c_ret <| ?_
      refine p_ret0 rfl rfl (.tmp rfl <| .nil) ?_
      show vi _ = vi _
      unfold fLacks
      rw [if_neg (by omega), if_neg (by omega)]
theorem field_View (f : Field) (A : Option Addr) (cap : Nat) (M : Mem) : Ctr Tryz.prog 28 [.agg (encF f A cap).toArray] M [] (fun v _ _ => v = pr2 (fView f)) := by
  refine ctr Tryz.func28 rfl Tryz.ntmps28 rfl fun w => ?_
  refine c_seq <| c_region <| jbox rfl rfl rfl fun B1 => ja rfl rfl <| ja rfl rfl <| j_nil <| p_thn <| c_seq <| c_seq <| c_region <| jfa rfl rfl rfl <| jld1 0 rfl rfl rfl rfl <| j_nil <| p_thn <| c_block <| c_seq <| c_region <| jeql rfl rfl rfl <| ja rfl rfl <| j_nil <| p_thn <| c_cond rfl (fun hb2 => ?_) (fun hb2 => ?_)
  · have phb2 := hb2; try simp at phb2
    refine c_seq <| c_region <| jfa rfl rfl rfl <| jld 0 rfl rfl rfl (pF_counter _ _ _) (len_counter _) <| jcallv rfl rfl rfl (counter_Value _ _) <| jext rfl rfl rfl <| jext rfl rfl rfl <| ja rfl rfl <| ja rfl rfl <| j_nil <| p_thn <| c_ret <| p_inb_ret <| p_thn_ret <| ?_
    refine p_ret0 rfl rfl (.tmp rfl <| .tmp rfl <| .nil) ?_
    show pr2 (_, _) = _
    unfold fView
    simp [*]
  · have phb2 := hb2; try simp at phb2
    refine c_seq <| c_region <| jeql rfl rfl rfl <| ja rfl rfl <| j_nil <| p_thn <| c_cond rfl (fun hb3 => ?_) (fun hb3 => ?_)
    · have phb3 := hb3; try simp at phb3
      refine c_seq <| c_region <| jfa rfl rfl rfl <| jfa rfl rfl rfl <| jld1 0 rfl rfl rfl (pF_value _ _ _) <| ja rfl rfl <| ja rfl rfl <| j_nil <| p_thn <| c_ret <| p_inb_ret <| p_thn_ret <| ?_
      refine p_ret0 rfl rfl (.tmp rfl <| .tmp rfl <| .nil) ?_
      show pr2 (_, _) = _
      unfold fView
      simp [*]
    · have phb3 := hb3; try simp at phb3
      refine c_skip <| p_inb <| p_thn <| c_seq <| c_region <| ja rfl rfl <| ja rfl rfl <| j_nil <| p_thn <| c_ret <| ?_
      refine p_ret0 rfl rfl (.tmp rfl <| .tmp rfl <| .nil) ?_
      show pr2 (_, _) = _
      unfold fView
      simp [*]
theorem field_Reserve (f : Field) (A : Option Addr) (cap : Nat) (hl : f.holds.length ≤ 10000) (i n d : Int) (M : Mem) (hS : SlR rHold M A cap f.holds) : Ctr Tryz.prog 26 [.agg (encF f A cap).toArray, vi i, vi n, vi d] M [] (fun v M' _ => ∃ A' cap', SlR rHold M' A' cap' (fReserve f i n d).1.holds ∧ v = .tuple #[.agg (encF (fReserve f i n d).1 A' cap').toArray, vi (fReserve f i n d).2.1, vi (fReserve f i n d).2.2]) := by
  refine ctr Tryz.func26 rfl Tryz.ntmps26 rfl fun w => ?_
  refine c_seq <| c_region <| jbox rfl rfl rfl fun B1 => jalloc rfl fun B2 => ja rfl rfl <| ja rfl rfl <| j_nil <| p_thn <| c_seq <| c_seq <| c_region <| jldw 1 rfl rfl rfl (len_F _ _ _) <| jm rfl rfl <| jm rfl rfl <| jcallv rfl rfl rfl (field_lacks _ _ _ hl _ _ _ hS) <| ja rfl rfl <| j_nil <| p_thn <| c_seq <| c_region <| jm rfl rfl <| jneq rfl rfl rfl <| j_nil <| p_thn <| c_cond rfl (fun hb3 => ?_) (fun hb3 => ?_)
  · have phb3 := hb3; try simp at phb3
    refine c_seq <| c_region <| jbu0 rfl <| jm rfl rfl <| jstw 0 rfl rfl rfl rfl (len_F _ _ _) (one_F _ _ _) (len_F _ _ _) <| ja rfl rfl <| ja rfl rfl <| j_nil <| p_thn <| c_ret <| p_thn_ret <| ?_
    refine p_ret0 rfl rfl (.agg 0 inferInstance rfl rfl (len_F _ _ _) <| .tmp rfl <| .tmp rfl <| .nil) ?_
    refine ⟨none, 0, ?_⟩
    have e0 : fReserve f i n d = (fZ, 0, fLacks f i n) := by unfold fReserve; rw [if_pos (by assumption)]
    rw [e0]; exact ⟨SlR.nil, rfl⟩
  · have phb3 := hb3; try simp at phb3
    refine c_skip <| p_thn <| c_seq <| c_region <| jfa rfl rfl rfl <| jld1 1 rfl rfl rfl (pF_holds _ _ _) <| jm rfl rfl <| jm rfl rfl <| jm rfl rfl <| jcalls rfl rfl rfl (hold_Reserve _ _ _ (by omega) _ _ _ _ hS) fun A1c cap1c M1c hM1c hS1c => jm rfl rfl <| jext rfl rfl rfl <| jext rfl rfl rfl <| jext rfl rfl rfl <| ja rfl rfl <| ja rfl rfl <| ja rfl rfl <| j_nil <| p_thn <| c_seq <| c_seq <| c_region <| jm rfl rfl <| jneq rfl rfl rfl <| j_nil <| p_thn <| c_cond rfl (fun hb4 => ?_) (fun hb4 => ?_)
    · have phb4 := hb4; try simp at phb4
      refine c_seq <| c_region <| jbu0 rfl <| jm rfl rfl <| jstw 0 rfl rfl rfl rfl (len_F _ _ _) (one_F _ _ _) (len_F _ _ _) <| ja rfl rfl <| ja rfl rfl <| j_nil <| p_thn <| c_ret <| p_thn_ret <| ?_
      refine p_ret0 rfl rfl (.agg 0 inferInstance rfl rfl (len_F _ _ _) <| .tmp rfl <| .tmp rfl <| .nil) ?_
      refine ⟨none, 0, ?_⟩
      have e0 : fReserve f i n d = (fZ, 0, (hReserve f.holds i n d).2.2) := by unfold fReserve; rw [if_neg (by omega), if_pos (by assumption)]
      rw [e0]; exact ⟨SlR.nil, rfl⟩
    · have phb4 := hb4; try simp at phb4
      refine c_skip <| p_thn <| c_seq <| c_region <| jm rfl rfl <| jfa rfl rfl rfl <| jst 1 rfl rfl rfl rfl rfl rfl (by rw [len_F]; exact Nat.le_of_ble_eq_true rfl) (uF_holds _ _ _ _ _ _) <| j_nil <| p_thn <| c_seq <| c_region <| jldw 1 rfl rfl rfl (len_F _ _ _) <| jm rfl rfl <| jstw 0 rfl rfl rfl rfl (len_F _ _ _) (one_F _ _ _) (len_F _ _ _) <| ja rfl rfl <| ja rfl rfl <| j_nil <| p_thn <| c_ret <| ?_
      refine p_ret0 rfl rfl (.agg 0 inferInstance rfl rfl (len_F _ _ _) <| .tmp rfl <| .tmp rfl <| .nil) ?_
      refine ⟨A1c, cap1c, ?_⟩
      have e0 : fReserve f i n d = ({ f with holds := (hReserve f.holds i n d).1 }, (hReserve f.holds i n d).2.1, 0) := by unfold fReserve; rw [if_neg (by omega), if_neg (by omega)]
      rw [e0]; exact ⟨hS1c, rfl⟩
theorem hEnd_len (hs : List Hold) (i n s : Int) : (hEnd hs i n s).1.length ≤ hs.length := by
  unfold hEnd
  split
  · split
    · simp
    · split <;> simp
  · simp
theorem hExpire_len (hs : List Hold) (i d : Int) : (hExpire hs i d).1.length = hs.length := by
  unfold hExpire; split <;> simp
theorem hJoin_len (hs bs : List Hold) : (hJoin hs bs).1.length ≤ 16 := by
  unfold hJoin
  split
  · split
    · simp
    · split
      · simp
      · rw [hSort_len]; omega
  · simp
def fChanged (f : Field) (c : Counter) (e : Int) : Field × Int := fDone { f with counter := c } e
def fAdd (f : Field) (i n : Int) : Field × Int :=
  if 0 ≤ n then (if f.kind ≠ 1 then (fZ, 17) else fChanged f (cInc f.counter i n).1 (cInc f.counter i n).2)
  else if f.kind = 1 ∧ isN n = false then (fZ, 8)
  else if fLacks f i (ng n) ≠ 0 then (fZ, fLacks f i (ng n))
  else fChanged f (cDec f.counter i (ng n)).1 (cDec f.counter i (ng n)).2
def fHand (f : Field) (i k m n : Int) : Field × Int :=
  if fLacks f i m ≠ 0 then (fZ, fLacks f i m) else fChanged f (cHand f.counter i k m n).1 (cHand f.counter i k m n).2
def fExpire (f : Field) (i d : Int) : Field × Int := if f.kind = 1 then ({ f with holds := (hExpire f.holds i d).1 }, (hExpire f.holds i d).2) else (f, 0)
attribute [local irreducible] fLacks fDone

theorem field_End (f : Field) (A : Option Addr) (cap : Nat) (hl : f.holds.length ≤ 10000) (i n s : Int) (M : Mem) (hS : SlR rHold M A cap f.holds) : Ctr Tryz.prog 27 [.agg (encF f A cap).toArray, vi i, vi n, vi s] M [] (fun v M' _ => FV M' v (fEnd f i n s)) := by
  refine ctr Tryz.func27 rfl Tryz.ntmps27 rfl fun w => ?_
  refine c_seq <| c_region <| jbox rfl rfl rfl fun B1 => jalloc rfl fun B2 => ja rfl rfl <| j_nil <| p_thn <| c_seq <| c_seq <| c_region <| jfa rfl rfl rfl <| jld1 1 rfl rfl rfl rfl <| jneq rfl rfl rfl <| j_nil <| p_thn <| c_cond rfl (fun hb3 => ?_) (fun hb3 => ?_)
  · have phb3 := hb3; try simp at phb3
    refine c_seq <| c_region <| jbu0 rfl <| jstw 0 rfl rfl rfl rfl (len_F _ _ _) (one_F _ _ _) (len_F _ _ _) <| ja rfl rfl <| j_nil <| p_thn <| c_ret <| p_thn_ret <| ?_
    refine p_ret0 rfl rfl (.agg 0 inferInstance rfl rfl (len_F _ _ _) <| .tmp rfl <| .nil) ?_
    unfold fEnd
    rw [if_pos phb3]
    exact ⟨none, 0, SlR.nil, rfl⟩
  · have phb3 := hb3; try simp at phb3
    refine c_skip <| p_thn <| c_seq <| c_region <| jfa rfl rfl rfl <| jld1 1 rfl rfl rfl (pF_holds _ _ _) <| jm rfl rfl <| jm rfl rfl <| jm rfl rfl <| jcalls rfl rfl rfl (hold_End _ _ _ (by omega) _ _ _ _ hS) fun A1c cap1c M1c hM1c hS1c => jm rfl rfl <| jext rfl rfl rfl <| jext rfl rfl rfl <| jext rfl rfl rfl <| ja rfl rfl <| ja rfl rfl <| ja rfl rfl <| j_nil <| p_thn <| c_seq <| c_seq <| c_region <| jm rfl rfl <| jeql rfl rfl rfl <| jm rfl rfl <| jgs rfl rfl (fun hb4 => ?_) (fun hb4 => ?_)
    · have phb4 := hb4; try simp at phb4
      refine jg rfl rfl hb4 <| jm rfl rfl <| jg rfl rfl hb4 <| jeql rfl rfl rfl <| jpick_t rfl rfl hb4 rfl <| j_nil <| p_thn <| c_cond rfl (fun hb5 => ?_) (fun hb5 => ?_)
      · have phb5 := hb5; try simp at phb5
        refine c_region <| jfa rfl rfl rfl <| jld 1 rfl rfl rfl (pF_counter _ _ _) (len_counter _) <| jm rfl rfl <| jm rfl rfl <| jcallv rfl rfl rfl (counter_Dec _ _ _ _) <| jm rfl rfl <| jext rfl rfl rfl <| jext rfl rfl rfl <| jfa rfl rfl rfl <| jst 1 rfl rfl rfl rfl (len_counter _) (one_counter _) (by rw [len_F]; exact Nat.le_of_ble_eq_true rfl) (uF_counter _ _ _ _) <| ja rfl rfl <| j_nil <| p_thn <| c_seq <| c_region <| jm rfl rfl <| jfa rfl rfl rfl <| jst 1 rfl rfl rfl rfl rfl rfl (by rw [len_F]; exact Nat.le_of_ble_eq_true rfl) (uF_holds _ _ _ _ _ _) <| j_nil <| p_thn <| c_seq <| c_region <| jldw 1 rfl rfl rfl (len_F _ _ _) <| jm rfl rfl <| jcalls rfl rfl rfl (field_done _ _ _ (by first | exact hl | exact Nat.le_trans (hEnd_len _ _ _ _) hl) _ _ (by first | exact hS1c | exact hS)) fun A2c cap2c M2c hM2c hS2c => jext rfl rfl rfl <| jext rfl rfl rfl <| jstw 0 rfl rfl rfl rfl (len_F _ _ _) (one_F _ _ _) (len_F _ _ _) <| ja rfl rfl <| j_nil <| p_thn <| c_ret <| ?_
        refine p_ret0 rfl rfl (.agg 0 inferInstance rfl rfl (len_F _ _ _) <| .tmp rfl <| .nil) ?_
        unfold fEnd
        rw [if_neg (by omega), if_pos (by omega)]
        exact ⟨A2c, cap2c, hS2c, rfl⟩
      · have phb5 := hb5; try simp at phb5
        refine c_skip <| p_thn <| c_seq <| c_region <| jm rfl rfl <| jfa rfl rfl rfl <| jst 1 rfl rfl rfl rfl rfl rfl (by rw [len_F]; exact Nat.le_of_ble_eq_true rfl) (uF_holds _ _ _ _ _ _) <| j_nil <| p_thn <| c_seq <| c_region <| jldw 1 rfl rfl rfl (len_F _ _ _) <| jm rfl rfl <| jcalls rfl rfl rfl (field_done _ _ _ (by first | exact hl | exact Nat.le_trans (hEnd_len _ _ _ _) hl) _ _ (by first | exact hS1c | exact hS)) fun A3c cap3c M3c hM3c hS3c => jext rfl rfl rfl <| jext rfl rfl rfl <| jstw 0 rfl rfl rfl rfl (len_F _ _ _) (one_F _ _ _) (len_F _ _ _) <| ja rfl rfl <| j_nil <| p_thn <| c_ret <| ?_
        refine p_ret0 rfl rfl (.agg 0 inferInstance rfl rfl (len_F _ _ _) <| .tmp rfl <| .nil) ?_
        unfold fEnd
        rw [if_neg (by omega), if_neg (by omega)]
        exact ⟨A3c, cap3c, hS3c, rfl⟩
    · have phb4 := hb4; try simp at phb4
      refine jg_off rfl rfl rfl hb4 <| jg_off rfl rfl rfl hb4 <| jpick_f rfl rfl hb4 rfl <| j_nil <| p_thn <| c_cond_kf rfl rfl <| c_skip <| p_thn <| c_seq <| c_region <| jm rfl rfl <| jfa rfl rfl rfl <| jst 1 rfl rfl rfl rfl rfl rfl (by rw [len_F]; exact Nat.le_of_ble_eq_true rfl) (uF_holds _ _ _ _ _ _) <| j_nil <| p_thn <| c_seq <| c_region <| jldw 1 rfl rfl rfl (len_F _ _ _) <| jm rfl rfl <| jcalls rfl rfl rfl (field_done _ _ _ (by first | exact hl | exact Nat.le_trans (hEnd_len _ _ _ _) hl) _ _ (by first | exact hS1c | exact hS)) fun A4c cap4c M4c hM4c hS4c => jext rfl rfl rfl <| jext rfl rfl rfl <| jstw 0 rfl rfl rfl rfl (len_F _ _ _) (one_F _ _ _) (len_F _ _ _) <| ja rfl rfl <| j_nil <| p_thn <| c_ret <| ?_
      refine p_ret0 rfl rfl (.agg 0 inferInstance rfl rfl (len_F _ _ _) <| .tmp rfl <| .nil) ?_
      unfold fEnd
      rw [if_neg (by omega), if_neg (by omega)]
      exact ⟨A4c, cap4c, hS4c, rfl⟩
theorem field_changed (f : Field) (A : Option Addr) (cap : Nat) (hl : f.holds.length ≤ 10000) (c : Counter) (e : Int) (M : Mem) (hS : SlR rHold M A cap f.holds) : Ctr Tryz.prog 103 [.agg (encF f A cap).toArray, .agg (encCounter c).toArray, vi e] M [] (fun v M' _ => FV M' v (fChanged f c e)) := by
  refine ctr Tryz.func103 rfl Tryz.ntmps103 rfl fun w => ?_
  refine c_seq <| c_region <| jbox rfl rfl rfl fun B1 => jbox rfl rfl rfl fun B2 => jalloc rfl fun B3 => ja rfl rfl <| j_nil <| p_thn <| c_seq <| c_region <| jldw 1 rfl rfl rfl (len_counter _) <| jfa rfl rfl rfl <| jst 2 rfl rfl rfl rfl (len_counter _) (one_counter _) (by rw [len_F]; exact Nat.le_of_ble_eq_true rfl) (uF_counter _ _ _ _) <| j_nil <| p_thn <| c_seq <| c_region <| jldw 2 rfl rfl rfl (len_F _ _ _) <| jm rfl rfl <| jcalls rfl rfl rfl (field_done { f with counter := c } _ _ hl _ _ hS) fun A1c cap1c M1c hM1c hS1c => jext rfl rfl rfl <| jext rfl rfl rfl <| jstw 0 rfl rfl rfl rfl (len_F _ _ _) (one_F _ _ _) (len_F _ _ _) <| ja rfl rfl <| j_nil <| p_thn <| c_ret <| ?_
  refine p_ret0 rfl rfl (.agg 0 inferInstance rfl rfl (len_F _ _ _) <| .tmp rfl <| .nil) ?_
  exact ⟨A1c, cap1c, hS1c, rfl⟩
theorem field_Add (f : Field) (A : Option Addr) (cap : Nat) (hl : f.holds.length ≤ 10000) (i n : Int) (M : Mem) (hS : SlR rHold M A cap f.holds) : Ctr Tryz.prog 63 [.agg (encF f A cap).toArray, vi i, vi n] M [] (fun v M' _ => FV M' v (fAdd f i n)) := by
  refine ctr Tryz.func63 rfl Tryz.ntmps63 rfl fun w => ?_
  refine c_seq <| c_region <| jbox rfl rfl rfl fun B1 => jalloc rfl fun B2 => ja rfl rfl <| j_nil <| p_thn <| c_seq <| c_seq <| c_region <| jm rfl rfl <| jgeq rfl rfl rfl <| j_nil <| p_thn <| c_cond rfl (fun hb3 => ?_) (fun hb3 => ?_)
  · have phb3 := hb3; try simp at phb3
    refine c_seq <| c_seq <| c_region <| jfa rfl rfl rfl <| jld1 1 rfl rfl rfl rfl <| jneq rfl rfl rfl <| j_nil <| p_thn <| c_cond rfl (fun hb4 => ?_) (fun hb4 => ?_)
    · have phb4 := hb4; try simp at phb4
      refine c_seq <| c_region <| jbu0 rfl <| jstw 0 rfl rfl rfl rfl (len_F _ _ _) (one_F _ _ _) (len_F _ _ _) <| ja rfl rfl <| j_nil <| p_thn <| c_ret <| p_thn_ret <| p_thn_ret <| ?_
      refine p_ret0 rfl rfl (.agg 0 inferInstance rfl rfl (len_F _ _ _) <| .tmp rfl <| .nil) ?_
      unfold fAdd
      rw [if_pos (by omega), if_pos (by omega)]
      exact ⟨none, 0, SlR.nil, rfl⟩
    · have phb4 := hb4; try simp at phb4
      refine c_skip <| p_thn <| c_seq <| c_region <| jfa rfl rfl rfl <| jld 1 rfl rfl rfl (pF_counter _ _ _) (len_counter _) <| jm rfl rfl <| jm rfl rfl <| jcallv rfl rfl rfl (counter_Inc _ _ _ _) <| jm rfl rfl <| jext rfl rfl rfl <| jext rfl rfl rfl <| jalloc rfl fun B5 => jstw 0 rfl rfl rfl rfl (len_counter _) (one_counter _) (len_counter _) <| ja rfl rfl <| j_nil <| p_thn <| c_seq <| c_region <| jldw 2 rfl rfl rfl (len_F _ _ _) <| jldw 0 rfl rfl rfl (len_counter _) <| jm rfl rfl <| jcalls rfl rfl rfl (field_changed _ _ _ hl _ _ _ hS) fun A1c cap1c M1c hM1c hS1c => jext rfl rfl rfl <| jext rfl rfl rfl <| jstw 1 rfl rfl rfl rfl (len_F _ _ _) (one_F _ _ _) (len_F _ _ _) <| ja rfl rfl <| j_nil <| p_thn <| c_ret <| p_thn_ret <| ?_
      refine p_ret0 rfl rfl (.agg 1 inferInstance rfl rfl (len_F _ _ _) <| .tmp rfl <| .nil) ?_
      unfold fAdd
      rw [if_pos (by omega), if_neg (by omega)]
      exact ⟨A1c, cap1c, hS1c, rfl⟩
  · have phb3 := hb3; try simp at phb3
    refine c_skip <| p_thn <| c_seq <| c_seq <| c_region <| jfa rfl rfl rfl <| jld1 1 rfl rfl rfl rfl <| jeql rfl rfl rfl <| jm rfl rfl <| jgs rfl rfl (fun hb6 => ?_) (fun hb6 => ?_)
    · have phb6 := hb6; try simp at phb6
      refine jg rfl rfl hb6 <| jm rfl rfl <| jg rfl rfl hb6 <| jcallv rfl rfl rfl (num_Is _ _) <| jg rfl rfl hb6 <| jnot rfl rfl <| jpick_t rfl rfl hb6 rfl <| j_nil <| p_thn <| c_cond rfl (fun hb7 => ?_) (fun hb7 => ?_)
      · have phb7 := hb7; try simp at phb7
        refine c_seq <| c_region <| jbu0 rfl <| jstw 0 rfl rfl rfl rfl (len_F _ _ _) (one_F _ _ _) (len_F _ _ _) <| ja rfl rfl <| j_nil <| p_thn <| c_ret <| p_thn_ret <| ?_
        refine p_ret0 rfl rfl (.agg 0 inferInstance rfl rfl (len_F _ _ _) <| .tmp rfl <| .nil) ?_
        unfold fAdd
        rw [if_neg (by omega), if_pos (by simp [*])]
        exact ⟨none, 0, SlR.nil, rfl⟩
      · have phb7 := hb7; try simp at phb7
        refine c_skip <| p_thn <| c_seq <| c_seq <| c_region <| jldw 1 rfl rfl rfl (len_F _ _ _) <| jm rfl rfl <| jm rfl rfl <| jneg rfl rfl (by first | exact wr (by omega) (by omega) | rfl) <| jcallv rfl rfl rfl (field_lacks _ _ _ hl _ _ _ hS) <| ja rfl rfl <| j_nil <| p_thn <| c_seq <| c_region <| jm rfl rfl <| jneq rfl rfl rfl <| j_nil <| p_thn <| c_cond rfl (fun hb8 => ?_) (fun hb8 => ?_)
        · have phb8 := hb8; try simp at phb8
          refine c_seq <| c_region <| jbu0 rfl <| jm rfl rfl <| jstw 0 rfl rfl rfl rfl (len_F _ _ _) (one_F _ _ _) (len_F _ _ _) <| ja rfl rfl <| j_nil <| p_thn <| c_ret <| p_thn_ret <| ?_
          refine p_ret0 rfl rfl (.agg 0 inferInstance rfl rfl (len_F _ _ _) <| .tmp rfl <| .nil) ?_
          unfold fAdd
          rw [if_neg (by omega), if_neg (by simp [*]), if_pos (by assumption)]
          exact ⟨none, 0, SlR.nil, rfl⟩
        · have phb8 := hb8; try simp at phb8
          refine c_skip <| p_thn <| c_seq <| c_region <| jfa rfl rfl rfl <| jld 1 rfl rfl rfl (pF_counter _ _ _) (len_counter _) <| jm rfl rfl <| jm rfl rfl <| jneg rfl rfl (by first | exact wr (by omega) (by omega) | rfl) <| jcallv rfl rfl rfl (counter_Dec _ _ _ _) <| jm rfl rfl <| jext rfl rfl rfl <| jext rfl rfl rfl <| jalloc rfl fun B9 => jstw 0 rfl rfl rfl rfl (len_counter _) (one_counter _) (len_counter _) <| ja rfl rfl <| j_nil <| p_thn <| c_seq <| c_region <| jldw 2 rfl rfl rfl (len_F _ _ _) <| jldw 0 rfl rfl rfl (len_counter _) <| jm rfl rfl <| jcalls rfl rfl rfl (field_changed _ _ _ hl _ _ _ hS) fun A2c cap2c M2c hM2c hS2c => jext rfl rfl rfl <| jext rfl rfl rfl <| jstw 1 rfl rfl rfl rfl (len_F _ _ _) (one_F _ _ _) (len_F _ _ _) <| ja rfl rfl <| j_nil <| p_thn <| c_ret <| ?_
          refine p_ret0 rfl rfl (.agg 1 inferInstance rfl rfl (len_F _ _ _) <| .tmp rfl <| .nil) ?_
          unfold fAdd
          rw [if_neg (by omega), if_neg (by simp [*]), if_neg (fun h => h (by assumption))]
          exact ⟨A2c, cap2c, hS2c, rfl⟩
    · have phb6 := hb6; try simp at phb6
      refine jg_off rfl rfl rfl hb6 <| jg_off rfl rfl rfl hb6 <| jg_off rfl rfl rfl hb6 <| jpick_f rfl rfl hb6 rfl <| j_nil <| p_thn <| c_cond_kf rfl rfl <| c_skip <| p_thn <| c_seq <| c_seq <| c_region <| jldw 1 rfl rfl rfl (len_F _ _ _) <| jm rfl rfl <| jm rfl rfl <| jneg rfl rfl (by first | exact wr (by omega) (by omega) | rfl) <| jcallv rfl rfl rfl (field_lacks _ _ _ hl _ _ _ hS) <| ja rfl rfl <| j_nil <| p_thn <| c_seq <| c_region <| jm rfl rfl <| jneq rfl rfl rfl <| j_nil <| p_thn <| c_cond rfl (fun hb10 => ?_) (fun hb10 => ?_)
      · have phb10 := hb10; try simp at phb10
        refine c_seq <| c_region <| jbu0 rfl <| jm rfl rfl <| jstw 0 rfl rfl rfl rfl (len_F _ _ _) (one_F _ _ _) (len_F _ _ _) <| ja rfl rfl <| j_nil <| p_thn <| c_ret <| p_thn_ret <| ?_
        refine p_ret0 rfl rfl (.agg 0 inferInstance rfl rfl (len_F _ _ _) <| .tmp rfl <| .nil) ?_
        unfold fAdd
        rw [if_neg (by omega), if_neg (by simp [*]), if_pos (by assumption)]
        exact ⟨none, 0, SlR.nil, rfl⟩
      · have phb10 := hb10; try simp at phb10
        refine c_skip <| p_thn <| c_seq <| c_region <| jfa rfl rfl rfl <| jld 1 rfl rfl rfl (pF_counter _ _ _) (len_counter _) <| jm rfl rfl <| jm rfl rfl <| jneg rfl rfl (by first | exact wr (by omega) (by omega) | rfl) <| jcallv rfl rfl rfl (counter_Dec _ _ _ _) <| jm rfl rfl <| jext rfl rfl rfl <| jext rfl rfl rfl <| jalloc rfl fun B11 => jstw 0 rfl rfl rfl rfl (len_counter _) (one_counter _) (len_counter _) <| ja rfl rfl <| j_nil <| p_thn <| c_seq <| c_region <| jldw 2 rfl rfl rfl (len_F _ _ _) <| jldw 0 rfl rfl rfl (len_counter _) <| jm rfl rfl <| jcalls rfl rfl rfl (field_changed _ _ _ hl _ _ _ hS) fun A3c cap3c M3c hM3c hS3c => jext rfl rfl rfl <| jext rfl rfl rfl <| jstw 1 rfl rfl rfl rfl (len_F _ _ _) (one_F _ _ _) (len_F _ _ _) <| ja rfl rfl <| j_nil <| p_thn <| c_ret <| ?_
        refine p_ret0 rfl rfl (.agg 1 inferInstance rfl rfl (len_F _ _ _) <| .tmp rfl <| .nil) ?_
        unfold fAdd
        rw [if_neg (by omega), if_neg (by simp [*]), if_neg (fun h => h (by assumption))]
        exact ⟨A3c, cap3c, hS3c, rfl⟩
theorem field_Hand (f : Field) (A : Option Addr) (cap : Nat) (hl : f.holds.length ≤ 10000) (i k m n : Int) (M : Mem) (hS : SlR rHold M A cap f.holds) : Ctr Tryz.prog 65 [.agg (encF f A cap).toArray, vi i, vi k, vi m, vi n] M [] (fun v M' _ => FV M' v (fHand f i k m n)) := by
  refine ctr Tryz.func65 rfl Tryz.ntmps65 rfl fun w => ?_
  refine c_seq <| c_region <| jbox rfl rfl rfl fun B1 => jalloc rfl fun B2 => ja rfl rfl <| j_nil <| p_thn <| c_seq <| c_seq <| c_region <| jldw 1 rfl rfl rfl (len_F _ _ _) <| jm rfl rfl <| jm rfl rfl <| jcallv rfl rfl rfl (field_lacks _ _ _ hl _ _ _ hS) <| ja rfl rfl <| j_nil <| p_thn <| c_seq <| c_region <| jm rfl rfl <| jneq rfl rfl rfl <| j_nil <| p_thn <| c_cond rfl (fun hb3 => ?_) (fun hb3 => ?_)
  · have phb3 := hb3; try simp at phb3
    refine c_seq <| c_region <| jbu0 rfl <| jm rfl rfl <| jstw 0 rfl rfl rfl rfl (len_F _ _ _) (one_F _ _ _) (len_F _ _ _) <| ja rfl rfl <| j_nil <| p_thn <| c_ret <| p_thn_ret <| ?_
    refine p_ret0 rfl rfl (.agg 0 inferInstance rfl rfl (len_F _ _ _) <| .tmp rfl <| .nil) ?_
    unfold fHand
    rw [if_pos (by assumption)]
    exact ⟨none, 0, SlR.nil, rfl⟩
  · have phb3 := hb3; try simp at phb3
    refine c_skip <| p_thn <| c_seq <| c_region <| jfa rfl rfl rfl <| jld 1 rfl rfl rfl (pF_counter _ _ _) (len_counter _) <| jm rfl rfl <| jm rfl rfl <| jm rfl rfl <| jm rfl rfl <| jcallv rfl rfl rfl (counter_Hand _ _ _ _ _ _) <| jm rfl rfl <| jext rfl rfl rfl <| jext rfl rfl rfl <| jalloc rfl fun B4 => jstw 0 rfl rfl rfl rfl (len_counter _) (one_counter _) (len_counter _) <| ja rfl rfl <| j_nil <| p_thn <| c_seq <| c_region <| jldw 2 rfl rfl rfl (len_F _ _ _) <| jldw 0 rfl rfl rfl (len_counter _) <| jm rfl rfl <| jcalls rfl rfl rfl (field_changed _ _ _ hl _ _ _ hS) fun A1c cap1c M1c hM1c hS1c => jext rfl rfl rfl <| jext rfl rfl rfl <| jstw 1 rfl rfl rfl rfl (len_F _ _ _) (one_F _ _ _) (len_F _ _ _) <| ja rfl rfl <| j_nil <| p_thn <| c_ret <| ?_
    refine p_ret0 rfl rfl (.agg 1 inferInstance rfl rfl (len_F _ _ _) <| .tmp rfl <| .nil) ?_
    unfold fHand
    rw [if_neg (by omega)]
    exact ⟨A1c, cap1c, hS1c, rfl⟩
end Go.Proofs.YtihgpbpcbbgdiaaGreat
