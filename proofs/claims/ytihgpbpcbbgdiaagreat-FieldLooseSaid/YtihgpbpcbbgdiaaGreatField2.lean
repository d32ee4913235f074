/- What more functions of package field tell: Expire, Write, Pass, Join. -/
import Derived.Test.YtihgpbpcbbgdiaaGreatField
namespace Go.Proofs.YtihgpbpcbbgdiaaGreat
open Go.RowKit
set_option linter.unusedVariables false
set_option linter.unusedSimpArgs false
attribute [local irreducible] hRights hNum hSort hReserve hEnd hExpire hJoin hSum lJoin fLacks fDone
section
variable {cx : Cx} {Q : Post} {E : Env} {M : Mem} {L : List Ent} {ops : Array Oper} {d T : Nat} {pos : String} {af : Array Edge} {rest : List Oper} {x y z : Operand} {v u : Value}
/-- a call that is lent blocks, and hands a slice that is known then -/
theorem jcallsd {f : FuncId} {args tys : Array _} {fi ca vs : List Value} {Lb Lr : List Ent} {p : Option Addr → Nat → Mem → Prop} {r : Option Addr → Nat → Value} [FnI cx.P f] (hn : Nat.blt d cx.n = true)
    (hx : ev E x = some (.func (.func f) fi.toArray ca.toArray)) (ha : evL E args.toList = some vs) (hL : Ap Lb Lr L) (hc : Ctr cx.P f (fi ++ vs ++ ca) M Lb (fun v M' _ => ∃ A cap, p A cap M' ∧ v = r A cap))
    (hk : ∀ A cap M', MLe M M' → p A cap M' → J cx ops Q rest ((d, r A cap) :: E) M' Lr) : J cx ops Q (⟨some d, .call ⟨.value x, args, tys⟩, T, pos, af, none⟩ :: rest) E M L :=
  jcall (Lb := Lb) (Lr := Lr) hn hx ha hL.symm hc (fun v M' L' hm h => by
    obtain ⟨A, cap, hp, rfl⟩ := h
    intro a w hs ho
    exact hk A cap M' hm hp a w hs ho.drop)
end
def fLocked (f : Field) (p : Lock → Lock × Int) : Field × Int := if f.kind ≠ 2 then (fZ, 17) else fDone { f with lock := (p f.lock).1 } (p f.lock).2
def fJoin (f g : Field) : Field × Int :=
  if f.name ≠ g.name ∨ f.kind ≠ g.kind ∨ f.epoch ≠ g.epoch then (fZ, 1) else
  if (cJoin f.counter g.counter).2 ≠ 0 then (fZ, (cJoin f.counter g.counter).2) else
  if (hJoin f.holds g.holds).2 ≠ 0 then (fZ, (hJoin f.holds g.holds).2) else
  ({ f with counter := (cJoin f.counter g.counter).1, lock := lJoin f.lock g.lock, holds := (hJoin f.holds g.holds).1 }, 0)

theorem field_Expire (f : Field) (A : Option Addr) (cap : Nat) (hl : f.holds.length ≤ 10000) (i d : Int) (M : Mem) (hS : SlR rHold M A cap f.holds) : Ctr Tryz.prog 66 [.agg (encF f A cap).toArray, vi i, vi d] M [] (fun v M' _ => FV M' v (fExpire f i d)) := by
  refine ctr Tryz.func66 rfl Tryz.ntmps66 rfl fun w => ?_
  refine c_seq <| c_region <| jbox rfl rfl rfl fun B1 => jalloc rfl fun B2 => ja rfl rfl <| j_nil <| p_thn <| c_seq <| c_region <| ja rfl rfl <| j_nil <| p_thn <| c_seq <| c_seq <| c_region <| jfa rfl rfl rfl <| jld1 1 rfl rfl rfl rfl <| jeql rfl rfl rfl <| j_nil <| p_thn <| c_cond rfl (fun hb3 => ?_) (fun hb3 => ?_)
  · have phb3 := hb3; try simp at phb3
    refine c_region <| jfa rfl rfl rfl <| jld1 1 rfl rfl rfl (pF_holds _ _ _) <| jm rfl rfl <| jm rfl rfl <| jcalls rfl rfl rfl (hold_Expire _ _ _ (by omega) _ _ _ hS) fun A1c cap1c M1c hM1c hS1c => jm rfl rfl <| jext rfl rfl rfl <| jext rfl rfl rfl <| jfa rfl rfl rfl <| jst 1 rfl rfl rfl rfl rfl rfl (by rw [len_F]; exact Nat.le_of_ble_eq_true rfl) (uF_holds _ _ _ _ _ _) <| ja rfl rfl <| j_nil <| p_thn <| c_seq <| c_region <| jldw 1 rfl rfl rfl (len_F _ _ _) <| jm rfl rfl <| jstw 0 rfl rfl rfl rfl (len_F _ _ _) (one_F _ _ _) (len_F _ _ _) <| ja rfl rfl <| j_nil <| p_thn <| c_ret <| ?_
    refine p_ret0 rfl rfl (.agg 0 inferInstance rfl rfl (len_F _ _ _) <| .tmp rfl <| .nil) ?_
    unfold fExpire
    rw [if_pos phb3]
    exact ⟨A1c, cap1c, hS1c, rfl⟩
  · have phb3 := hb3; try simp at phb3
    refine c_region <| jfa rfl rfl rfl <| jld1 1 rfl rfl rfl (pF_holds _ _ _) <| jcallr rfl rfl rfl (ap_0) (clone_Hold _ _ _ (by omega) _ hS) (fun _ => (ap_s <| ap_0)) fun vc => j_freeze fun M1z hM1z hz1 => ?_
    obtain ⟨A1z, cap1z, rfl, hS1z⟩ := frz (r := rHold) (xs := f.holds) hz1 (Rows.flat (fun _ => rfl) _) rfl
    refine jfa rfl rfl rfl <| jst 1 rfl rfl rfl rfl rfl rfl (by rw [len_F]; exact Nat.le_of_ble_eq_true rfl) (uF_holds _ _ _ _ _ _) <| j_nil <| p_thn <| c_seq <| c_region <| jldw 1 rfl rfl rfl (len_F _ _ _) <| jm rfl rfl <| jstw 0 rfl rfl rfl rfl (len_F _ _ _) (one_F _ _ _) (len_F _ _ _) <| ja rfl rfl <| j_nil <| p_thn <| c_ret <| ?_
    refine p_ret0 rfl rfl (.agg 0 inferInstance rfl rfl (len_F _ _ _) <| .tmp rfl <| .nil) ?_
    unfold fExpire
    rw [if_neg phb3]
    exact ⟨A1z, cap1z, hS1z, rfl⟩
theorem field_locked {g : Nat} {ca : List Value} [FnI Tryz.prog g] {Lt : List Ent} (f : Field) (A : Option Addr) (cap : Nat) (hl : f.holds.length ≤ 10000) (p : Lock → Lock × Int) (M : Mem) (hS : SlR rHold M A cap f.holds) (hp : ∀ l, Ctr Tryz.prog g ([.agg (encLock l).toArray] ++ ca) M Lt (fun v _ L' => v = pL (p l) ∧ L' = Lt)) : Ctr Tryz.prog 110 [.agg (encF f A cap).toArray, .func (.func g) #[] ca.toArray] M Lt (fun v M' _ => FV M' v (fLocked f p)) := by
  refine ctr Tryz.func110 rfl Tryz.ntmps110 rfl fun w => ?_
  refine c_seq <| c_region <| jbox rfl rfl rfl fun B1 => jalloc rfl fun B2 => ja rfl rfl <| j_nil <| p_thn <| c_seq <| c_seq <| c_region <| jfa rfl rfl rfl <| jld1 1 rfl rfl rfl rfl <| jneq rfl rfl rfl <| j_nil <| p_thn <| c_cond rfl (fun hb3 => ?_) (fun hb3 => ?_)
  · have phb3 := hb3; try simp at phb3
    refine c_seq <| c_region <| jbu0 rfl <| jstw 0 rfl rfl rfl rfl (len_F _ _ _) (one_F _ _ _) (len_F _ _ _) <| ja rfl rfl <| j_nil <| p_thn <| c_ret <| p_thn_ret <| ?_
    refine p_ret0 rfl rfl (.agg 0 inferInstance rfl rfl (len_F _ _ _) <| .tmp rfl <| .nil) ?_
    unfold fLocked
    rw [if_pos phb3]
    exact ⟨none, 0, SlR.nil, rfl⟩
  · have phb3 := hb3; try simp at phb3
    refine c_skip <| p_thn <| c_seq <| c_region <| jm rfl rfl <| jfa rfl rfl rfl <| jld 1 rfl rfl rfl (pF_lock _ _ _) (len_lock _) <| jcallo rfl rfl rfl (ap_s <| ap_s <| ap_0) (hp _) (ap_s <| ap_s <| ap_0) <| jm rfl rfl <| jext rfl rfl rfl <| jext rfl rfl rfl <| jalloc rfl fun B4 => jstw 0 rfl rfl rfl rfl (len_lock _) (one_lock _) (len_lock _) <| ja rfl rfl <| j_nil <| p_thn <| c_seq <| c_region <| jldw 0 rfl rfl rfl (len_lock _) <| jfa rfl rfl rfl <| jst 2 rfl rfl rfl rfl (len_lock _) (one_lock _) (by rw [len_F]; exact Nat.le_of_ble_eq_true rfl) (uF_lock _ _ _ _) <| j_nil <| p_thn <| c_seq <| c_region <| jldw 2 rfl rfl rfl (len_F _ _ _) <| jm rfl rfl <| jcalls rfl rfl rfl (field_done { f with lock := (p f.lock).1 } _ _ hl _ _ hS) fun A1c cap1c M1c hM1c hS1c => jext rfl rfl rfl <| jext rfl rfl rfl <| jstw 1 rfl rfl rfl rfl (len_F _ _ _) (one_F _ _ _) (len_F _ _ _) <| ja rfl rfl <| j_nil <| p_thn <| c_ret <| ?_
    refine p_ret0 rfl rfl (.agg 1 inferInstance rfl rfl (len_F _ _ _) <| .tmp rfl <| .nil) ?_
    unfold fLocked
    rw [if_neg (by omega)]
    exact ⟨A1c, cap1c, hS1c, rfl⟩
theorem field_Write1 (l : Lock) (i n : Int) {X1 X2 : Nat} (M : Mem) : Ctr Tryz.prog 111 [.agg (encLock l).toArray, .pointer (some ⟨X1, 0, none⟩), .pointer (some ⟨X2, 0, none⟩)] M [.blk X1 3 [vi i], .blk X2 3 [vi n]] (fun v _ L' => v = pL (lWrite l i n) ∧ L' = [.blk X1 3 [vi i], .blk X2 3 [vi n]]) := by
  refine ctr Tryz.func111 rfl Tryz.ntmps111 rfl fun w => ?_
  refine c_seq <| c_region <| jbox rfl rfl rfl fun B1 => jalloc rfl fun B2 => ja rfl rfl <| j_nil <| p_thn <| c_seq <| c_region <| jldw 1 rfl rfl rfl (len_lock _) <| jld1 2 rfl rfl rfl rfl <| jld1 3 rfl rfl rfl rfl <| jcallv rfl rfl rfl (lock_Write _ _ _ _) <| jext rfl rfl rfl <| jext rfl rfl rfl <| jstw 0 rfl rfl rfl rfl (len_lock _) (one_lock _) (len_lock _) <| ja rfl rfl <| j_nil <| p_thn <| c_ret <| ?_
  refine jp_perm (fr_s <| fr_s <| fr_s <| fr_0) <| jp_perm (fr_s <| fr_s <| fr_s <| fr_0) <| ?_
  refine p_retK (ap_s <| ap_s <| ap_0) rfl rfl (.agg 2 inferInstance rfl rfl (len_lock _) <| .tmp rfl <| .nil) ?_
  exact ⟨rfl, rfl⟩
theorem field_Write (f : Field) (A : Option Addr) (cap : Nat) (hl : f.holds.length ≤ 10000) (i n : Int) (M : Mem) (hS : SlR rHold M A cap f.holds) : Ctr Tryz.prog 67 [.agg (encF f A cap).toArray, vi i, vi n] M [] (fun v M' _ => FV M' v (fLocked f (fun l => lWrite l i n))) := by
  refine ctr Tryz.func67 rfl Tryz.ntmps67 rfl fun w => ?_
  refine c_seq <| c_region <| jbox rfl rfl rfl fun B1 => jbox rfl rfl rfl fun B2 => jbox rfl rfl rfl fun B3 => jalloc rfl fun B4 => ja rfl rfl <| j_nil <| p_thn <| c_seq <| c_region <| jldw 3 rfl rfl rfl (len_F _ _ _) <| jfunc rfl rfl rfl <| j_perm (fr_s <| fr_0) <| j_perm (fr_s <| fr_s <| fr_0) <| j_perm (fr_s <| fr_0) <| j_perm (fr_s <| fr_0) <| jcallsd rfl rfl rfl (ap_s <| ap_s <| ap_0) (field_locked f _ _ hl (fun l => lWrite l i n) _ hS (fun l => field_Write1 l _ _ _)) fun A1c cap1c M1c hM1c hS1c => jext rfl rfl rfl <| jext rfl rfl rfl <| jstw 0 rfl rfl rfl rfl (len_F _ _ _) (one_F _ _ _) (len_F _ _ _) <| ja rfl rfl <| j_nil <| p_thn <| c_ret <| ?_
  refine p_ret0 rfl rfl (.agg 0 inferInstance rfl rfl (len_F _ _ _) <| .tmp rfl <| .nil) ?_
  exact ⟨A1c, cap1c, hS1c, rfl⟩
theorem field_Pass1 (l : Lock) (i n : Int) {X1 X2 : Nat} (M : Mem) : Ctr Tryz.prog 113 [.agg (encLock l).toArray, .pointer (some ⟨X1, 0, none⟩), .pointer (some ⟨X2, 0, none⟩)] M [.blk X1 3 [vi i], .blk X2 3 [vi n]] (fun v _ L' => v = pL (lPass l i n) ∧ L' = [.blk X1 3 [vi i], .blk X2 3 [vi n]]) := by
  refine ctr Tryz.func113 rfl Tryz.ntmps113 rfl fun w => ?_
  refine c_seq <| c_region <| jbox rfl rfl rfl fun B1 => jalloc rfl fun B2 => ja rfl rfl <| j_nil <| p_thn <| c_seq <| c_region <| jldw 1 rfl rfl rfl (len_lock _) <| jld1 2 rfl rfl rfl rfl <| jld1 3 rfl rfl rfl rfl <| jcallv rfl rfl rfl (lock_Pass _ _ _ _) <| jext rfl rfl rfl <| jext rfl rfl rfl <| jstw 0 rfl rfl rfl rfl (len_lock _) (one_lock _) (len_lock _) <| ja rfl rfl <| j_nil <| p_thn <| c_ret <| ?_
  refine jp_perm (fr_s <| fr_s <| fr_s <| fr_0) <| jp_perm (fr_s <| fr_s <| fr_s <| fr_0) <| ?_
  refine p_retK (ap_s <| ap_s <| ap_0) rfl rfl (.agg 2 inferInstance rfl rfl (len_lock _) <| .tmp rfl <| .nil) ?_
  exact ⟨rfl, rfl⟩
theorem field_Pass (f : Field) (A : Option Addr) (cap : Nat) (hl : f.holds.length ≤ 10000) (i n : Int) (M : Mem) (hS : SlR rHold M A cap f.holds) : Ctr Tryz.prog 68 [.agg (encF f A cap).toArray, vi i, vi n] M [] (fun v M' _ => FV M' v (fLocked f (fun l => lPass l i n))) := by
  refine ctr Tryz.func68 rfl Tryz.ntmps68 rfl fun w => ?_
  refine c_seq <| c_region <| jbox rfl rfl rfl fun B1 => jbox rfl rfl rfl fun B2 => jbox rfl rfl rfl fun B3 => jalloc rfl fun B4 => ja rfl rfl <| j_nil <| p_thn <| c_seq <| c_region <| jldw 3 rfl rfl rfl (len_F _ _ _) <| jfunc rfl rfl rfl <| j_perm (fr_s <| fr_0) <| j_perm (fr_s <| fr_s <| fr_0) <| j_perm (fr_s <| fr_0) <| j_perm (fr_s <| fr_0) <| jcallsd rfl rfl rfl (ap_s <| ap_s <| ap_0) (field_locked f _ _ hl (fun l => lPass l i n) _ hS (fun l => field_Pass1 l _ _ _)) fun A1c cap1c M1c hM1c hS1c => jext rfl rfl rfl <| jext rfl rfl rfl <| jstw 0 rfl rfl rfl rfl (len_F _ _ _) (one_F _ _ _) (len_F _ _ _) <| ja rfl rfl <| j_nil <| p_thn <| c_ret <| ?_
  refine p_ret0 rfl rfl (.agg 0 inferInstance rfl rfl (len_F _ _ _) <| .tmp rfl <| .nil) ?_
  exact ⟨A1c, cap1c, hS1c, rfl⟩
theorem field_Join (f : Field) (A : Option Addr) (cap : Nat) (hl : f.holds.length ≤ 10000) (g : Field) (A2 : Option Addr) (cap2 : Nat) (hl2 : g.holds.length ≤ 10000) (M : Mem) (hS : SlR rHold M A cap f.holds) (hT : SlR rHold M A2 cap2 g.holds) : Ctr Tryz.prog 45 [.agg (encF f A cap).toArray, .agg (encF g A2 cap2).toArray] M [] (fun v M' _ => FV M' v (fJoin f g)) := by
  refine ctr Tryz.func45 rfl Tryz.ntmps45 rfl fun w => ?_
  refine c_seq <| c_region <| jbox rfl rfl rfl fun B1 => jbox rfl rfl rfl fun B2 => jalloc rfl fun B3 => ja rfl rfl <| j_nil <| p_thn <| c_seq <| c_seq <| c_region <| jfa rfl rfl rfl <| jld1 2 rfl rfl rfl rfl <| jfa rfl rfl rfl <| jld1 1 rfl rfl rfl rfl <| jsneq rfl rfl rfl <| jm rfl rfl <| jgs rfl rfl (fun hb4 => ?_) (fun hb4 => ?_)
  · have phb4 := hb4; try simp at phb4
    refine jg_off rfl rfl rfl hb4 <| jg_off rfl rfl rfl hb4 <| jg_off rfl rfl rfl hb4 <| jg_off rfl rfl rfl hb4 <| jg_off rfl rfl rfl hb4 <| jpick_t rfl rfl hb4 rfl <| jm rfl rfl <| jg_off rfl rfl rfl rfl <| jg_off rfl rfl rfl rfl <| jg_off rfl rfl rfl rfl <| jg_off rfl rfl rfl rfl <| jg_off rfl rfl rfl rfl <| jpick_t rfl rfl rfl rfl <| j_nil <| p_thn <| c_cond_kt rfl rfl <| c_seq <| c_region <| jbu0 rfl <| jstw 0 rfl rfl rfl rfl (len_F _ _ _) (one_F _ _ _) (len_F _ _ _) <| ja rfl rfl <| j_nil <| p_thn <| c_ret <| p_thn_ret <| ?_
    refine p_ret0 rfl rfl (.agg 0 inferInstance rfl rfl (len_F _ _ _) <| .tmp rfl <| .nil) ?_
    unfold fJoin
    rw [if_pos (by simp at hb4; simp [hb4])]
    exact ⟨none, 0, SlR.nil, rfl⟩
  · have phb4 := hb4; try simp at phb4
    refine jg rfl rfl hb4 <| jfa rfl rfl rfl <| jg rfl rfl hb4 <| jld1 2 rfl rfl rfl rfl <| jg rfl rfl hb4 <| jfa rfl rfl rfl <| jg rfl rfl hb4 <| jld1 1 rfl rfl rfl rfl <| jg rfl rfl hb4 <| jneq rfl rfl rfl <| jpick_f rfl rfl hb4 rfl <| jm rfl rfl <| jgs rfl rfl (fun hb5 => ?_) (fun hb5 => ?_)
    · have phb5 := hb5; try simp at phb5
      refine jg_off rfl rfl rfl hb5 <| jg_off rfl rfl rfl hb5 <| jg_off rfl rfl rfl hb5 <| jg_off rfl rfl rfl hb5 <| jg_off rfl rfl rfl hb5 <| jpick_t rfl rfl hb5 rfl <| j_nil <| p_thn <| c_cond_kt rfl rfl <| c_seq <| c_region <| jbu0 rfl <| jstw 0 rfl rfl rfl rfl (len_F _ _ _) (one_F _ _ _) (len_F _ _ _) <| ja rfl rfl <| j_nil <| p_thn <| c_ret <| p_thn_ret <| ?_
      refine p_ret0 rfl rfl (.agg 0 inferInstance rfl rfl (len_F _ _ _) <| .tmp rfl <| .nil) ?_
      unfold fJoin
      rw [if_pos (by simp [*])]
      exact ⟨none, 0, SlR.nil, rfl⟩
    · have phb5 := hb5; try simp at phb5
      refine jg rfl rfl hb5 <| jfa rfl rfl rfl <| jg rfl rfl hb5 <| jld1 2 rfl rfl rfl rfl <| jg rfl rfl hb5 <| jfa rfl rfl rfl <| jg rfl rfl hb5 <| jld1 1 rfl rfl rfl rfl <| jg rfl rfl hb5 <| jneq rfl rfl rfl <| jpick_f rfl rfl hb5 rfl <| j_nil <| p_thn <| c_cond rfl (fun hb6 => ?_) (fun hb6 => ?_)
      · have phb6 := hb6; try simp at phb6
        refine c_seq <| c_region <| jbu0 rfl <| jstw 0 rfl rfl rfl rfl (len_F _ _ _) (one_F _ _ _) (len_F _ _ _) <| ja rfl rfl <| j_nil <| p_thn <| c_ret <| p_thn_ret <| ?_
        refine p_ret0 rfl rfl (.agg 0 inferInstance rfl rfl (len_F _ _ _) <| .tmp rfl <| .nil) ?_
        unfold fJoin
        rw [if_pos (by simp [*])]
        exact ⟨none, 0, SlR.nil, rfl⟩
      · have phb6 := hb6; try simp at phb6
        refine c_skip <| p_thn <| c_seq <| c_region <| jfa rfl rfl rfl <| jld 2 rfl rfl rfl (pF_counter _ _ _) (len_counter _) <| jfa rfl rfl rfl <| jld 1 rfl rfl rfl (pF_counter _ _ _) (len_counter _) <| jcallv rfl rfl rfl (counter_Join _ _ _) <| jm rfl rfl <| jext rfl rfl rfl <| jext rfl rfl rfl <| jalloc rfl fun B7 => jstw 0 rfl rfl rfl rfl (len_counter _) (one_counter _) (len_counter _) <| ja rfl rfl <| j_nil <| p_thn <| c_seq <| c_seq <| c_region <| jm rfl rfl <| jneq rfl rfl rfl <| j_nil <| p_thn <| c_cond rfl (fun hb8 => ?_) (fun hb8 => ?_)
        · have phb8 := hb8; try simp at phb8
          refine c_seq <| c_region <| jbu0 rfl <| jm rfl rfl <| jstw 1 rfl rfl rfl rfl (len_F _ _ _) (one_F _ _ _) (len_F _ _ _) <| ja rfl rfl <| j_nil <| p_thn <| c_ret <| p_thn_ret <| ?_
          refine p_ret0 rfl rfl (.agg 1 inferInstance rfl rfl (len_F _ _ _) <| .tmp rfl <| .nil) ?_
          unfold fJoin
          rw [if_neg (by simp [*] <;> simpa using hb4), if_pos (by assumption)]
          exact ⟨none, 0, SlR.nil, rfl⟩
        · have phb8 := hb8; try simp at phb8
          refine c_skip <| p_thn <| c_seq <| c_region <| jfa rfl rfl rfl <| jld1 3 rfl rfl rfl (pF_holds _ _ _) <| jfa rfl rfl rfl <| jld1 2 rfl rfl rfl (pF_holds _ _ _) <| jcalls rfl rfl rfl (hold_Join _ _ _ _ _ _ hl hl2 _ hS hT) fun A1c cap1c M1c hM1c hS1c => jm rfl rfl <| jext rfl rfl rfl <| jext rfl rfl rfl <| ja rfl rfl <| ja rfl rfl <| j_nil <| p_thn <| c_seq <| c_seq <| c_region <| jm rfl rfl <| jneq rfl rfl rfl <| j_nil <| p_thn <| c_cond rfl (fun hb9 => ?_) (fun hb9 => ?_)
          · have phb9 := hb9; try simp at phb9
            refine c_seq <| c_region <| jbu0 rfl <| jm rfl rfl <| jstw 1 rfl rfl rfl rfl (len_F _ _ _) (one_F _ _ _) (len_F _ _ _) <| ja rfl rfl <| j_nil <| p_thn <| c_ret <| p_thn_ret <| ?_
            refine p_ret0 rfl rfl (.agg 1 inferInstance rfl rfl (len_F _ _ _) <| .tmp rfl <| .nil) ?_
            unfold fJoin
            rw [if_neg (by simp [*] <;> simpa using hb4), if_neg (by omega), if_pos (by assumption)]
            exact ⟨none, 0, SlR.nil, rfl⟩
          · have phb9 := hb9; try simp at phb9
            refine c_skip <| p_thn <| c_seq <| c_draw [0, 3, 5] (by kernel_rfl) <| jd_first (i := 0) rfl rfl (by kernel_rfl) (by kernel_rfl) (by kernel_rfl) (by kernel_rfl) (by kernel_rfl) rfl (fun _ h => h) (yldw 0 rfl rfl (len_counter _)) <| jd_z (i := 1) rfl rfl (by kernel_rfl) (by kernel_rfl) (by kernel_rfl) (by kernel_rfl) rfl (zm rfl) <| jd_z (i := 2) rfl rfl (by kernel_rfl) (by kernel_rfl) (by kernel_rfl) (by kernel_rfl) rfl (zfa rfl rfl) <| jd_first (i := 3) rfl rfl (by kernel_rfl) (by kernel_rfl) (by kernel_rfl) (by kernel_rfl) (by kernel_rfl) rfl (fun _ h => h) (yld 3 rfl rfl (pF_lock _ _ _) (len_lock _)) <| jd_z (i := 4) rfl rfl (by kernel_rfl) (by kernel_rfl) (by kernel_rfl) (by kernel_rfl) rfl (zfa rfl rfl) <| jd_first (i := 5) rfl rfl (by kernel_rfl) (by kernel_rfl) (by kernel_rfl) (by kernel_rfl) (by kernel_rfl) rfl (fun _ h => h) (yld 2 rfl rfl (pF_lock _ _ _) (len_lock _)) <| jd_z (i := 7) rfl rfl (by kernel_rfl) (by kernel_rfl) (by kernel_rfl) (by kernel_rfl) rfl (zfa rfl rfl) <| jd_one (i := 6) (by kernel_rfl) rfl <| jcallv rfl rfl rfl (lock_Join _ _ _) <| j_nil <| p_jd rfl (.inr (fun _ h => h)) <| jd_one (i := 8) (by kernel_rfl) rfl <| jst 3 rfl rfl rfl rfl (len_counter _) (one_counter _) (by rw [len_F]; exact Nat.le_of_ble_eq_true rfl) (uF_counter _ _ _ _) <| j_nil <| p_jd rfl (.inl (by kernel_rfl)) <| jd_z (i := 9) rfl rfl (by kernel_rfl) (by kernel_rfl) (by kernel_rfl) (by kernel_rfl) rfl (zfa rfl rfl) <| jd_one (i := 10) (by kernel_rfl) rfl <| jst 3 rfl rfl rfl rfl rfl rfl (by rw [len_F]; exact Nat.le_of_ble_eq_true rfl) (uF_holds _ _ _ _ _ _) <| j_nil <| p_jd rfl (.inl (by kernel_rfl)) <| jd_z (i := 11) rfl rfl (by kernel_rfl) (by kernel_rfl) (by kernel_rfl) (by kernel_rfl) rfl (zfa rfl rfl) <| jd_one (i := 12) (by kernel_rfl) rfl <| jst 3 rfl rfl rfl rfl (len_lock _) (one_lock _) (by rw [len_F]; exact Nat.le_of_ble_eq_true rfl) (uF_lock _ _ _ _) <| j_nil <| p_jd rfl (.inl (by kernel_rfl)) <| jd_done (by kernel_rfl) <| p_thn <| c_seq <| c_region <| jldw 3 rfl rfl rfl (len_F _ _ _) <| jstw 1 rfl rfl rfl rfl (len_F _ _ _) (one_F _ _ _) (len_F _ _ _) <| ja rfl rfl <| j_nil <| p_thn <| c_ret <| ?_
            refine p_ret0 rfl rfl (.agg 1 inferInstance rfl rfl (len_F _ _ _) <| .tmp rfl <| .nil) ?_
            unfold fJoin
            rw [if_neg (by simp [*] <;> simpa using hb4), if_neg (by omega), if_neg (by omega)]
            exact ⟨A1c, cap1c, hS1c, rfl⟩
end Go.Proofs.YtihgpbpcbbgdiaaGreat
