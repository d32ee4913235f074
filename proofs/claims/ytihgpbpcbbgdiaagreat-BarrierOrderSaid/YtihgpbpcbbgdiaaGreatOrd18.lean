/- Several texts in one. -/
import Derived.Test.YtihgpbpcbbgdiaaGreatOrd17
import Derived.Test.YtihgpbpcbbgdiaaGreatOrd7
import Derived.Deep.Slices
import Derived.OpenShut
import Derived.Carry
import Derived.ChangeOld
import Derived.Laws.StructEq
/- What more functions of package field tell: Expire, Write, Pass, Join. -/
namespace Go.Proofs.YtihgpbpcbbgdiaaGreat
open Go.RowKit
set_option linter.unusedVariables false
set_option linter.unusedSimpArgs false
attribute [local irreducible] hRights hNum hSort hReserve hEnd hExpire hJoin hSum lJoin fLacks fDone
section
variable {cx : Cx} {Q : Post} {E : Env} {M : Mem} {L : List Ent} {ops : Array Oper} {d T : Nat} {pos : String} {af : Array Edge} {rest : List Oper} {x y z : Operand} {v u : Value}
/-- a call that is lent blocks, and hands a slice that is known then -/
theorem jcallsd {f : FuncId} {args tys : Array _} {fi ca vs : List Value} {Lb Lr : List Ent} {p : Option Addr → Nat → Mem → Prop} {r : Option Addr → Nat → Value} [FnI cx.P f] (hn : Nat.blt d cx.n = true)
    (hx : ev E x = some (.func (.func f) fi.toArray ca.toArray)) (ha : evL E args.toList = some vs) (hL : Ap Lb Lr L) (hc : Ctr cx.P f (fi ++ vs ++ ca) M Lb (fun v M' _ => ∃ A cap, p A cap M' ∧ v = r A cap))
    (hk : ∀ A cap M', MLe M M' → p A cap M' → J cx ops Q rest ((d, r A cap) :: E) M' Lr) : J cx ops Q (⟨some d, .call ⟨.value x, args, tys⟩, T, pos, af, none⟩ :: rest) E M L :=
  jcall (Lb := Lb) (Lr := Lr) hn hx ha hL.symm hc (fun v M' L' hm h => by
    obtain ⟨A, cap, hp, rfl⟩ := h
    intro a w hs ho
    exact hk A cap M' hm hp a w hs ho.drop)
end
def fLocked (f : Field) (p : Lock → Lock × Int) : Field × Int := if f.kind ≠ 2 then (fZ, 17) else fDone { f with lock := (p f.lock).1 } (p f.lock).2
def fJoin (f g : Field) : Field × Int :=
  if f.name ≠ g.name ∨ f.kind ≠ g.kind ∨ f.epoch ≠ g.epoch then (fZ, 1) else
  if (cJoin f.counter g.counter).2 ≠ 0 then (fZ, (cJoin f.counter g.counter).2) else
  if (hJoin f.holds g.holds).2 ≠ 0 then (fZ, (hJoin f.holds g.holds).2) else
  ({ f with counter := (cJoin f.counter g.counter).1, lock := lJoin f.lock g.lock, holds := (hJoin f.holds g.holds).1 }, 0)

theorem field_Expire (f : Field) (A : Option Addr) (cap : Nat) (hl : f.holds.length ≤ 10000) (i d : Int) (M : Mem) (hS : SlR rHold M A cap f.holds) : Ctr Tryz.prog 66 [.agg (encF f A cap).toArray, vi i, vi d] M [] (fun v M' _ => FV M' v (fExpire f i d)) := by
  refine ctr Tryz.func66 rfl Tryz.ntmps66 rfl fun w => ?_
  refine c_seq <| c_region <| jbox rfl rfl rfl fun B1 => jalloc rfl fun B2 => ja rfl rfl <| j_nil <| p_thn <| c_seq <| c_region <| ja rfl rfl <| j_nil <| p_thn <| c_seq <| c_seq <| c_region <| jfa rfl rfl rfl <| jld1 1 rfl rfl rfl rfl <| jeql rfl rfl rfl <| j_nil <| p_thn <| c_cond rfl (fun hb3 => ?_) (fun hb3 => ?_)
  · have phb3 := hb3; try simp at phb3
    refine c_region <| jfa rfl rfl rfl <| jld1 1 rfl rfl rfl (pF_holds _ _ _) <| jm rfl rfl <| jm rfl rfl <| jcalls rfl rfl rfl (hold_Expire _ _ _ (by omega) _ _ _ hS) fun A1c cap1c M1c hM1c hS1c => jm rfl rfl <| jext rfl rfl rfl <| jext rfl rfl rfl <| jfa rfl rfl rfl <| jst 1 rfl rfl rfl rfl rfl rfl (by rw [len_F]; exact Nat.le_of_ble_eq_true rfl) (uF_holds _ _ _ _ _ _) <| ja rfl rfl <| j_nil <| p_thn <| c_seq <| c_region <| jldw 1 rfl rfl rfl (len_F _ _ _) <| jm rfl rfl <| jstw 0 rfl rfl rfl rfl (len_F _ _ _) (one_F _ _ _) (len_F _ _ _) <| ja rfl rfl <| j_nil <| p_thn <| c_ret <| ?_
    refine p_ret0 rfl rfl (.agg 0 inferInstance rfl rfl (len_F _ _ _) <| .tmp rfl <| .nil) ?_
    unfold fExpire
    rw [if_pos phb3]
    exact ⟨A1c, cap1c, hS1c, rfl⟩
  · have phb3 := hb3; try simp at phb3
    refine c_region <| jfa rfl rfl rfl <| jld1 1 rfl rfl rfl (pF_holds _ _ _) <| jcallr rfl rfl rfl (ap_0) (clone_Hold _ _ _ (by omega) _ hS) (fun _ => (ap_s <| ap_0)) fun vc => j_freeze fun M1z hM1z hz1 => ?_
    obtain ⟨A1z, cap1z, rfl, hS1z⟩ := frz (r := rHold) (xs := f.holds) hz1 (Rows.flat (fun _ => rfl) _) rfl
    refine jfa rfl rfl rfl <| jst 1 rfl rfl rfl rfl rfl rfl (by rw [len_F]; exact Nat.le_of_ble_eq_true rfl) (uF_holds _ _ _ _ _ _) <| j_nil <| p_thn <| c_seq <| c_region <| jldw 1 rfl rfl rfl (len_F _ _ _) <| jm rfl rfl <| jstw 0 rfl rfl rfl rfl (len_F _ _ _) (one_F _ _ _) (len_F _ _ _) <| ja rfl rfl <| j_nil <| p_thn <| c_ret <| ?_
    refine p_ret0 rfl rfl (.agg 0 inferInstance rfl rfl (len_F _ _ _) <| .tmp rfl <| .nil) ?_
    unfold fExpire
    rw [if_neg phb3]
    exact ⟨A1z, cap1z, hS1z, rfl⟩
theorem field_locked {g : Nat} {ca : List Value} [FnI Tryz.prog g] {Lt : List Ent} (f : Field) (A : Option Addr) (cap : Nat) (hl : f.holds.length ≤ 10000) (p : Lock → Lock × Int) (M : Mem) (hS : SlR rHold M A cap f.holds) (hp : ∀ l, Ctr Tryz.prog g ([.agg (encLock l).toArray] ++ ca) M Lt (fun v _ L' => v = pL (p l) ∧ L' = Lt)) : Ctr Tryz.prog 110 [.agg (encF f A cap).toArray, .func (.func g) #[] ca.toArray] M Lt (fun v M' _ => FV M' v (fLocked f p)) := by
  refine ctr Tryz.func110 rfl Tryz.ntmps110 rfl fun w => ?_
  refine c_seq <| c_region <| jbox rfl rfl rfl fun B1 => jalloc rfl fun B2 => ja rfl rfl <| j_nil <| p_thn <| c_seq <| c_seq <| c_region <| jfa rfl rfl rfl <| jld1 1 rfl rfl rfl rfl <| jneq rfl rfl rfl <| j_nil <| p_thn <| c_cond rfl (fun hb3 => ?_) (fun hb3 => ?_)
  · have phb3 := hb3; try simp at phb3
    refine c_seq <| c_region <| jbu0 rfl <| jstw 0 rfl rfl rfl rfl (len_F _ _ _) (one_F _ _ _) (len_F _ _ _) <| ja rfl rfl <| j_nil <| p_thn <| c_ret <| p_thn_ret <| ?_
    refine p_ret0 rfl rfl (.agg 0 inferInstance rfl rfl (len_F _ _ _) <| .tmp rfl <| .nil) ?_
    unfold fLocked
    rw [if_pos phb3]
    exact ⟨none, 0, SlR.nil, rfl⟩
  · have phb3 := hb3; try simp at phb3
    refine c_skip <| p_thn <| c_seq <| c_region <| jm rfl rfl <| jfa rfl rfl rfl <| jld 1 rfl rfl rfl (pF_lock _ _ _) (len_lock _) <| jcallo rfl rfl rfl (ap_s <| ap_s <| ap_0) (hp _) (ap_s <| ap_s <| ap_0) <| jm rfl rfl <| jext rfl rfl rfl <| jext rfl rfl rfl <| jalloc rfl fun B4 => jstw 0 rfl rfl rfl rfl (len_lock _) (one_lock _) (len_lock _) <| ja rfl rfl <| j_nil <| p_thn <| c_seq <| c_region <| jldw 0 rfl rfl rfl (len_lock _) <| jfa rfl rfl rfl <| jst 2 rfl rfl rfl rfl (len_lock _) (one_lock _) (by rw [len_F]; exact Nat.le_of_ble_eq_true rfl) (uF_lock _ _ _ _) <| j_nil <| p_thn <| c_seq <| c_region <| jldw 2 rfl rfl rfl (len_F _ _ _) <| jm rfl rfl <| jcalls rfl rfl rfl (field_done { f with lock := (p f.lock).1 } _ _ hl _ _ hS) fun A1c cap1c M1c hM1c hS1c => jext rfl rfl rfl <| jext rfl rfl rfl <| jstw 1 rfl rfl rfl rfl (len_F _ _ _) (one_F _ _ _) (len_F _ _ _) <| ja rfl rfl <| j_nil <| p_thn <| c_ret <| ?_
    refine p_ret0 rfl rfl (.agg 1 inferInstance rfl rfl (len_F _ _ _) <| .tmp rfl <| .nil) ?_
    unfold fLocked
    rw [if_neg (by omega)]
    exact ⟨A1c, cap1c, hS1c, rfl⟩
theorem field_Write1 (l : Lock) (i n : Int) {X1 X2 : Nat} (M : Mem) : Ctr Tryz.prog 111 [.agg (encLock l).toArray, .pointer (some ⟨X1, 0, none⟩), .pointer (some ⟨X2, 0, none⟩)] M [.blk X1 3 [vi i], .blk X2 3 [vi n]] (fun v _ L' => v = pL (lWrite l i n) ∧ L' = [.blk X1 3 [vi i], .blk X2 3 [vi n]]) := by
  refine ctr Tryz.func111 rfl Tryz.ntmps111 rfl fun w => ?_
  refine c_seq <| c_region <| jbox rfl rfl rfl fun B1 => jalloc rfl fun B2 => ja rfl rfl <| j_nil <| p_thn <| c_seq <| c_region <| jldw 1 rfl rfl rfl (len_lock _) <| jld1 2 rfl rfl rfl rfl <| jld1 3 rfl rfl rfl rfl <| jcallv rfl rfl rfl (lock_Write _ _ _ _) <| jext rfl rfl rfl <| jext rfl rfl rfl <| jstw 0 rfl rfl rfl rfl (len_lock _) (one_lock _) (len_lock _) <| ja rfl rfl <| j_nil <| p_thn <| c_ret <| ?_
  refine jp_perm (fr_s <| fr_s <| fr_s <| fr_0) <| jp_perm (fr_s <| fr_s <| fr_s <| fr_0) <| ?_
  refine p_retK (ap_s <| ap_s <| ap_0) rfl rfl (.agg 2 inferInstance rfl rfl (len_lock _) <| .tmp rfl <| .nil) ?_
  exact ⟨rfl, rfl⟩
theorem field_Write (f : Field) (A : Option Addr) (cap : Nat) (hl : f.holds.length ≤ 10000) (i n : Int) (M : Mem) (hS : SlR rHold M A cap f.holds) : Ctr Tryz.prog 67 [.agg (encF f A cap).toArray, vi i, vi n] M [] (fun v M' _ => FV M' v (fLocked f (fun l => lWrite l i n))) := by
  refine ctr Tryz.func67 rfl Tryz.ntmps67 rfl fun w => ?_
  refine c_seq <| c_region <| jbox rfl rfl rfl fun B1 => jbox rfl rfl rfl fun B2 => jbox rfl rfl rfl fun B3 => jalloc rfl fun B4 => ja rfl rfl <| j_nil <| p_thn <| c_seq <| c_region <| jldw 3 rfl rfl rfl (len_F _ _ _) <| jfunc rfl rfl rfl <| j_perm (fr_s <| fr_0) <| j_perm (fr_s <| fr_s <| fr_0) <| j_perm (fr_s <| fr_0) <| j_perm (fr_s <| fr_0) <| jcallsd rfl rfl rfl (ap_s <| ap_s <| ap_0) (field_locked f _ _ hl (fun l => lWrite l i n) _ hS (fun l => field_Write1 l _ _ _)) fun A1c cap1c M1c hM1c hS1c => jext rfl rfl rfl <| jext rfl rfl rfl <| jstw 0 rfl rfl rfl rfl (len_F _ _ _) (one_F _ _ _) (len_F _ _ _) <| ja rfl rfl <| j_nil <| p_thn <| c_ret <| ?_
  refine p_ret0 rfl rfl (.agg 0 inferInstance rfl rfl (len_F _ _ _) <| .tmp rfl <| .nil) ?_
  exact ⟨A1c, cap1c, hS1c, rfl⟩
theorem field_Pass1 (l : Lock) (i n : Int) {X1 X2 : Nat} (M : Mem) : Ctr Tryz.prog 113 [.agg (encLock l).toArray, .pointer (some ⟨X1, 0, none⟩), .pointer (some ⟨X2, 0, none⟩)] M [.blk X1 3 [vi i], .blk X2 3 [vi n]] (fun v _ L' => v = pL (lPass l i n) ∧ L' = [.blk X1 3 [vi i], .blk X2 3 [vi n]]) := by
  refine ctr Tryz.func113 rfl Tryz.ntmps113 rfl fun w => ?_
  refine c_seq <| c_region <| jbox rfl rfl rfl fun B1 => jalloc rfl fun B2 => ja rfl rfl <| j_nil <| p_thn <| c_seq <| c_region <| jldw 1 rfl rfl rfl (len_lock _) <| jld1 2 rfl rfl rfl rfl <| jld1 3 rfl rfl rfl rfl <| jcallv rfl rfl rfl (lock_Pass _ _ _ _) <| jext rfl rfl rfl <| jext rfl rfl rfl <| jstw 0 rfl rfl rfl rfl (len_lock _) (one_lock _) (len_lock _) <| ja rfl rfl <| j_nil <| p_thn <| c_ret <| ?_
  refine jp_perm (fr_s <| fr_s <| fr_s <| fr_0) <| jp_perm (fr_s <| fr_s <| fr_s <| fr_0) <| ?_
  refine p_retK (ap_s <| ap_s <| ap_0) rfl rfl (.agg 2 inferInstance rfl rfl (len_lock _) <| .tmp rfl <| .nil) ?_
  exact ⟨rfl, rfl⟩
theorem field_Pass (f : Field) (A : Option Addr) (cap : Nat) (hl : f.holds.length ≤ 10000) (i n : Int) (M : Mem) (hS : SlR rHold M A cap f.holds) : Ctr Tryz.prog 68 [.agg (encF f A cap).toArray, vi i, vi n] M [] (fun v M' _ => FV M' v (fLocked f (fun l => lPass l i n))) := by
  refine ctr Tryz.func68 rfl Tryz.ntmps68 rfl fun w => ?_
  refine c_seq <| c_region <| jbox rfl rfl rfl fun B1 => jbox rfl rfl rfl fun B2 => jbox rfl rfl rfl fun B3 => jalloc rfl fun B4 => ja rfl rfl <| j_nil <| p_thn <| c_seq <| c_region <| jldw 3 rfl rfl rfl (len_F _ _ _) <| jfunc rfl rfl rfl <| j_perm (fr_s <| fr_0) <| j_perm (fr_s <| fr_s <| fr_0) <| j_perm (fr_s <| fr_0) <| j_perm (fr_s <| fr_0) <| jcallsd rfl rfl rfl (ap_s <| ap_s <| ap_0) (field_locked f _ _ hl (fun l => lPass l i n) _ hS (fun l => field_Pass1 l _ _ _)) fun A1c cap1c M1c hM1c hS1c => jext rfl rfl rfl <| jext rfl rfl rfl <| jstw 0 rfl rfl rfl rfl (len_F _ _ _) (one_F _ _ _) (len_F _ _ _) <| ja rfl rfl <| j_nil <| p_thn <| c_ret <| ?_
  refine p_ret0 rfl rfl (.agg 0 inferInstance rfl rfl (len_F _ _ _) <| .tmp rfl <| .nil) ?_
  exact ⟨A1c, cap1c, hS1c, rfl⟩
theorem field_Join (f : Field) (A : Option Addr) (cap : Nat) (hl : f.holds.length ≤ 10000) (g : Field) (A2 : Option Addr) (cap2 : Nat) (hl2 : g.holds.length ≤ 10000) (M : Mem) (hS : SlR rHold M A cap f.holds) (hT : SlR rHold M A2 cap2 g.holds) : Ctr Tryz.prog 45 [.agg (encF f A cap).toArray, .agg (encF g A2 cap2).toArray] M [] (fun v M' _ => FV M' v (fJoin f g)) := by
  refine ctr Tryz.func45 rfl Tryz.ntmps45 rfl fun w => ?_
  refine c_seq <| c_region <| jbox rfl rfl rfl fun B1 => jbox rfl rfl rfl fun B2 => jalloc rfl fun B3 => ja rfl rfl <| j_nil <| p_thn <| c_seq <| c_seq <| c_region <| jfa rfl rfl rfl <| jld1 2 rfl rfl rfl rfl <| jfa rfl rfl rfl <| jld1 1 rfl rfl rfl rfl <| jsneq rfl rfl rfl <| jm rfl rfl <| jgs rfl rfl (fun hb4 => ?_) (fun hb4 => ?_)
  · have phb4 := hb4; try simp at phb4
    refine jg_off rfl rfl rfl hb4 <| jg_off rfl rfl rfl hb4 <| jg_off rfl rfl rfl hb4 <| jg_off rfl rfl rfl hb4 <| jg_off rfl rfl rfl hb4 <| jpick_t rfl rfl hb4 rfl <| jm rfl rfl <| jg_off rfl rfl rfl rfl <| jg_off rfl rfl rfl rfl <| jg_off rfl rfl rfl rfl <| jg_off rfl rfl rfl rfl <| jg_off rfl rfl rfl rfl <| jpick_t rfl rfl rfl rfl <| j_nil <| p_thn <| c_cond_kt rfl rfl <| c_seq <| c_region <| jbu0 rfl <| jstw 0 rfl rfl rfl rfl (len_F _ _ _) (one_F _ _ _) (len_F _ _ _) <| ja rfl rfl <| j_nil <| p_thn <| c_ret <| p_thn_ret <| ?_
    refine p_ret0 rfl rfl (.agg 0 inferInstance rfl rfl (len_F _ _ _) <| .tmp rfl <| .nil) ?_
    unfold fJoin
    rw [if_pos (by simp at hb4; simp [hb4])]
    exact ⟨none, 0, SlR.nil, rfl⟩
  · have phb4 := hb4; try simp at phb4
    refine jg rfl rfl hb4 <| jfa rfl rfl rfl <| jg rfl rfl hb4 <| jld1 2 rfl rfl rfl rfl <| jg rfl rfl hb4 <| jfa rfl rfl rfl <| jg rfl rfl hb4 <| jld1 1 rfl rfl rfl rfl <| jg rfl rfl hb4 <| jneq rfl rfl rfl <| jpick_f rfl rfl hb4 rfl <| jm rfl rfl <| jgs rfl rfl (fun hb5 => ?_) (fun hb5 => ?_)
    · have phb5 := hb5; try simp at phb5
      refine jg_off rfl rfl rfl hb5 <| jg_off rfl rfl rfl hb5 <| jg_off rfl rfl rfl hb5 <| jg_off rfl rfl rfl hb5 <| jg_off rfl rfl rfl hb5 <| jpick_t rfl rfl hb5 rfl <| j_nil <| p_thn <| c_cond_kt rfl rfl <| c_seq <| c_region <| jbu0 rfl <| jstw 0 rfl rfl rfl rfl (len_F _ _ _) (one_F _ _ _) (len_F _ _ _) <| ja rfl rfl <| j_nil <| p_thn <| c_ret <| p_thn_ret <| ?_
      refine p_ret0 rfl rfl (.agg 0 inferInstance rfl rfl (len_F _ _ _) <| .tmp rfl <| .nil) ?_
      unfold fJoin
      rw [if_pos (by simp [*])]
      exact ⟨none, 0, SlR.nil, rfl⟩
    · have phb5 := hb5; try simp at phb5
      refine jg rfl rfl hb5 <| jfa rfl rfl rfl <| jg rfl rfl hb5 <| jld1 2 rfl rfl rfl rfl <| jg rfl rfl hb5 <| jfa rfl rfl rfl <| jg rfl rfl hb5 <| jld1 1 rfl rfl rfl rfl <| jg rfl rfl hb5 <| jneq rfl rfl rfl <| jpick_f rfl rfl hb5 rfl <| j_nil <| p_thn <| c_cond rfl (fun hb6 => ?_) (fun hb6 => ?_)
      · have phb6 := hb6; try simp at phb6
        refine c_seq <| c_region <| jbu0 rfl <| jstw 0 rfl rfl rfl rfl (len_F _ _ _) (one_F _ _ _) (len_F _ _ _) <| ja rfl rfl <| j_nil <| p_thn <| c_ret <| p_thn_ret <| ?_
        refine p_ret0 rfl rfl (.agg 0 inferInstance rfl rfl (len_F _ _ _) <| .tmp rfl <| .nil) ?_
        unfold fJoin
        rw [if_pos (by simp [*])]
        exact ⟨none, 0, SlR.nil, rfl⟩
      · have phb6 := hb6; try simp at phb6
        refine c_skip <| p_thn <| c_seq <| c_region <| jfa rfl rfl rfl <| jld 2 rfl rfl rfl (pF_counter _ _ _) (len_counter _) <| jfa rfl rfl rfl <| jld 1 rfl rfl rfl (pF_counter _ _ _) (len_counter _) <| jcallv rfl rfl rfl (counter_Join _ _ _) <| jm rfl rfl <| jext rfl rfl rfl <| jext rfl rfl rfl <| jalloc rfl fun B7 => jstw 0 rfl rfl rfl rfl (len_counter _) (one_counter _) (len_counter _) <| ja rfl rfl <| j_nil <| p_thn <| c_seq <| c_seq <| c_region <| jm rfl rfl <| jneq rfl rfl rfl <| j_nil <| p_thn <| c_cond rfl (fun hb8 => ?_) (fun hb8 => ?_)
        · have phb8 := hb8; try simp at phb8
          refine c_seq <| c_region <| jbu0 rfl <| jm rfl rfl <| jstw 1 rfl rfl rfl rfl (len_F _ _ _) (one_F _ _ _) (len_F _ _ _) <| ja rfl rfl <| j_nil <| p_thn <| c_ret <| p_thn_ret <| ?_
          refine p_ret0 rfl rfl (.agg 1 inferInstance rfl rfl (len_F _ _ _) <| .tmp rfl <| .nil) ?_
          unfold fJoin
          rw [if_neg (by simp [*] <;> simpa using hb4), if_pos (by assumption)]
          exact ⟨none, 0, SlR.nil, rfl⟩
        · have phb8 := hb8; try simp at phb8
          refine c_skip <| p_thn <| c_seq <| c_region <| jfa rfl rfl rfl <| jld1 3 rfl rfl rfl (pF_holds _ _ _) <| jfa rfl rfl rfl <| jld1 2 rfl rfl rfl (pF_holds _ _ _) <| jcalls rfl rfl rfl (hold_Join _ _ _ _ _ _ hl hl2 _ hS hT) fun A1c cap1c M1c hM1c hS1c => jm rfl rfl <| jext rfl rfl rfl <| jext rfl rfl rfl <| ja rfl rfl <| ja rfl rfl <| j_nil <| p_thn <| c_seq <| c_seq <| c_region <| jm rfl rfl <| jneq rfl rfl rfl <| j_nil <| p_thn <| c_cond rfl (fun hb9 => ?_) (fun hb9 => ?_)
          · have phb9 := hb9; try simp at phb9
            refine c_seq <| c_region <| jbu0 rfl <| jm rfl rfl <| jstw 1 rfl rfl rfl rfl (len_F _ _ _) (one_F _ _ _) (len_F _ _ _) <| ja rfl rfl <| j_nil <| p_thn <| c_ret <| p_thn_ret <| ?_
            refine p_ret0 rfl rfl (.agg 1 inferInstance rfl rfl (len_F _ _ _) <| .tmp rfl <| .nil) ?_
            unfold fJoin
            rw [if_neg (by simp [*] <;> simpa using hb4), if_neg (by omega), if_pos (by assumption)]
            exact ⟨none, 0, SlR.nil, rfl⟩
          · have phb9 := hb9; try simp at phb9
            refine c_skip <| p_thn <| c_seq <| c_draw [0, 3, 5] (by kernel_rfl) <| jd_first (i := 0) rfl rfl (by kernel_rfl) (by kernel_rfl) (by kernel_rfl) (by kernel_rfl) (by kernel_rfl) rfl (fun _ h => h) (yldw 0 rfl rfl (len_counter _)) <| jd_z (i := 1) rfl rfl (by kernel_rfl) (by kernel_rfl) (by kernel_rfl) (by kernel_rfl) rfl (zm rfl) <| jd_z (i := 2) rfl rfl (by kernel_rfl) (by kernel_rfl) (by kernel_rfl) (by kernel_rfl) rfl (zfa rfl rfl) <| jd_first (i := 3) rfl rfl (by kernel_rfl) (by kernel_rfl) (by kernel_rfl) (by kernel_rfl) (by kernel_rfl) rfl (fun _ h => h) (yld 3 rfl rfl (pF_lock _ _ _) (len_lock _)) <| jd_z (i := 4) rfl rfl (by kernel_rfl) (by kernel_rfl) (by kernel_rfl) (by kernel_rfl) rfl (zfa rfl rfl) <| jd_first (i := 5) rfl rfl (by kernel_rfl) (by kernel_rfl) (by kernel_rfl) (by kernel_rfl) (by kernel_rfl) rfl (fun _ h => h) (yld 2 rfl rfl (pF_lock _ _ _) (len_lock _)) <| jd_z (i := 7) rfl rfl (by kernel_rfl) (by kernel_rfl) (by kernel_rfl) (by kernel_rfl) rfl (zfa rfl rfl) <| jd_one (i := 6) (by kernel_rfl) rfl <| jcallv rfl rfl rfl (lock_Join _ _ _) <| j_nil <| p_jd rfl (.inr (fun _ h => h)) <| jd_one (i := 8) (by kernel_rfl) rfl <| jst 3 rfl rfl rfl rfl (len_counter _) (one_counter _) (by rw [len_F]; exact Nat.le_of_ble_eq_true rfl) (uF_counter _ _ _ _) <| j_nil <| p_jd rfl (.inl (by kernel_rfl)) <| jd_z (i := 9) rfl rfl (by kernel_rfl) (by kernel_rfl) (by kernel_rfl) (by kernel_rfl) rfl (zfa rfl rfl) <| jd_one (i := 10) (by kernel_rfl) rfl <| jst 3 rfl rfl rfl rfl rfl rfl (by rw [len_F]; exact Nat.le_of_ble_eq_true rfl) (uF_holds _ _ _ _ _ _) <| j_nil <| p_jd rfl (.inl (by kernel_rfl)) <| jd_z (i := 11) rfl rfl (by kernel_rfl) (by kernel_rfl) (by kernel_rfl) (by kernel_rfl) rfl (zfa rfl rfl) <| jd_one (i := 12) (by kernel_rfl) rfl <| jst 3 rfl rfl rfl rfl (len_lock _) (one_lock _) (by rw [len_F]; exact Nat.le_of_ble_eq_true rfl) (uF_lock _ _ _ _) <| j_nil <| p_jd rfl (.inl (by kernel_rfl)) <| jd_done (by kernel_rfl) <| p_thn <| c_seq <| c_region <| jldw 3 rfl rfl rfl (len_F _ _ _) <| jstw 1 rfl rfl rfl rfl (len_F _ _ _) (one_F _ _ _) (len_F _ _ _) <| ja rfl rfl <| j_nil <| p_thn <| c_ret <| ?_
            refine p_ret0 rfl rfl (.agg 1 inferInstance rfl rfl (len_F _ _ _) <| .tmp rfl <| .nil) ?_
            unfold fJoin
            rw [if_neg (by simp [*] <;> simpa using hb4), if_neg (by omega), if_neg (by omega)]
            exact ⟨A1c, cap1c, hS1c, rfl⟩
end Go.Proofs.YtihgpbpcbbgdiaaGreat

/- From what a statement's arguments read as to what is known of memory; from a contract to the call. -/
namespace Go.Proofs.YtihgpbpcbbgdiaaGreat
open Go.RowKit
set_option linter.unusedVariables false
set_option linter.unusedSimpArgs false

/-- all that the world's cells hold -/
def knows (W : World) : Mem := fun a => W.cell? a
theorem ctr_calls {P : Program} {f : FuncId} {args : List Value} {W : World} {r : Value} (h : Ctr P f args (knows W) [] (fun v _ _ => v = r)) :
    Calls P f args.toArray W (fun e w' => e = .returned r ∧ Below W.heap.size W w') := by
  refine (h W ⟨rfl, rfl, rfl, Nat.le_refl _, Nat.le_refl _, fun _ _ _ => rfl, fun a v hv => hv, fun a v hv => .inl hv, fun a v hv => hv, fun _ _ _ h => (by cases h), fun _ h => (by cases h), List.nodup_nil, fun _ h => (by cases h)⟩).mono ?_
  rintro e w' ⟨v, M', L', rfl, rfl, h2⟩
  exact ⟨rfl, h2.os, h2.tape, h2.output, h2.size, fun k hk => h2.keep k hk (by simp [blks])⟩

/-- what reads at a type lies as r says, and is ok -/
def Reads {α : Type} (P : Program) (T : TypeId) (r : Rep α) (ok : α → Prop) : Prop :=
  ∀ {H : Type} (enc : TypeId × Value → H) (W : World) (sp : Nat → Bool) (held : Bool) (n : Nat) (cs : List Value) (x : DataW H × List MemPlace),
    DataW.trod enc P W 0 sp held n T cs = some x → ∃ a, r.R (knows W) a cs ∧ ok a
def I64 (n : Int) : Prop := -9223372036854775808 ≤ n ∧ n ≤ 9223372036854775807
theorem I64_of {n : Int} (h : (Lit.int .i64 n).wf = true) : I64 n := by
  simp [Lit.wf, IntKind.min, IntKind.max, IntKind.signed, IntKind.bits] at h
  exact h
theorem Reads.int {P : Program} {T : TypeId} (ht : P.underlying T = some (.int .i64)) : Reads P T rInt I64 := fun enc W sp held n cs x h => by
  obtain ⟨z, rfl, _, hw⟩ := DataW.trod_int ht h
  exact ⟨z, rfl, I64_of hw⟩
theorem Reads.str {P : Program} {T : TypeId} (ht : P.underlying T = some .string) : Reads P T rStr (fun s => s.size ≤ maxLen) := fun enc W sp held n cs x h => by
  obtain ⟨s, rfl, _, hs⟩ := DataW.trod_string ht h
  exact ⟨s, rfl, hs⟩
/-- a cell that holds a slice -/
def rSl {α : Type} (r : Rep α) : Rep (List α) where
  sz := 1
  R := fun M xs c => ∃ A cap, c = [.slice A xs.length cap] ∧ SlR r M A cap xs
  len := fun ⟨A, cap, h, _⟩ => h ▸ rfl
  mono := fun hm ⟨A, cap, h, hr⟩ => ⟨A, cap, h, hr.mono hm⟩
  one := fun ⟨A, cap, h, _⟩ => h ▸ rfl
theorem list_of {α : Type} [Inhabited α] {n : Nat} {p : Nat → α → Prop} (h : ∀ i, i < n → ∃ x, p i x) : ∃ l : List α, l.length = n ∧ ∀ i x, l[i]? = some x → p i x := by
  obtain ⟨f, hf⟩ := Go.Deep.choose_lt h
  refine ⟨(List.range n).map f, by simp, fun i x hx => ?_⟩
  by_cases hi : i < n
  · simp [hi] at hx; exact hx ▸ hf i hi
  · simp [hi] at hx
theorem Reads.slice {α : Type} [Inhabited α] {P : Program} {T e : TypeId} {r : Rep α} {ok : α → Prop} (ht : P.underlying T = some (.slice e)) (hsz : P.cellsOf e = r.sz) (h0 : 0 < r.sz) (he : Reads P e r ok) : Reads P T (rSl r) (fun xs => xs.length ≤ maxLen ∧ ∀ x ∈ xs, ok x) := fun enc W sp held n cs x h => by
  rcases Go.Deep.open_slice ht h with ⟨rfl, _⟩ | ⟨a, len, cap, m, n', D, Pl, rfl, hb, hl, hm, hmm, _, hx⟩
  · exact ⟨[], ⟨none, 0, rfl, SlR.nil⟩, Nat.zero_le _, fun x hx => by cases hx⟩
  · have hle : len ≤ m := by rw [hmm]; split <;> omega
    obtain ⟨xs, hxl, hxs⟩ := list_of (α := α) (n := len) (p := fun i x => (∃ c, r.R (knows W) x c ∧ ∀ j u, c[j]? = some u → W.cell? (a.add (i * r.sz + j)) = some u) ∧ ok x) (fun i hi => by
      obtain ⟨cs', h1, h2⟩ := hx i (by omega)
      obtain ⟨x, hr, hok⟩ := he enc W sp held n' cs' _ h2
      obtain ⟨_, hlen, hcell⟩ := World.cells?_some h1
      refine ⟨x, ⟨cs', hr, fun j u hu => ?_⟩, hok⟩
      have hj : j < P.cellsOf e := by rw [← hlen]; exact (List.getElem?_eq_some_iff.1 hu).1
      have := hcell j hj
      rw [Go.Deep.add_add, hsz] at this
      rw [this]; exact hu)
    refine ⟨xs, ⟨some a, cap, by rw [hxl], by omega, fun i x hxi => ?_⟩, by omega, fun x hx => ?_⟩
    · obtain ⟨⟨c, hr, hc⟩, _⟩ := hxs i x hxi
      obtain ⟨b, off, spot⟩ := a
      have hlc := r.len hr
      have h00 : 0 < c.length := by omega
      have hspot : spot = none := by
        have hi0 : 0 < xs.length := by have := (List.getElem?_eq_some_iff.1 hxi).1; omega
        obtain ⟨⟨c0, hr0, hc0⟩, _⟩ := hxs 0 _ (List.getElem?_eq_getElem hi0)
        have hl0 := r.len hr0
        have h1 := hc0 0 _ (List.getElem?_eq_getElem (by omega))
        rw [Nat.zero_mul] at h1
        simpa [Addr.add] using World.cell?_spot h1
      subst hspot
      refine ⟨b, off, c, rfl, hr, fun j u hu => ?_⟩
      have := hc j u hu
      rw [Go.WideShapes.add_plain] at this
      exact this
    · obtain ⟨i, hi, rfl⟩ := List.getElem_of_mem hx
      exact (hxs i _ (List.getElem?_eq_getElem hi)).2

/-! flat data: integers alone -/
/-- the type's cells are so many integers -/
def flat (P : Program) : Nat → TypeId → Nat → Bool
  | 0, _, _ => false
  | d + 1, t, k => P.cellsOf t == k && match P.underlying t with
    | some (.int .i64) => k == 1
    | some (.array n e) => k == n * P.cellsOf e && flat P d e (P.cellsOf e)
    | some (.struct fs) => (fs.toList.foldl (fun o f => o.bind fun o => if f.offset == o && flat P d f.type (P.cellsOf f.type) then some (o + P.cellsOf f.type) else none) (some 0)) == some k
    | _ => false
theorem ints_of_cells {cs : List Value} (h : ∀ j, j < cs.length → ∃ z, cs[j]? = some (.int .i64 z) ∧ I64 z) : ∃ zs : List Int, cs = zs.map (fun n => Value.int .i64 n) ∧ ∀ z ∈ zs, I64 z := by
  obtain ⟨zs, hl, hz⟩ := list_of h
  refine ⟨zs, ?_, fun z hz' => ?_⟩
  · apply List.ext_getElem?
    intro i
    by_cases hi : i < cs.length
    · obtain ⟨h1, _⟩ := hz i _ (List.getElem?_eq_getElem (by omega))
      rw [h1, List.getElem?_map, List.getElem?_eq_getElem (by omega)]; rfl
    · rw [List.getElem?_eq_none (by omega), List.getElem?_eq_none (by simp; omega)]
  · obtain ⟨i, hi, rfl⟩ := List.getElem_of_mem hz'
    exact (hz i _ (List.getElem?_eq_getElem hi)).2
theorem fold_none {α β : Type} (g : β → α → Option β) : ∀ l : List α, l.foldl (fun o x => o.bind fun o => g o x) none = none
  | [] => rfl
  | _ :: l => fold_none g l
theorem flat_cover {sz : TypeId → Nat} {ok : TypeId → Bool} {k : Nat} : ∀ (fs : List Go.Field) (o : Nat), fs.foldl (fun o f => o.bind fun o => if f.offset == o && ok f.type then some (o + sz f.type) else none) (some o) = some k →
    (∀ f ∈ fs, ok f.type = true) ∧ ∀ j, o ≤ j → j < k → ∃ f ∈ fs, f.offset ≤ j ∧ j < f.offset + sz f.type
  | [], o, h => by simp at h; subst h; exact ⟨fun f hf => absurd hf List.not_mem_nil, fun j h1 h2 => absurd h2 (by omega)⟩
  | f :: fs, o, h => by
    simp only [List.foldl_cons, Option.bind_some] at h
    by_cases hc : (f.offset == o && ok f.type) = true
    · rw [if_pos hc] at h
      obtain ⟨h1, h2⟩ := flat_cover fs _ h
      simp only [Bool.and_eq_true, beq_iff_eq] at hc
      refine ⟨fun g hg => ?_, fun j hj hk => ?_⟩
      · rcases List.mem_cons.1 hg with rfl | hg
        · exact hc.2
        · exact h1 g hg
      · by_cases hlt : j < o + sz f.type
        · exact ⟨f, List.mem_cons_self, by omega, by omega⟩
        · obtain ⟨g, hg, h3⟩ := h2 j (by omega) hk
          exact ⟨g, List.mem_cons_of_mem _ hg, h3⟩
    · rw [if_neg hc, fold_none (fun (o : Nat) (f : Go.Field) => if f.offset == o && ok f.type then some (o + sz f.type) else none)] at h
      cases h
theorem flat_reads {P : Program} : ∀ (d : Nat) (t : TypeId) (k : Nat), flat P d t k = true → ∀ {H : Type} (enc : TypeId × Value → H) (W : World) (sp : Nat → Bool) (held : Bool) (n : Nat) (cs : List Value) (x : DataW H × List MemPlace),
    DataW.trod enc P W 0 sp held n t cs = some x → cs.length = k ∧ ∀ j, j < cs.length → ∃ z, cs[j]? = some (.int .i64 z) ∧ I64 z
  | 0, _, _, h => by cases h
  | d + 1, t, k, hf => by
    intro enc W sp held n cs x h
    simp only [flat, Bool.and_eq_true, beq_iff_eq] at hf
    obtain ⟨hk, hf⟩ := hf
    cases hu : P.underlying t with
    | none => rw [hu] at hf; cases hf
    | some D =>
      rw [hu] at hf
      cases D
      case int q =>
        have hq : q = .i64 ∧ k = 1 := by cases q <;> simp at hf <;> exact ⟨rfl, hf⟩
        obtain ⟨rfl, hk1⟩ := hq
        obtain ⟨z, rfl, _, hw⟩ := DataW.trod_int hu h
        refine ⟨by simp [hk1], fun j hj => ?_⟩
        have : j = 0 := by simpa using hj
        subst this
        exact ⟨z, rfl, I64_of hw⟩
      case array m e =>
        simp only [Bool.and_eq_true, beq_iff_eq] at hf
        obtain ⟨hk2, hfe⟩ := hf
        obtain ⟨xs, m', _, _, hl, hxl, hx⟩ := DataW.trod_array hu h
        refine ⟨by omega, fun j hj => ?_⟩
        have hlt : j < m * P.cellsOf e := by omega
        have hpos : 0 < P.cellsOf e := by
          rcases Nat.eq_zero_or_pos (P.cellsOf e) with h0 | h0
          · rw [h0] at hlt; omega
          · exact h0
        have hi : j / P.cellsOf e < m := Nat.div_lt_of_lt_mul (by rw [Nat.mul_comm]; exact hlt)
        have h1 := hx _ hi
        rw [List.getElem?_eq_getElem (by omega)] at h1
        obtain ⟨h2, h3⟩ := flat_reads d e _ hfe enc W sp held m' _ _ h1
        have hr : j % P.cellsOf e < P.cellsOf e := Nat.mod_lt _ hpos
        obtain ⟨z, hz, hz2⟩ := h3 (j % P.cellsOf e) (by rw [h2]; exact hr)
        refine ⟨z, ?_, hz2⟩
        rw [List.getElem?_take, if_pos hr, List.getElem?_drop, Nat.mul_comm, Nat.div_add_mod] at hz
        exact hz
      case struct fs =>
        have hf' : (fs.toList.foldl (fun o f => o.bind fun o => if f.offset == o && (fun t => flat P d t (P.cellsOf t)) f.type then some (o + P.cellsOf f.type) else none) (some 0)) = some k := by simpa using hf
        obtain ⟨hok, hcov⟩ := flat_cover (sz := P.cellsOf) (ok := fun t => flat P d t (P.cellsOf t)) fs.toList 0 hf'
        obtain ⟨xs, m', _, _, hl, hxl, hx⟩ := DataW.trod_struct hu h
        refine ⟨by omega, fun j hj => ?_⟩
        obtain ⟨f, hfm, h1, h2⟩ := hcov j (Nat.zero_le _) (by omega)
        obtain ⟨i, hi⟩ := List.getElem?_of_mem hfm
        have hi' : fs[i]? = some f := by simpa using hi
        have h3 := hx i f hi'
        have hlt : i < xs.length := by rw [hxl]; exact (Array.getElem?_eq_some_iff.1 hi').1
        rw [List.getElem?_eq_getElem hlt] at h3
        obtain ⟨h4, h5⟩ := flat_reads d f.type _ (hok f hfm) enc W sp held m' _ _ h3
        obtain ⟨z, hz, hz2⟩ := h5 (j - f.offset) (by rw [h4]; omega)
        refine ⟨z, ?_, hz2⟩
        rw [List.getElem?_take, if_pos (by omega), List.getElem?_drop, show f.offset + (j - f.offset) = j by omega] at hz
        exact hz
      all_goals simp at hf
/-- a type of integers alone, taken for a Lean type -/
theorem Reads.flat {α : Type} {P : Program} {T k : Nat} {f : α → List Value} {hl : ∀ x, (f x).length = k} {h1 : ∀ x, (f x).all Value.oneCell' = true} {ok : α → Prop} (d : Nat) (hf : flat P d T k = true)
    (hd : ∀ zs : List Int, zs.length = k → (∀ z ∈ zs, I64 z) → ∃ x, f x = zs.map (fun n => Value.int .i64 n) ∧ ok x) : Reads P T (Rep.enc k f hl h1) ok := fun enc W sp held n cs x h => by
  obtain ⟨h2, h3⟩ := flat_reads d T k hf enc W sp held n cs x h
  obtain ⟨zs, rfl, hz⟩ := ints_of_cells h3
  obtain ⟨x, hx, hok⟩ := hd zs (by simpa using h2) hz
  exact ⟨x, hx.symm, hok⟩
end Go.Proofs.YtihgpbpcbbgdiaaGreat

/- '==' on types of integers alone. -/
namespace Go.Proofs.YtihgpbpcbbgdiaaGreat
open Go.RowKit
set_option linter.unusedVariables false
set_option linter.unusedSimpArgs false
def fstepF (P : Program) (ok : TypeId → Nat → Bool) (o : Option Nat) (f : Go.Field) : Option Nat := o.bind fun o => match (P.info? f.type).map (·.size) with
  | some q => if f.offset == o && ok f.type q then some (o + q) else none
  | none => none
/-- the type is made of so many integers, and can be compared -/
def flatE (P : Program) : Nat → TypeId → Nat → Bool
  | 0, _, _ => false
  | d + 1, t, k => (P.info? t).map (·.size) == some k && match P.underlying t with
    | some (.int .i64) => k == 1
    | some (.array n e) => match (P.info? e).map (·.size) with
      | some q => k == n * q && flatE P d e q
      | none => false
    | some (.struct fs) => !P.stoodInHeld t && fs.toList.all (fun f => f.name != "_") &&
      fs.toList.foldl (fstepF P (flatE P d)) (some 0) == some k
    | _ => false
def fval (P : Program) (t : TypeId) (zs : List Int) : Value := match P.underlying t with
  | some (.struct _) | some (.array _ _) => .agg (zs.map (fun n => Value.int .i64 n)).toArray
  | _ => .int .i64 (zs.headD 0)
theorem flatE_size {P : Program} {d t k : Nat} (h : flatE P d t k = true) : (P.info? t).map (·.size) = some k := by
  cases d with
  | zero => cases h
  | succ d => simp only [flatE, Bool.and_eq_true, beq_iff_eq] at h; exact h.1
theorem run_size {P : Program} {t k : Nat} (h : (P.info? t).map (·.size) = some k) (w : World) : (sizeOf t).run P w = .ok k w := by
  cases hq : P.info? t with
  | none => simp [hq] at h
  | some i => simp [hq] at h; simp [sizeOf, typeInfo, hq, h]
theorem part_flat {P : Program} {d t k off : Nat} {zs : List Int} (h : flatE P d t k = true) (ho : off + k ≤ zs.length) (w : World) :
    (part t (zs.map (fun n => Value.int .i64 n)).toArray off).run P w = .ok (fval P t ((zs.drop off).take k)) w := by
  have hs := flatE_size h
  cases d with
  | zero => cases h
  | succ d =>
    simp only [flatE, Bool.and_eq_true, beq_iff_eq] at h
    obtain ⟨_, h⟩ := h
    cases hu : P.underlying t with
    | none => rw [hu] at h; cases h
    | some D =>
      rw [hu] at h
      have ex : (zs.map (fun n => Value.int .i64 n)).toArray.extract off (off + k) = (((zs.drop off).take k).map (fun n => Value.int .i64 n)).toArray := by
        rw [List.extract_toArray, List.extract_eq_take_drop, List.map_take, List.map_drop]
        congr 2; omega
      cases D
      case int q =>
        have hq : q = .i64 ∧ k = 1 := by cases q <;> simp at h <;> exact ⟨rfl, h⟩
        obtain ⟨rfl, rfl⟩ := hq
        have hlt : off < zs.length := by omega
        have e : ((zs.drop off).take 1).headD 0 = zs[off] := by rw [List.drop_eq_getElem_cons hlt]; rfl
        unfold part isAgg fval
        simp only [Sem.run_bind, run_underlying hu, Result.andThen_ok, Sem.run_pure, Bool.false_eq_true, if_false, hu, e]
        rw [List.getElem?_toArray, List.getElem?_map, List.getElem?_eq_getElem hlt]; rfl
      case array n e =>
        unfold part isAgg fval
        simp only [Sem.run_bind, run_underlying hu, Result.andThen_ok, Sem.run_pure, if_true, run_size hs, hu, ex]
      case struct fs =>
        unfold part isAgg fval
        simp only [Sem.run_bind, run_underlying hu, Result.andThen_ok, Sem.run_pure, if_true, run_size hs, hu, ex]
      all_goals simp at h
theorem drop_split {zs ys : List Int} {o k : Nat} (h : zs.length = ys.length) (ho : o + k ≤ zs.length) : zs.drop o = ys.drop o ↔ (zs.drop o).take k = (ys.drop o).take k ∧ zs.drop (o + k) = ys.drop (o + k) := by
  constructor
  · intro e; rw [e, ← List.drop_drop, e, List.drop_drop]; exact ⟨rfl, rfl⟩
  · rintro ⟨e1, e2⟩
    rw [← List.take_append_drop k (zs.drop o), ← List.take_append_drop k (ys.drop o), e1, List.drop_drop, List.drop_drop, e2]
abbrev fstep (P : Program) (d : Nat) := fstepF P (flatE P d)
theorem fstep_none (P : Program) (d : Nat) : ∀ fs : List Go.Field, fs.foldl (fstep P d) none = none
  | [] => rfl
  | f :: fs => fstep_none P d fs
def EqOk (P : Program) (d : Nat) : Prop := ∀ t k, flatE P d t k = true → ∀ (m : Nat) (zs ys : List Int), zs.length = k → ys.length = k → ∀ w, ∃ b, (Op.equalIn (d + m) t (fval P t zs) (fval P t ys)).run P w = .ok b w ∧ (b = true ↔ zs = ys)
theorem eq_fields {P : Program} {d : Nat} (ih : EqOk P d) (m : Nat) {zs ys : List Int} {k : Nat} (hz : zs.length = k) (hy : ys.length = k) : ∀ (fs : List Go.Field) (o : Nat), o ≤ k → fs.all (fun f => f.name != "_") = true → fs.foldl (fstep P d) (some o) = some k → ∀ w,
    ∃ b, (Op.eqFields (d + m) (zs.map (fun n => Value.int .i64 n)).toArray (ys.map (fun n => Value.int .i64 n)).toArray fs).run P w = .ok b w ∧ (b = true ↔ zs.drop o = ys.drop o)
  | [], o, _, _, h, w => by
    simp at h; subst h
    exact ⟨true, by simp [Op.eqFields], by rw [List.drop_of_length_le (by omega), List.drop_of_length_le (by omega)]; simp⟩
  | f :: fs, o, hok, hn, h, w => by
    rw [List.all_cons, Bool.and_eq_true] at hn
    have hn1 : f.name ≠ "_" := by simpa using hn.1
    rw [List.foldl_cons] at h
    cases hq : (P.info? f.type).map (·.size) with
    | none =>
      have : fstep P d (some o) f = none := by unfold fstep fstepF; simp only [Option.bind_some, hq]
      rw [this, fstep_none] at h; cases h
    | some q =>
      by_cases hc : (f.offset == o && flatE P d f.type q) = true
      · have e : fstep P d (some o) f = some (o + q) := by unfold fstep fstepF; simp only [Option.bind_some, hq]; rw [if_pos hc]
        rw [e] at h
        simp only [Bool.and_eq_true, beq_iff_eq] at hc
        have hle : o + q ≤ k := by
          have key : ∀ (l : List Go.Field) (a b : Nat), l.foldl (fstep P d) (some a) = some b → a ≤ b := by
            intro l
            induction l with
            | nil => intro a b hab; simp at hab; omega
            | cons g l ihl =>
              intro a b hab
              rw [List.foldl_cons] at hab
              cases hs : fstep P d (some a) g with
              | none => rw [hs, fstep_none] at hab; cases hab
              | some c =>
                rw [hs] at hab
                have h1 := ihl c b hab
                unfold fstep fstepF at hs
                simp only [Option.bind_some] at hs
                split at hs
                · split at hs
                  · cases hs; omega
                  · cases hs
                · cases hs
          exact key fs _ _ h
        obtain ⟨b1, hb1, hb1'⟩ := ih f.type q hc.2 m ((zs.drop o).take q) ((ys.drop o).take q) (by simp; omega) (by simp; omega) w
        obtain ⟨b2, hb2, hb2'⟩ := eq_fields ih m hz hy fs (o + q) hle hn.2 h w
        have p1 := part_flat (zs := zs) (off := f.offset) hc.2 (by omega) w
        have p2 := part_flat (zs := ys) (off := f.offset) hc.2 (by omega) w
        rw [hc.1] at p1 p2
        have hd := drop_split (zs := zs) (ys := ys) (o := o) (k := q) (by omega) (by omega)
        simp only [Op.eqFields, ne_eq, hn1, not_false_eq_true, if_true, Sem.run_bind, Sem.run_ite, hc.1, p1, p2, Result.andThen_ok, hb1]
        cases b1 with
        | true => exact ⟨b2, by simpa using hb2, by rw [hb2', hd]; simp [hb1'.1 rfl]⟩
        | false => exact ⟨false, by simp, by rw [hd]; simp; intro e; exact absurd (hb1'.2 e) (by simp)⟩
      · have : fstep P d (some o) f = none := by unfold fstep fstepF; simp only [Option.bind_some, hq]; rw [if_neg hc]
        rw [this, fstep_none] at h; cases h
theorem eq_flat {P : Program} : ∀ d, EqOk P d
  | 0 => fun t k h => by cases h
  | d + 1 => fun t k h m zs ys hz hy w => by
    have ih := eq_flat (P := P) d
    have hs := flatE_size h
    rw [flatE, Bool.and_eq_true] at h
    replace h := h.2
    rw [show d + 1 + m = (d + m) + 1 by omega]
    cases hu : P.underlying t with
    | none => rw [hu] at h; cases h
    | some D =>
      rw [hu] at h
      cases D <;> (try dsimp only at h)
      case int q =>
        have hq : q = .i64 ∧ k = 1 := by cases q <;> simp at h <;> exact ⟨rfl, h⟩
        obtain ⟨rfl, rfl⟩ := hq
        match zs, ys, hz, hy with
        | [a], [b], _, _ =>
          refine ⟨a == b, ?_, by simp⟩
          unfold fval; simp only [hu]
          exact eq_int hu _ _ _ w
      case struct fs =>
        have h' : (!P.stoodInHeld t) = true ∧ fs.toList.all (fun f => f.name != "_") = true ∧ fs.toList.foldl (fstep P d) (some 0) = some k := by
          simp only [Bool.and_eq_true, beq_iff_eq] at h
          exact ⟨h.1.1, h.1.2, h.2⟩
        have hf : P.fieldsOf t = fs := by unfold Program.fieldsOf; rw [hu]
        obtain ⟨b, hb, hb'⟩ := eq_fields ih m hz hy fs.toList 0 (Nat.zero_le _) h'.2.1 h'.2.2 w
        refine ⟨b, ?_, by rw [hb']; simp⟩
        unfold fval; simp only [hu]
        rw [run_equalIn_agg w (d + m) t _ _ (by rw [hf]; exact hu) (by simpa using h'.1), hf]
        exact hb
      case array n e =>
        cases hq : (P.info? e).map (·.size) with
        | none => rw [hq] at h; cases h
        | some q =>
          rw [hq] at h
          simp only [Bool.and_eq_true, beq_iff_eq] at h
          obtain ⟨hk, he⟩ := h
          unfold fval; simp only [hu]
          unfold Op.equalIn
          simp only [Sem.run_bind, run_underlying hu, Result.andThen_ok, run_size hq, Std.Legacy.Range.forIn_eq_forIn_range']
          have key : ∀ (r i : Nat), i + r = n → ∀ w : World, ∃ b, (zs.drop (i * q) = ys.drop (i * q) ↔ b = true) ∧
              (forIn (List.range' i r) ((none, ()) : Option Bool × Unit) (fun (i : Nat) (_ : Option Bool × Unit) => (do
                  let a ← part e (zs.map (fun n => Value.int .i64 n)).toArray (i * q)
                  let b ← part e (ys.map (fun n => Value.int .i64 n)).toArray (i * q)
                  let r ← Op.equalIn (d + m) e a b
                  if (!r) = true then pure (ForInStep.done (some false, ())) else pure (ForInStep.yield (none, ())) : Sem (ForInStep (Option Bool × Unit))))).run P w = .ok (if b then (none, ()) else (some false, ())) w := by
            intro r
            induction r with
            | zero =>
              intro i hi w
              refine ⟨true, ?_, by simp⟩
              have : i = n := by omega
              subst this
              rw [List.drop_of_length_le (by omega), List.drop_of_length_le (by omega)]; simp
            | succ r ihr =>
              intro i hi w
              have hle : i * q + q ≤ n * q := by
                have : (i + 1) * q ≤ n * q := Nat.mul_le_mul_right q (by omega)
                rw [Nat.add_mul, Nat.one_mul] at this; exact this
              have p1 := part_flat (zs := zs) (off := i * q) he (by omega) w
              have p2 := part_flat (zs := ys) (off := i * q) he (by omega) w
              obtain ⟨b1, hb1, hb1'⟩ := ih e q he m ((zs.drop (i * q)).take q) ((ys.drop (i * q)).take q) (by simp; omega) (by simp; omega) w
              obtain ⟨b2, hb2, hb2'⟩ := ihr (i + 1) (by omega) w
              have hd := drop_split (zs := zs) (ys := ys) (o := i * q) (k := q) (by omega) (by omega)
              rw [show i * q + q = (i + 1) * q by rw [Nat.add_mul, Nat.one_mul]] at hd
              rw [List.range'_succ, List.forIn_cons]
              simp only [Sem.run_bind, p1, p2, Result.andThen_ok, hb1]
              cases b1 with
              | true =>
                refine ⟨b2, by rw [← hb2, hd]; simp [hb1'.1 rfl], ?_⟩
                simpa using hb2'
              | false =>
                refine ⟨false, by rw [hd]; simp; intro e; exact absurd (hb1'.2 e) (by simp), ?_⟩
                simp
          obtain ⟨b, hb, hb'⟩ := key n 0 (by omega) w
          refine ⟨b, ?_, by rw [← hb]; simp⟩
          rw [show ([:n] : Std.Legacy.Range).size = n by simp [Std.Legacy.Range.size], hb']
          cases b <;> simp
      all_goals simp at h
end Go.Proofs.YtihgpbpcbbgdiaaGreat
