/- What the functions of packages vec and rights tell. -/
import Derived.Test.YtihgpbpcbbgdiaaGreatCore9
import Derived.Test.YtihgpbpcbbgdiaaGreatNum
namespace Go.Proofs.YtihgpbpcbbgdiaaGreat
open Go.RowKit
set_option linter.unusedVariables false
set_option linter.unusedSimpArgs false
theorem vget {v : Vec} {k : Nat} (h : k < 16) : (encVec v)[k]? = some (vi v[k]) := by
  unfold encVec
  rw [List.getElem?_map, Vector.getElem?_toList, Vector.getElem?_eq_getElem h]; rfl
theorem vgetI {v : Vec} {k : Nat} (h : k < 16) : (encVec v)[(k : Int).toNat]? = some (vi v[k]) := by rw [Int.toNat_natCast]; exact vget h
def vecRight (v : Vec) : Bool := v.toList.all fun n => decide (0 ≤ n) && isN n
theorem vtake_succ {l : List Int} {p : Int → Bool} {k : Nat} {x : Int} (hx : l[k]? = some x) (h : (l.take k).all p = true) (h1 : p x = true) : (l.take (k + 1)).all p = true := by
  rw [List.take_add_one, hx, List.all_append, h]; simp [h1]
theorem vall_false {l : List Int} {p : Int → Bool} {k : Nat} {x : Int} (hx : l[k]? = some x) (h1 : p x = false) : l.all p = false := by
  rw [List.all_eq_false]; exact ⟨x, List.mem_of_getElem? hx, by simp [h1]⟩
theorem vl {v : Vec} {k : Nat} (h : k < 16) : v.toList[k]? = some v[k] := by rw [Vector.getElem?_toList, Vector.getElem?_eq_getElem h]

def vZ : Vec := Vector.replicate 16 0
def rZ : Rights := ⟨vZ, vZ, Vector.replicate 16 vZ⟩
def cZ : Counter := ⟨0, 0, 0, rZ, rZ⟩
def lZ : Lock := ⟨0, 0, 0, 0⟩
def hZ : Hold := ⟨0, 0, 0, 0, 0⟩
def pZ : Plan := ⟨0, ⟨#[]⟩, ⟨#[]⟩, 0, 0⟩
def fZ : Field := ⟨⟨#[]⟩, 0, 0, cZ, lZ, []⟩
instance : ZeI Tryz.prog 39 (encVec vZ) := ⟨by kernel_rfl⟩
instance : ZeI Tryz.prog 42 (encRights rZ) := ⟨by kernel_rfl⟩
instance : ZeI Tryz.prog 44 (encCounter cZ) := ⟨by kernel_rfl⟩
instance : ZeI Tryz.prog 46 (encLock lZ) := ⟨by kernel_rfl⟩
instance : ZeI Tryz.prog 129 (encHold hZ) := ⟨by kernel_rfl⟩
instance : ZeI Tryz.prog 24 (encPlan pZ) := ⟨by kernel_rfl⟩
instance : ZeI Tryz.prog 49 (encF fZ none 0) := ⟨by kernel_rfl⟩
def vAt (v : Vec) (i : Int) : Int := v.toList.getD i.toNat 0
def vSet (v : Vec) (i : Int) (x : Int) : Vec := v.setIfInBounds i.toNat x
def mAt (m : Vector Vec 16) (i : Int) : Vec := m.toList.getD i.toNat vZ
def mSet (m : Vector Vec 16) (i : Int) (x : Vec) : Vector Vec 16 := m.setIfInBounds i.toNat x
theorem vAt_nat {v : Vec} {k : Nat} (h : k < 16) : vAt v (k : Int) = v[k] := by simp [vAt, List.getD, Vector.getElem?_toList, Vector.getElem?_eq_getElem h]
theorem gV {v : Vec} {i : Int} (h0 : 0 ≤ i) (h1 : i < 16) : (encVec v)[0 + i.toNat * 1]? = some (vi (vAt v i)) := by
  rw [Nat.zero_add, Nat.mul_one]
  unfold encVec vAt
  have h : i.toNat < 16 := by omega
  rw [List.getElem?_map, List.getD, Vector.getElem?_toList, Vector.getElem?_eq_getElem h]; rfl
theorem uV {v : Vec} {i x : Int} (h0 : 0 ≤ i) (h1 : i < 16) : (encVec v).take (0 + i.toNat * 1) ++ [vi x] ++ (encVec v).drop (0 + i.toNat * 1 + 1) = encVec (vSet v i x) := by
  rw [Nat.zero_add, Nat.mul_one]
  unfold encVec vSet
  rw [Vector.toList_setIfInBounds, ← List.map_take, ← List.map_drop, List.set_eq_take_append_cons_drop]
  have h : i.toNat < v.toList.length := by simp; omega
  rw [if_pos h]
  simp
/-- joined up to k -/
def vJoinTo (a b : Vec) (k : Nat) : Vec := Vector.ofFn fun i => if i.val < k then max a[i] b[i] else a[i]
def vJoin (a b : Vec) : Vec := Vector.zipWith max a b
theorem vJoinTo_0 (a b : Vec) : vJoinTo a b 0 = a := by ext i h; simp [vJoinTo]
theorem vJoinTo_16 (a b : Vec) : vJoinTo a b 16 = vJoin a b := by ext i h; simp [vJoinTo, vJoin, h]
theorem vJoinTo_succ (a b : Vec) {k : Nat} (h : k < 16) : vSet (vJoinTo a b k) (k : Int) (max (vAt (vJoinTo a b k) (k : Int)) (vAt b (k : Int))) = vJoinTo a b (k + 1) := by
  rw [vAt_nat h, vAt_nat h]
  ext i hi
  simp only [vSet, Int.toNat_natCast, vJoinTo, Vector.getElem_setIfInBounds, Vector.getElem_ofFn]
  by_cases e : k = i
  · subst e; simp
  · simp only [e, if_false]
    have : (i < k + 1) = (i < k) := by apply propext; omega
    simp only [this]
abbrev pV (p : Vec × Int) : Value := .tuple #[.agg (encVec p.1).toArray, vi p.2]
def vGrow (v : Vec) (k n : Int) : Vec × Int :=
  if 0 ≤ k ∧ k < 16 ∧ 0 ≤ n then (if (nAdd (vAt v k) n).2 = 0 then (vSet v k (nAdd (vAt v k) n).1, 0) else (vZ, (nAdd (vAt v k) n).2)) else (vZ, 1)
theorem vec_known {M : Mem} {B : Nat} {v : Vec} (hK : ∀ j u, (encVec v)[j]? = some u → M ⟨B, j, none⟩ = some u) : SlR rInt M (some ⟨B, 0, none⟩) 16 v.toList :=
  SlR.frozen1 (f := vi) rfl (fun _ _ => rfl) (by simp) (fun _ => ⟨B, 0, rfl, fun j u hu => by rw [Nat.zero_add]; exact hK j u hu⟩)
theorem num_SumN {xs : List Int} {n : Nat} {A : Option Addr} {cap : Nat} {M : Mem} (hS : SlR rInt M A cap xs) (hn : xs.length = n) (hlen : n ≤ 1000000) : Ctr Tryz.prog 127 [.slice A n cap] M [] (fun r _ _ => r = pr2 (nSum xs)) := by
  subst hn; exact num_Sum xs A cap M hS hlen

theorem vec_Right (v : Vec) (M : Mem) : Ctr Tryz.prog 194 [.agg (encVec v).toArray] M [] (fun r _ _ => r = .bool (vecRight v)) := by
  refine ctr Tryz.func194 rfl Tryz.ntmps194 rfl fun w => ?_
  refine c_seq <| c_region <| jbox rfl rfl rfl fun B1 => ja rfl rfl <| j_nil <| p_thn <| c_seq <| c_seq <| c_region <| jldw 0 rfl rfl rfl (len_vec _) <| jm rfl rfl <| j_nil <| p_thn <| c_block <| c_lp (X := Nat) (fun k => k ≤ 16 ∧ (v.toList.take k).all (fun n => decide (0 ≤ n) && isN n) = true) (fun k => 16 - k) (fun k => [(6, vi (k : Int))]) [5] 0 ?_ (sub_c rfl <| sub_c rfl <| sub_n) ?_
  · exact ⟨by omega, rfl⟩
  · intro k hI
    obtain ⟨hk, hall⟩ := hI
    refine c_seq <| c_region <| jlss rfl rfl rfl <| j_nil <| p_thn <| c_seq <| c_cond rfl (fun hb2 => ?_) (fun hb2 => ?_)
    · have phb2 := hb2; try simp at phb2
      refine c_skip <| p_thn <| c_seq <| c_block <| c_seq <| c_region <| jidx1 rfl rfl rfl rfl (by omega) (by omega) (vgetI (by omega)) <| ja rfl rfl <| j_nil <| p_thn <| c_seq <| c_region <| jm rfl rfl <| jlss rfl rfl rfl <| jm rfl rfl <| jgs rfl rfl (fun hb3 => ?_) (fun hb3 => ?_)
      · have phb3 := hb3; try simp at phb3
        refine jg_off rfl rfl rfl hb3 <| jg_off rfl rfl rfl hb3 <| jg_off rfl rfl rfl hb3 <| jpick_t rfl rfl hb3 rfl <| j_nil <| p_thn <| c_cond_kt rfl rfl <| c_seq <| c_region <| ja rfl rfl <| j_nil <| p_thn <| c_ret <| p_inb_ret <| p_thn_ret <| p_lp_ret <| p_inb_ret <| p_thn_ret <| ?_
        refine p_ret0 rfl rfl (.tmp rfl <| .nil) ?_
        show Value.bool false = _
        congr 1; symm
        exact vall_false (vl (k := k) (by omega)) (by simp [*]; omega)
      · have phb3 := hb3; try simp at phb3
        refine jg rfl rfl hb3 <| jm rfl rfl <| jg rfl rfl hb3 <| jcallv rfl rfl rfl (num_Is _ _) <| jg rfl rfl hb3 <| jnot rfl rfl <| jpick_f rfl rfl hb3 rfl <| j_nil <| p_thn <| c_cond rfl (fun hb4 => ?_) (fun hb4 => ?_)
        · have phb4 := hb4; try simp at phb4
          refine c_seq <| c_region <| ja rfl rfl <| j_nil <| p_thn <| c_ret <| p_inb_ret <| p_thn_ret <| p_lp_ret <| p_inb_ret <| p_thn_ret <| ?_
          refine p_ret0 rfl rfl (.tmp rfl <| .nil) ?_
          show Value.bool false = _
          congr 1; symm
          exact vall_false (vl (k := k) (by omega)) (by simp [*])
        · have phb4 := hb4; try simp at phb4
          refine c_skip <| p_inb <| p_thn <| c_region <| jadd rfl rfl rfl (by first | exact wr (by omega) (by omega) | rfl) <| jm rfl rfl <| j_nil <| ?_
          refine p_lp (k + 1) ?_ ?_ (sub_c rfl <| sub_c rfl <| sub_n) rfl rfl
          · exact ⟨by omega, vtake_succ (vl (by omega)) hall (by simp [*])⟩
          · omega
    · have phb2 := hb2; try simp at phb2
      refine c_exit <| p_thn_exit <| p_lp_exit <| p_inb_exit <| p_thn <| c_seq <| c_region <| ja rfl rfl <| j_nil <| p_thn <| c_ret <| ?_
      refine p_ret0 rfl rfl (.tmp rfl <| .nil) ?_
      show Value.bool true = _
      congr 1; symm
      rw [List.take_of_length_le (by simp [*]; omega)] at hall
      exact hall
theorem vec_Join (a b : Vec) (M : Mem) : Ctr Tryz.prog 180 [.agg (encVec a).toArray, .agg (encVec b).toArray] M [] (fun r _ _ => r = .agg (encVec (vJoin a b)).toArray) := by
  refine ctr Tryz.func180 rfl Tryz.ntmps180 rfl fun w => ?_
  refine c_seq <| c_region <| jbox rfl rfl rfl fun B1 => jbox rfl rfl rfl fun B2 => jalloc rfl fun B3 => j_nil <| p_thn <| c_seq <| c_seq <| c_region <| jm rfl rfl <| j_nil <| p_thn <| c_block <| c_lpL (X := Nat) (fun k => k ≤ 16) (fun k => 16 - k) (fun k => [(6, vi (k : Int))]) [4, 3, 2] (fun k => [.blk B3 39 (encVec vZ), .blk B2 39 (encVec b), .blk B1 39 (encVec (vJoinTo a b k))]) 0 ?_ (sub_c rfl <| sub_c rfl <| sub_c rfl <| sub_c rfl <| sub_n) (by rw [vJoinTo_0]) ?_
  · omega
  · intro k hI
    refine c_seq <| c_region <| jlss rfl rfl rfl <| j_nil <| p_thn <| c_seq <| c_cond rfl (fun hb4 => ?_) (fun hb4 => ?_)
    · have phb4 := hb4; try simp at phb4
      refine c_skip <| p_thn <| c_seq <| c_block <| c_seq <| c_region <| jm rfl rfl <| ja rfl rfl <| j_nil <| p_thn <| c_draw [3, 6, 7] (by kernel_rfl) <| jd_z (i := 0) rfl rfl (by kernel_rfl) (by kernel_rfl) (by kernel_rfl) (by kernel_rfl) rfl (zm rfl) <| jd_z (i := 1) rfl rfl (by kernel_rfl) (by kernel_rfl) (by kernel_rfl) (by kernel_rfl) rfl (zm rfl) <| jd_z (i := 2) rfl rfl (by kernel_rfl) (by kernel_rfl) (by kernel_rfl) (by kernel_rfl) rfl (zia rfl rfl (by omega) (by omega)) <| jd_first (i := 3) rfl rfl (by kernel_rfl) (by kernel_rfl) (by kernel_rfl) (by kernel_rfl) (by kernel_rfl) rfl (fun _ h => h) (yld1 2 rfl rfl (gV (by omega) (by omega))) <| jd_z (i := 4) rfl rfl (by kernel_rfl) (by kernel_rfl) (by kernel_rfl) (by kernel_rfl) rfl (zm rfl) <| jd_z (i := 5) rfl rfl (by kernel_rfl) (by kernel_rfl) (by kernel_rfl) (by kernel_rfl) rfl (zia rfl rfl (by omega) (by omega)) <| jd_first (i := 6) rfl rfl (by kernel_rfl) (by kernel_rfl) (by kernel_rfl) (by kernel_rfl) (by kernel_rfl) rfl (fun _ h => h) (yld1 1 rfl rfl (gV (by omega) (by omega))) <| jd_first (i := 7) rfl rfl (by kernel_rfl) (by kernel_rfl) (by kernel_rfl) (by kernel_rfl) (by kernel_rfl) rfl (fun _ h => h) (ymax rfl rfl) <| jd_z (i := 8) rfl rfl (by kernel_rfl) (by kernel_rfl) (by kernel_rfl) (by kernel_rfl) rfl (zia rfl rfl (by omega) (by omega)) <| jd_one (i := 9) (by kernel_rfl) rfl <| jst 2 rfl rfl rfl rfl rfl rfl (by simp [len_vec]; omega) (uV (by omega) (by omega)) <| j_nil <| p_jd rfl (.inl (by kernel_rfl)) <| jd_done (by kernel_rfl) <| p_inb <| p_thn <| c_region <| jadd rfl rfl rfl (by first | exact wr (by omega) (by omega) | rfl) <| jm rfl rfl <| j_nil <| ?_
      refine p_lp (k + 1) ?_ ?_ (sub_c rfl <| sub_c rfl <| sub_c rfl <| sub_c rfl <| sub_n) rfl (by rw [← vJoinTo_succ a b (by omega)]; rfl)
      · omega
      · omega
    · have phb4 := hb4; try simp at phb4
      refine c_exit <| p_thn_exit <| p_lp_exit <| p_inb_exit <| p_thn <| c_seq <| c_region <| jldw 2 rfl rfl rfl (len_vec _) <| jstw 0 rfl rfl rfl rfl (len_vec _) (one_vec _) (len_vec _) <| j_nil <| p_thn <| c_ret <| ?_
      refine p_ret0 rfl rfl (.agg 0 inferInstance rfl rfl (len_vec _) <| .nil) ?_
      show Value.agg _ = _
      obtain rfl : k = 16 := by omega
      rw [vJoinTo_16]
theorem vec_Sum (v : Vec) (M : Mem) : Ctr Tryz.prog 195 [.agg (encVec v).toArray] M [] (fun r _ _ => r = pr2 (nSum v.toList)) := by
  refine ctr Tryz.func195 rfl Tryz.ntmps195 rfl fun w => ?_
  refine c_seq <| c_region <| jbox rfl rfl rfl fun B1 => j_known fun M1 hM1 hK1 => ja rfl rfl <| ja rfl rfl <| j_nil <| p_thn <| c_seq <| c_region <| jsa rfl rfl <| jcallv rfl rfl rfl (num_SumN (vec_known hK1) (by simp) (by omega)) <| jext rfl rfl rfl <| jext rfl rfl rfl <| ja rfl rfl <| ja rfl rfl <| j_nil <| p_thn <| c_ret <| ?_
  refine p_ret0 rfl rfl (.tmp rfl <| .tmp rfl <| .nil) ?_
  rfl
theorem vec_Grow (v : Vec) (k n : Int) (M : Mem) : Ctr Tryz.prog 163 [.agg (encVec v).toArray, vi k, vi n] M [] (fun r _ _ => r = pV (vGrow v k n)) := by
  refine ctr Tryz.func163 rfl Tryz.ntmps163 rfl fun w => ?_
  refine c_seq <| c_region <| jbox rfl rfl rfl fun B1 => jalloc rfl fun B2 => ja rfl rfl <| j_nil <| p_thn <| c_seq <| c_seq <| c_region <| jm rfl rfl <| jlss rfl rfl rfl <| jm rfl rfl <| jgs rfl rfl (fun hb3 => ?_) (fun hb3 => ?_)
  · have phb3 := hb3; try simp at phb3
    refine jg_off rfl rfl rfl hb3 <| jg_off rfl rfl rfl hb3 <| jpick_t rfl rfl hb3 rfl <| jm rfl rfl <| jg_off rfl rfl rfl rfl <| jg_off rfl rfl rfl rfl <| jpick_t rfl rfl rfl rfl <| j_nil <| p_thn <| c_cond_kt rfl rfl <| c_seq <| c_region <| jbua0 rfl <| jstw 0 rfl rfl rfl rfl (len_vec _) (one_vec _) (len_vec _) <| ja rfl rfl <| j_nil <| p_thn <| c_ret <| p_thn_ret <| ?_
    refine p_ret0 rfl rfl (.agg 0 inferInstance rfl rfl (len_vec _) <| .tmp rfl <| .nil) ?_
    show pV (_, _) = pV _
    unfold vGrow
    simp only [if_neg (show ¬ (0 ≤ k ∧ k < 16 ∧ 0 ≤ n) by omega)]
    rfl
  · have phb3 := hb3; try simp at phb3
    refine jg rfl rfl hb3 <| jm rfl rfl <| jg rfl rfl hb3 <| jgeq rfl rfl rfl <| jpick_f rfl rfl hb3 rfl <| jm rfl rfl <| jgs rfl rfl (fun hb4 => ?_) (fun hb4 => ?_)
    · have phb4 := hb4; try simp at phb4
      refine jg_off rfl rfl rfl hb4 <| jg_off rfl rfl rfl hb4 <| jpick_t rfl rfl hb4 rfl <| j_nil <| p_thn <| c_cond_kt rfl rfl <| c_seq <| c_region <| jbua0 rfl <| jstw 0 rfl rfl rfl rfl (len_vec _) (one_vec _) (len_vec _) <| ja rfl rfl <| j_nil <| p_thn <| c_ret <| p_thn_ret <| ?_
      refine p_ret0 rfl rfl (.agg 0 inferInstance rfl rfl (len_vec _) <| .tmp rfl <| .nil) ?_
      show pV (_, _) = pV _
      unfold vGrow
      simp only [if_neg (show ¬ (0 ≤ k ∧ k < 16 ∧ 0 ≤ n) by omega)]
      rfl
    · have phb4 := hb4; try simp at phb4
      refine jg rfl rfl hb4 <| jm rfl rfl <| jg rfl rfl hb4 <| jlss rfl rfl rfl <| jpick_f rfl rfl hb4 rfl <| j_nil <| p_thn <| c_cond rfl (fun hb5 => ?_) (fun hb5 => ?_)
      · have phb5 := hb5; try simp at phb5
        refine c_seq <| c_region <| jbua0 rfl <| jstw 0 rfl rfl rfl rfl (len_vec _) (one_vec _) (len_vec _) <| ja rfl rfl <| j_nil <| p_thn <| c_ret <| p_thn_ret <| ?_
        refine p_ret0 rfl rfl (.agg 0 inferInstance rfl rfl (len_vec _) <| .tmp rfl <| .nil) ?_
        show pV (_, _) = pV _
        unfold vGrow
        simp only [if_neg (show ¬ (0 ≤ k ∧ k < 16 ∧ 0 ≤ n) by omega)]
        rfl
      · have phb5 := hb5; try simp at phb5
        refine c_skip <| p_thn <| c_seq <| c_region <| jm rfl rfl <| jia rfl rfl rfl (by omega) (by omega) <| jld1 1 rfl rfl rfl (gV (by omega) (by omega)) <| jm rfl rfl <| jcallv rfl rfl rfl (num_Add _ _ _) <| jm rfl rfl <| jext rfl rfl rfl <| jext rfl rfl rfl <| ja rfl rfl <| ja rfl rfl <| j_nil <| p_thn <| c_seq <| c_seq <| c_region <| jm rfl rfl <| jneq rfl rfl rfl <| j_nil <| p_thn <| c_cond rfl (fun hb6 => ?_) (fun hb6 => ?_)
        · have phb6 := hb6; try simp at phb6
          refine c_seq <| c_region <| jbua0 rfl <| jm rfl rfl <| jstw 0 rfl rfl rfl rfl (len_vec _) (one_vec _) (len_vec _) <| ja rfl rfl <| j_nil <| p_thn <| c_ret <| p_thn_ret <| ?_
          refine p_ret0 rfl rfl (.agg 0 inferInstance rfl rfl (len_vec _) <| .tmp rfl <| .nil) ?_
          show pV (_, _) = pV _
          unfold vGrow
          rw [if_pos (by omega)]
          simp [*, vZ, vSet] <;> rfl
        · have phb6 := hb6; try simp at phb6
          refine c_skip <| p_thn <| c_seq <| c_region <| jm rfl rfl <| jm rfl rfl <| jia rfl rfl rfl (by omega) (by omega) <| jst 1 rfl rfl rfl rfl rfl rfl (by simp [len_vec]; omega) (uV (by omega) (by omega)) <| j_nil <| p_thn <| c_seq <| c_region <| jldw 1 rfl rfl rfl (len_vec _) <| jstw 0 rfl rfl rfl rfl (len_vec _) (one_vec _) (len_vec _) <| ja rfl rfl <| j_nil <| p_thn <| c_ret <| ?_
          refine p_ret0 rfl rfl (.agg 0 inferInstance rfl rfl (len_vec _) <| .tmp rfl <| .nil) ?_
          show pV (_, _) = pV _
          unfold vGrow
          rw [if_pos (by omega)]
          simp [*, vZ, vSet] <;> rfl
attribute [irreducible] vecRight vGrow vJoin
end Go.Proofs.YtihgpbpcbbgdiaaGreat
