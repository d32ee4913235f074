/- Several texts in one. -/
import Derived.Test.YtihgpbpcbbgdiaaGreatOrd9
/- What the functions of package rights tell. -/
namespace Go.Proofs.YtihgpbpcbbgdiaaGreat
open Go.RowKit
set_option linter.unusedVariables false
set_option linter.unusedSimpArgs false
def isR (i : Int) : Bool := decide (0 ≤ i) && decide (i < 16)
theorem isR_t {i : Int} (h : isR i = true) : 0 ≤ i ∧ i < 16 := by simpa [isR] using h
theorem isR_f {i : Int} (h : isR i = false) : ¬ (0 ≤ i ∧ i < 16) := by
  intro h'; have : isR i = true := by simp [isR, h']
  rw [this] at h; cases h
def ng (n : Int) : Int := IntKind.i64.wrap (-n)
def negs (v : Vec) : List Int := v.toList.map ng
def freeList (r : Rights) (k : Int) : List Int := vAt r.given k :: (r.moved.toList.map (fun row => vAt row k) ++ (ng (vAt r.used k) :: negs (mAt r.moved k)))
def rFree (r : Rights) (k : Int) : Int × Int := if isR k then nSum (freeList r k) else (0, 1)
def rRight (r : Rights) : Bool := vecRight r.given && vecRight r.used && (List.range 16).all fun i => vecRight (mAt r.moved i) && decide (vAt (mAt r.moved i) i = 0)
abbrev pR (p : Rights × Int) : Value := .tuple #[.agg (encRights p.1).toArray, vi p.2]
def rGive (r : Rights) (k n : Int) : Rights × Int := if (vGrow r.given k n).2 = 0 then ({ r with given := (vGrow r.given k n).1 }, 0) else (rZ, (vGrow r.given k n).2)
def rEnough (r : Rights) (k n : Int) : Int := if n < 0 then 1 else if (rFree r k).2 ≠ 0 then (rFree r k).2 else if n > (rFree r k).1 then 8 else 0
def rUse (r : Rights) (k n : Int) : Rights × Int :=
  if rEnough r k n = 0 then (if (vGrow r.used k n).2 = 0 then ({ r with used := (vGrow r.used k n).1 }, 0) else (rZ, (vGrow r.used k n).2)) else (rZ, rEnough r k n)
def rMove (r : Rights) (i k n : Int) : Rights × Int :=
  if isR i && isR k && decide (i ≠ k) then
    (if rEnough r i n = 0 then (if (vGrow (mAt r.moved i) k n).2 = 0 then ({ r with moved := mSet r.moved i (vGrow (mAt r.moved i) k n).1 }, 0) else (rZ, (vGrow (mAt r.moved i) k n).2)) else (rZ, rEnough r i n))
  else (rZ, 1)
def mJoinTo (a b : Vector Vec 16) (k : Nat) : Vector Vec 16 := Vector.ofFn fun i => if i.val < k then vJoin a[i] b[i] else a[i]
def rJoin (a b : Rights) : Rights := ⟨vJoin a.given b.given, vJoin a.used b.used, Vector.zipWith vJoin a.moved b.moved⟩
theorem mJoinTo_0 (a b : Vector Vec 16) : mJoinTo a b 0 = a := by ext i h; simp [mJoinTo]
theorem mJoinTo_16 (a b : Vector Vec 16) : mJoinTo a b 16 = Vector.zipWith vJoin a b := by
  apply Vector.ext; intro i h; simp [mJoinTo, h]
theorem mAt_nat {m : Vector Vec 16} {k : Nat} (h : k < 16) : mAt m (k : Int) = m[k] := by simp [mAt, List.getD, Vector.getElem?_toList, Vector.getElem?_eq_getElem h]
theorem mJoinTo_succ (a b : Vector Vec 16) {k : Nat} (h : k < 16) : mSet (mJoinTo a b k) (k : Int) (vJoin (mAt (mJoinTo a b k) (k : Int)) (mAt b (k : Int))) = mJoinTo a b (k + 1) := by
  rw [mAt_nat h, mAt_nat h]
  apply Vector.ext; intro i hi
  simp only [mSet, Int.toNat_natCast, mJoinTo, Vector.getElem_setIfInBounds, Vector.getElem_ofFn]
  by_cases e : k = i
  · subst e; simp
  · simp only [e, if_false]
    have : (i < k + 1) = (i < k) := by apply propext; omega
    simp only [this]
theorem negs_take {v : Vec} {k : Nat} (h : k < 16) : ((negs v).take k).map vi ++ [vi (ng v[k])] = ((negs v).take (k + 1)).map vi := by
  have : (negs v)[k]? = some (ng v[k]) := by unfold negs; rw [List.getElem?_map, vl h]; rfl
  rw [List.take_add_one, this, List.map_append]; rfl
theorem col_take {m : Vector Vec 16} {x : Int} {k : Nat} (h : k < 16) : ((m.toList.map (fun row => vAt row x)).take k) ++ [vAt (mAt m k) x] = (m.toList.map (fun row => vAt row x)).take (k + 1) := by
  have : (m.toList.map (fun row => vAt row x))[k]? = some (vAt (mAt m k) x) := by rw [mAt_nat h, List.getElem?_map, Vector.getElem?_toList, Vector.getElem?_eq_getElem h]; rfl
  rw [List.take_add_one, this]; rfl

theorem rights_is (i : Int) (M : Mem) : Ctr Tryz.prog 157 [vi i] M [] (fun r _ _ => r = .bool (isR i)) := by
  refine ctr Tryz.func157 rfl Tryz.ntmps157 rfl fun w => ?_
  refine c_seq <| c_region <| ja rfl rfl <| j_nil <| p_thn <| c_seq <| c_region <| jm rfl rfl <| jgeq rfl rfl rfl <| jm rfl rfl <| jgs rfl rfl (fun hb1 => ?_) (fun hb1 => ?_)
  · have phb1 := hb1; try simp at phb1
    refine jg rfl rfl hb1 <| jm rfl rfl <| jg rfl rfl hb1 <| jlss rfl rfl rfl <| jpick_t rfl rfl hb1 rfl <| ja rfl rfl <| j_nil <| p_thn <| c_ret <| ?_
    refine p_ret0 rfl rfl (.tmp rfl <| .nil) ?_
    show Value.bool _ = _
    congr 1; symm
    simp [isR, *]
  · have phb1 := hb1; try simp at phb1
    refine jg_off rfl rfl rfl hb1 <| jg_off rfl rfl rfl hb1 <| jpick_f rfl rfl hb1 rfl <| ja rfl rfl <| j_nil <| p_thn <| c_ret <| ?_
    refine p_ret0 rfl rfl (.tmp rfl <| .nil) ?_
    show Value.bool _ = _
    congr 1; symm
    simp [isR, *]
theorem rights_less (v : Vec) (M : Mem) : Ctr Tryz.prog 158 [.agg (encVec v).toArray] M [] (fun r _ L' => L' = [.row r 3 1 16 ((negs v).map vi)]) := by
  refine ctr Tryz.func158 rfl Tryz.ntmps158 rfl fun w => ?_
  refine c_seq <| c_region <| jbox rfl rfl rfl fun B1 => ja rfl rfl <| j_nil <| p_thn <| c_seq <| c_region <| ja rfl rfl <| j_nil <| p_thn <| c_seq <| c_seq <| c_region <| jldw 0 rfl rfl rfl (len_vec _) <| jm rfl rfl <| j_nil <| p_thn <| c_block <| jc_nilrow none 3 1 <| c_lpL (X := Nat × Value) (fun q => q.1 ≤ 16) (fun q => 16 - q.1) (fun q => [(7, vi (q.1 : Int)), (3, q.2)]) [6, 2] (fun q => [.row q.2 3 1 q.1 (((negs v).take q.1).map vi), .blk B1 39 (encVec v)]) (0, .slice none 0 0) ?_ (sub_c rfl <| sub_c rfl <| sub_c rfl <| sub_c rfl <| sub_n) rfl ?_
  · exact Nat.zero_le _
  · intro q hI
    obtain ⟨k, u⟩ := q
    dsimp only at hI ⊢
    refine c_seq <| c_region <| jlss rfl rfl rfl <| j_nil <| p_thn <| c_seq <| c_cond rfl (fun hb3 => ?_) (fun hb3 => ?_)
    · have phb3 := hb3; try simp at phb3
      refine c_skip <| p_thn <| c_seq <| c_block <| c_seq <| c_region <| jidx1 rfl rfl rfl rfl (by omega) (by omega) (vgetI (by omega)) <| ja rfl rfl <| j_nil <| p_thn <| c_region <| jm rfl rfl <| jm rfl rfl <| jneg rfl rfl (by first | exact wr (by omega) (by omega) | rfl) <| jbsl (vs := [_]) [_] rfl rfl rfl (by simp) rfl rfl (by decide) (by decide) fun B4 => j_perm (fr_s <| fr_0) <| japp rfl rfl rfl (fun w ho => Src.blk (i := 1) rfl rfl) rfl rfl (by decide) (by omega) (by omega) fun vB5 => ja rfl rfl <| j_nil <| p_inb <| p_thn <| c_region <| jadd rfl rfl rfl (by first | exact wr (by omega) (by omega) | rfl) <| jm rfl rfl <| j_nil <| jp_perm (fr_s <| fr_s <| fr_0) <| jp_perm (fr_s <| fr_0) <| jp_tk (ap_s <| ap_s <| ap_0) <| ?_
      refine p_lp ((k + 1, _)) ?_ ?_ (sub_c rfl <| sub_c rfl <| sub_c rfl <| sub_c rfl <| sub_n) rfl (by rw [← negs_take (by omega)]; rfl)
      · show _ ≤ _; omega
      · show _ - _ < _ - _; omega
    · have phb3 := hb3; try simp at phb3
      refine c_exit <| p_thn_exit <| p_lp_exit <| p_inb_exit <| p_thn <| c_seq <| c_region <| jm rfl rfl <| ja rfl rfl <| j_nil <| p_thn <| c_ret <| ?_
      refine p_retK (ap_s <| ap_0) rfl rfl (.tmp rfl <| .nil) ?_
      show [_] = [_]
      obtain rfl : k = 16 := by omega
      rw [List.take_of_length_le (by simp [negs])]
      rfl
attribute [irreducible] rFree rEnough rGive rUse rMove rRight rJoin
theorem range_all {p : Nat → Bool} {k : Nat} (h : (List.range k).all p = true) (h1 : p k = true) : (List.range (k + 1)).all p = true := by
  rw [List.range_succ, List.all_append, h]; simp [h1]
theorem range_not {p : Nat → Bool} {k n : Nat} (h : k < n) (h1 : p k = false) : (List.range n).all p = false := by
  rw [List.all_eq_false]; exact ⟨k, List.mem_range.2 h, by simp [h1]⟩

theorem rights_Right (r : Rights) (M : Mem) : Ctr Tryz.prog 148 [.agg (encRights r).toArray] M [] (fun v _ _ => v = .bool (rRight r)) := by
  refine ctr Tryz.func148 rfl Tryz.ntmps148 rfl fun w => ?_
  refine c_seq <| c_region <| jbox rfl rfl rfl fun B1 => ja rfl rfl <| j_nil <| p_thn <| c_seq <| c_seq <| c_region <| jfa rfl rfl rfl <| jld 0 rfl rfl rfl (pR_given _) (len_vec _) <| jcallv rfl rfl rfl (vec_Right _ _) <| jnot rfl rfl <| jm rfl rfl <| jgs rfl rfl (fun hb2 => ?_) (fun hb2 => ?_)
  · have phb2 := hb2; try simp at phb2
    refine jg_off rfl rfl rfl hb2 <| jg_off rfl rfl rfl hb2 <| jg_off rfl rfl rfl hb2 <| jg_off rfl rfl rfl hb2 <| jpick_t rfl rfl hb2 rfl <| j_nil <| p_thn <| c_cond_kt rfl rfl <| c_seq <| c_region <| ja rfl rfl <| j_nil <| p_thn <| c_ret <| p_thn_ret <| ?_
    refine p_ret0 rfl rfl (.tmp rfl <| .nil) ?_
    show Value.bool false = _
    congr 1; symm
    simp [rRight, *]
  · have phb2 := hb2; try simp at phb2
    refine jg rfl rfl hb2 <| jfa rfl rfl rfl <| jg rfl rfl hb2 <| jld 0 rfl rfl rfl (pR_used _) (len_vec _) <| jg rfl rfl hb2 <| jcallv rfl rfl rfl (vec_Right _ _) <| jg rfl rfl hb2 <| jnot rfl rfl <| jpick_f rfl rfl hb2 rfl <| j_nil <| p_thn <| c_cond rfl (fun hb3 => ?_) (fun hb3 => ?_)
    · have phb3 := hb3; try simp at phb3
      refine c_seq <| c_region <| ja rfl rfl <| j_nil <| p_thn <| c_ret <| p_thn_ret <| ?_
      refine p_ret0 rfl rfl (.tmp rfl <| .nil) ?_
      show Value.bool false = _
      congr 1; symm
      simp [rRight, *]
    · have phb3 := hb3; try simp at phb3
      refine c_skip <| p_thn <| c_seq <| c_seq <| c_region <| jfa rfl rfl rfl <| jld 0 rfl rfl rfl (pR_moved _) (len_moved _) <| jm rfl rfl <| j_nil <| p_thn <| c_block <| c_lp (X := Nat) (fun k => k ≤ 16 ∧ (List.range k).all (fun i => vecRight (mAt r.moved i) && decide (vAt (mAt r.moved i) i = 0)) = true) (fun k => 16 - k) (fun k => [(17, vi (k : Int))]) [16] 0 ?_ (sub_c rfl <| sub_c rfl <| sub_n) ?_
      · exact ⟨by omega, rfl⟩
      · intro k hI
        obtain ⟨hk, hall⟩ := hI
        refine c_seq <| c_region <| jlss rfl rfl rfl <| j_nil <| p_thn <| c_seq <| c_cond rfl (fun hb4 => ?_) (fun hb4 => ?_)
        · have phb4 := hb4; try simp at phb4
          refine c_skip <| p_thn <| c_seq <| c_block <| c_seq <| c_region <| jm rfl rfl <| jidx rfl rfl rfl (by omega) (by omega) (gM (by omega) (by omega)) <| jalloc rfl fun B5 => ja rfl rfl <| jstw 0 rfl rfl rfl rfl (len_vec _) (one_vec _) (len_vec _) <| j_nil <| p_thn <| c_seq <| c_region <| jldw 0 rfl rfl rfl (len_vec _) <| jcallv rfl rfl rfl (vec_Right _ _) <| jnot rfl rfl <| jm rfl rfl <| jgs rfl rfl (fun hb6 => ?_) (fun hb6 => ?_)
          · have phb6 := hb6; try simp at phb6
            refine jg_off rfl rfl rfl hb6 <| jg_off rfl rfl rfl hb6 <| jg_off rfl rfl rfl hb6 <| jg_off rfl rfl rfl hb6 <| jpick_t rfl rfl hb6 rfl <| j_nil <| p_thn <| c_cond_kt rfl rfl <| c_seq <| c_region <| ja rfl rfl <| j_nil <| p_thn <| c_ret <| p_inb_ret <| p_thn_ret <| p_lp_ret <| p_inb_ret <| p_thn_ret <| ?_
            refine p_ret0 rfl rfl (.tmp rfl <| .nil) ?_
            show Value.bool false = _
            congr 1; symm
            unfold rRight
            rw [range_not (k := k) (by omega) (by simp [*]), Bool.and_false]
          · have phb6 := hb6; try simp at phb6
            refine jg rfl rfl hb6 <| jm rfl rfl <| jg rfl rfl hb6 <| jia rfl rfl rfl (by omega) (by omega) <| jg rfl rfl hb6 <| jld1 0 rfl rfl rfl (gV (by omega) (by omega)) <| jg rfl rfl hb6 <| jneq rfl rfl rfl <| jpick_f rfl rfl hb6 rfl <| j_nil <| p_thn <| c_cond rfl (fun hb7 => ?_) (fun hb7 => ?_)
            · have phb7 := hb7; try simp at phb7
              refine c_seq <| c_region <| ja rfl rfl <| j_nil <| p_thn <| c_ret <| p_inb_ret <| p_thn_ret <| p_lp_ret <| p_inb_ret <| p_thn_ret <| ?_
              refine p_ret0 rfl rfl (.tmp rfl <| .nil) ?_
              show Value.bool false = _
              congr 1; symm
              unfold rRight
              rw [range_not (k := k) (by omega) (by simp [*]), Bool.and_false]
            · have phb7 := hb7; try simp at phb7
              refine c_skip <| p_inb <| p_thn <| c_region <| jadd rfl rfl rfl (by first | exact wr (by omega) (by omega) | rfl) <| jm rfl rfl <| j_nil <| jp_perm (fr_s <| fr_0) <| jp_tk (ap_s <| ap_0) <| ?_
              refine p_lp (k + 1) ?_ ?_ (sub_c rfl <| sub_c rfl <| sub_n) rfl rfl
              · exact ⟨by omega, range_all hall (by simp [*])⟩
              · omega
        · have phb4 := hb4; try simp at phb4
          refine c_exit <| p_thn_exit <| p_lp_exit <| p_inb_exit <| p_thn <| c_seq <| c_region <| ja rfl rfl <| j_nil <| p_thn <| c_ret <| ?_
          refine p_ret0 rfl rfl (.tmp rfl <| .nil) ?_
          show Value.bool true = _
          congr 1; symm
          obtain rfl : k = 16 := by omega
          unfold rRight
          rw [hall]; simp [*]
theorem rights_Free (r : Rights) (k : Int) (M : Mem) : Ctr Tryz.prog 115 [.agg (encRights r).toArray, vi k] M [] (fun v _ _ => v = pr2 (rFree r k)) := by
  refine ctr Tryz.func115 rfl Tryz.ntmps115 rfl fun w => ?_
  refine c_seq <| c_region <| jbox rfl rfl rfl fun B1 => ja rfl rfl <| ja rfl rfl <| j_nil <| p_thn <| c_seq <| c_seq <| c_region <| jm rfl rfl <| jcallv rfl rfl rfl (rights_is _ _) <| jnot rfl rfl <| j_nil <| p_thn <| c_cond rfl (fun hb2 => ?_) (fun hb2 => ?_)
  · have phb2 := hb2; try simp at phb2
    refine c_seq <| c_region <| ja rfl rfl <| ja rfl rfl <| j_nil <| p_thn <| c_ret <| p_thn_ret <| ?_
    refine p_ret0 rfl rfl (.tmp rfl <| .tmp rfl <| .nil) ?_
    show pr2 (_, _) = _
    unfold rFree
    rw [if_neg (by simp [*])]
  · have phb2 := hb2; try simp at phb2
    obtain ⟨hk0, hk1⟩ := isR_t phb2
    refine c_skip <| p_thn <| c_seq <| c_region <| jm rfl rfl <| jfa rfl rfl rfl <| jia rfl rfl rfl (by omega) (by omega) <| jld1 0 rfl rfl rfl (gR_given (by omega) (by omega)) <| jbsl (vs := [_]) [_] rfl rfl rfl (by simp) rfl rfl (by decide) (by decide) fun B3 => ja rfl rfl <| j_nil <| p_thn <| c_seq <| c_seq <| c_region <| jfa rfl rfl rfl <| jld 1 rfl rfl rfl (pR_moved _) (len_moved _) <| jm rfl rfl <| j_nil <| p_thn <| c_block <| jc_blkrow (sz := 1) (n := 1) rfl (by decide) <| c_lpL (X := Nat × Value) (fun q => q.1 ≤ 16) (fun q => 16 - q.1) (fun q => [(19, vi (q.1 : Int)), (6, q.2)]) [18, 5, 4, 2, 1] (fun q => [.row q.2 3 1 (1 + q.1) ((vAt r.given k :: (r.moved.toList.map (fun row => vAt row k)).take q.1).map vi), .blk B1 42 (encRights r)]) (0, _) ?_ (sub_c rfl <| sub_c rfl <| sub_c rfl <| sub_c rfl <| sub_c rfl <| sub_c rfl <| sub_c rfl <| sub_n) rfl ?_
    · exact Nat.zero_le _
    · intro q hI
      obtain ⟨j, u⟩ := q
      dsimp only at hI ⊢
      refine c_seq <| c_region <| jlss rfl rfl rfl <| j_nil <| p_thn <| c_seq <| c_cond rfl (fun hb4 => ?_) (fun hb4 => ?_)
      · have phb4 := hb4; try simp at phb4
        refine c_skip <| p_thn <| c_seq <| c_block <| c_seq <| c_region <| jidx rfl rfl rfl (by omega) (by omega) (gM (by omega) (by omega)) <| jalloc rfl fun B5 => jstw 0 rfl rfl rfl rfl (len_vec _) (one_vec _) (len_vec _) <| j_nil <| p_thn <| c_region <| jm rfl rfl <| jm rfl rfl <| jia rfl rfl rfl (by omega) (by omega) <| jld1 0 rfl rfl rfl (gV (by omega) (by omega)) <| jbsl (vs := [_]) [_] rfl rfl rfl (by simp) rfl rfl (by decide) (by decide) fun B6 => j_perm (fr_s <| fr_s <| fr_0) <| japp rfl rfl rfl (fun w ho => Src.blk (i := 1) rfl rfl) rfl rfl (by decide) (by omega) (by omega) fun vB7 => ja rfl rfl <| j_nil <| p_inb <| p_thn <| c_region <| jadd rfl rfl rfl (by first | exact wr (by omega) (by omega) | rfl) <| jm rfl rfl <| j_nil <| jp_perm (fr_s <| fr_s <| fr_s <| fr_0) <| jp_perm (fr_s <| fr_0) <| jp_tk (ap_s <| ap_s <| ap_0) <| ?_
        refine p_lp ((j + 1, _)) ?_ ?_ (sub_c rfl <| sub_c rfl <| sub_c rfl <| sub_c rfl <| sub_c rfl <| sub_c rfl <| sub_c rfl <| sub_n) rfl (by rw [← col_take (by omega)]; simp; rfl)
        · show _ ≤ _; omega
        · show _ - _ < _ - _; omega
      · have phb4 := hb4; try simp at phb4
        obtain rfl : j = 16 := by omega
        refine c_exit <| p_thn_exit <| p_lp_exit <| p_inb_exit <| p_thn <| c_seq <| c_region <| jm rfl rfl <| jm rfl rfl <| jfa rfl rfl rfl <| jia rfl rfl rfl (by omega) (by omega) <| jld1 1 rfl rfl rfl (gR_used (by omega) (by omega)) <| jneg rfl rfl (by first | exact wr (by omega) (by omega) | rfl) <| jbsl (vs := [_]) [_] rfl rfl rfl (by simp) rfl rfl (by decide) (by decide) fun B8 => j_perm (fr_s <| fr_0) <| japp rfl rfl rfl (fun w ho => Src.blk (i := 1) rfl rfl) rfl rfl (by decide) (by omega) (by omega) fun vB9 => ja rfl rfl <| j_nil <| p_thn <| c_seq <| c_region <| jm rfl rfl <| jm rfl rfl <| jfa rfl rfl rfl <| jia rfl rfl rfl (by omega) (by omega) <| jld 2 rfl rfl rfl (gR_row (by omega) (by omega)) (len_vec _) <| jcallr rfl rfl rfl (ap_0) (rights_less _ _) (fun _ => (ap_s <| ap_0)) fun v11 => j_perm (fr_s <| fr_0) <| japp rfl rfl rfl (fun w ho => Src.row (i := 1) rfl _ _ ho) (by simp [Value.oneCell']) rfl (by decide) (by omega) (by omega) fun vB12 => j_freeze fun M1z hM1z hz1 => ?_
        obtain ⟨A1z, cap1z, rfl, hS1z⟩ := frz (r := rInt) (xs := freeList r k) hz1 (by rw [List.take_of_length_le (by simp)]; simpa [freeList, ng, negs] using Rows.ints (M := M1z) (freeList r k)) (by simp [freeList, negs])
        refine jcallv rfl rfl rfl (num_Sum _ _ _ _ hS1z (by simp [freeList, negs])) <| jext rfl rfl rfl <| jext rfl rfl rfl <| ja rfl rfl <| ja rfl rfl <| j_nil <| p_thn <| c_ret <| ?_
        refine p_ret0 rfl rfl (.tmp rfl <| .tmp rfl <| .nil) ?_
        show pr2 (_, _) = _
        unfold rFree
        rw [if_pos phb2]
theorem rights_Give (r : Rights) (k n : Int) (M : Mem) : Ctr Tryz.prog 124 [.agg (encRights r).toArray, vi k, vi n] M [] (fun v _ _ => v = pR (rGive r k n)) := by
  refine ctr Tryz.func124 rfl Tryz.ntmps124 rfl fun w => ?_
  refine c_seq <| c_region <| jbox rfl rfl rfl fun B1 => jalloc rfl fun B2 => ja rfl rfl <| j_nil <| p_thn <| c_seq <| c_region <| jfa rfl rfl rfl <| jld 1 rfl rfl rfl (pR_given _) (len_vec _) <| jm rfl rfl <| jm rfl rfl <| jcallv rfl rfl rfl (vec_Grow _ _ _ _) <| jm rfl rfl <| jext rfl rfl rfl <| jext rfl rfl rfl <| jalloc rfl fun B3 => jstw 0 rfl rfl rfl rfl (len_vec _) (one_vec _) (len_vec _) <| ja rfl rfl <| j_nil <| p_thn <| c_seq <| c_seq <| c_region <| jm rfl rfl <| jneq rfl rfl rfl <| j_nil <| p_thn <| c_cond rfl (fun hb4 => ?_) (fun hb4 => ?_)
  · have phb4 := hb4; try simp at phb4
    refine c_seq <| c_region <| jbu0 rfl <| jm rfl rfl <| jstw 1 rfl rfl rfl rfl (len_rights _) (one_rights _) (len_rights _) <| ja rfl rfl <| j_nil <| p_thn <| c_ret <| p_thn_ret <| ?_
    refine p_ret0 rfl rfl (.agg 1 inferInstance rfl rfl (len_rights _) <| .tmp rfl <| .nil) ?_
    show pR (_, _) = pR _
    unfold rGive
    simp [*] <;> rfl
  · have phb4 := hb4; try simp at phb4
    refine c_skip <| p_thn <| c_seq <| c_region <| jldw 0 rfl rfl rfl (len_vec _) <| jfa rfl rfl rfl <| jst 2 rfl rfl rfl rfl (len_vec _) (one_vec _) (by rw [len_rights]; decide) uR_given <| j_nil <| p_thn <| c_seq <| c_region <| jldw 2 rfl rfl rfl (len_rights _) <| jstw 1 rfl rfl rfl rfl (len_rights _) (one_rights _) (len_rights _) <| ja rfl rfl <| j_nil <| p_thn <| c_ret <| ?_
    refine p_ret0 rfl rfl (.agg 1 inferInstance rfl rfl (len_rights _) <| .tmp rfl <| .nil) ?_
    show pR (_, _) = pR _
    unfold rGive
    simp [*] <;> rfl
theorem rights_enough (r : Rights) (k n : Int) (M : Mem) : Ctr Tryz.prog 162 [.agg (encRights r).toArray, vi k, vi n] M [] (fun v _ _ => v = vi (rEnough r k n)) := by
  refine ctr Tryz.func162 rfl Tryz.ntmps162 rfl fun w => ?_
  refine c_seq <| c_region <| jbox rfl rfl rfl fun B1 => ja rfl rfl <| j_nil <| p_thn <| c_seq <| c_seq <| c_region <| jm rfl rfl <| jlss rfl rfl rfl <| j_nil <| p_thn <| c_cond rfl (fun hb2 => ?_) (fun hb2 => ?_)
  · have phb2 := hb2; try simp at phb2
    refine c_seq <| c_region <| ja rfl rfl <| j_nil <| p_thn <| c_ret <| p_thn_ret <| ?_
    refine p_ret0 rfl rfl (.tmp rfl <| .nil) ?_
    show vi _ = vi _
    unfold rEnough
    simp [*] <;> omega
  · have phb2 := hb2; try simp at phb2
    refine c_skip <| p_thn <| c_seq <| c_region <| jldw 0 rfl rfl rfl (len_rights _) <| jm rfl rfl <| jcallv rfl rfl rfl (rights_Free _ _ _) <| jm rfl rfl <| jext rfl rfl rfl <| jext rfl rfl rfl <| ja rfl rfl <| ja rfl rfl <| j_nil <| p_thn <| c_seq <| c_block <| c_seq <| c_region <| jm rfl rfl <| jneq rfl rfl rfl <| ja rfl rfl <| j_nil <| p_thn <| c_cond rfl (fun hb3 => ?_) (fun hb3 => ?_)
    · have phb3 := hb3; try simp at phb3
      refine c_seq <| c_region <| jm rfl rfl <| ja rfl rfl <| j_nil <| p_thn <| c_ret <| p_inb_ret <| p_thn_ret <| ?_
      refine p_ret0 rfl rfl (.tmp rfl <| .nil) ?_
      show vi _ = vi _
      unfold rEnough
      simp [*] <;> omega
    · have phb3 := hb3; try simp at phb3
      refine c_seq <| c_region <| jm rfl rfl <| jm rfl rfl <| jgtr rfl rfl rfl <| ja rfl rfl <| j_nil <| p_thn <| c_cond rfl (fun hb4 => ?_) (fun hb4 => ?_)
      · have phb4 := hb4; try simp at phb4
        refine c_seq <| c_region <| ja rfl rfl <| j_nil <| p_thn <| c_ret <| p_inb_ret <| p_thn_ret <| ?_
        refine p_ret0 rfl rfl (.tmp rfl <| .nil) ?_
        show vi _ = vi _
        unfold rEnough
        simp [*] <;> omega
      · have phb4 := hb4; try simp at phb4
        refine c_skip <| p_inb <| p_thn <| c_seq <| c_region <| ja rfl rfl <| j_nil <| p_thn <| c_ret <| ?_
        refine p_ret0 rfl rfl (.tmp rfl <| .nil) ?_
        show vi _ = vi _
        unfold rEnough
        simp [*] <;> omega
theorem rights_Use (r : Rights) (k n : Int) (M : Mem) : Ctr Tryz.prog 122 [.agg (encRights r).toArray, vi k, vi n] M [] (fun v _ _ => v = pR (rUse r k n)) := by
  refine ctr Tryz.func122 rfl Tryz.ntmps122 rfl fun w => ?_
  refine c_seq <| c_region <| jbox rfl rfl rfl fun B1 => jalloc rfl fun B2 => ja rfl rfl <| j_nil <| p_thn <| c_seq <| c_region <| jldw 1 rfl rfl rfl (len_rights _) <| jm rfl rfl <| jm rfl rfl <| jcallv rfl rfl rfl (rights_enough _ _ _ _) <| ja rfl rfl <| j_nil <| p_thn <| c_seq <| c_region <| jalloc rfl fun B3 => j_nil <| p_thn <| c_seq <| c_seq <| c_region <| jm rfl rfl <| jeql rfl rfl rfl <| j_nil <| p_thn <| c_cond rfl (fun hb4 => ?_) (fun hb4 => ?_)
  · have phb4 := hb4; try simp at phb4
    refine c_region <| jfa rfl rfl rfl <| jld 2 rfl rfl rfl (pR_used _) (len_vec _) <| jm rfl rfl <| jm rfl rfl <| jcallv rfl rfl rfl (vec_Grow _ _ _ _) <| jm rfl rfl <| jext rfl rfl rfl <| jext rfl rfl rfl <| jstw 0 rfl rfl rfl rfl (len_vec _) (one_vec _) (len_vec _) <| ja rfl rfl <| j_nil <| p_thn <| c_seq <| c_seq <| c_region <| jm rfl rfl <| jneq rfl rfl rfl <| j_nil <| p_thn <| c_cond rfl (fun hb5 => ?_) (fun hb5 => ?_)
    · have phb5 := hb5; try simp at phb5
      refine c_seq <| c_region <| jbu0 rfl <| jm rfl rfl <| jstw 1 rfl rfl rfl rfl (len_rights _) (one_rights _) (len_rights _) <| ja rfl rfl <| j_nil <| p_thn <| c_ret <| p_thn_ret <| ?_
      refine p_ret0 rfl rfl (.agg 1 inferInstance rfl rfl (len_rights _) <| .tmp rfl <| .nil) ?_
      show pR (_, _) = pR _
      unfold rUse
      simp [*, rZ]
    · have phb5 := hb5; try simp at phb5
      refine c_skip <| p_thn <| c_seq <| c_region <| jldw 0 rfl rfl rfl (len_vec _) <| jfa rfl rfl rfl <| jst 2 rfl rfl rfl rfl (len_vec _) (one_vec _) (by rw [len_rights]; decide) uR_used <| j_nil <| p_thn <| c_seq <| c_region <| jldw 2 rfl rfl rfl (len_rights _) <| jstw 1 rfl rfl rfl rfl (len_rights _) (one_rights _) (len_rights _) <| ja rfl rfl <| j_nil <| p_thn <| c_ret <| ?_
      refine p_ret0 rfl rfl (.agg 1 inferInstance rfl rfl (len_rights _) <| .tmp rfl <| .nil) ?_
      show pR (_, _) = pR _
      unfold rUse
      simp [*, rZ]
  · have phb4 := hb4; try simp at phb4
    refine c_skip <| p_thn <| c_seq <| c_seq <| c_region <| jm rfl rfl <| jneq rfl rfl rfl <| j_nil <| p_thn <| c_cond rfl (fun hb6 => ?_) (fun hb6 => ?_)
    · have phb6 := hb6; try simp at phb6
      refine c_seq <| c_region <| jbu0 rfl <| jm rfl rfl <| jstw 1 rfl rfl rfl rfl (len_rights _) (one_rights _) (len_rights _) <| ja rfl rfl <| j_nil <| p_thn <| c_ret <| p_thn_ret <| ?_
      refine p_ret0 rfl rfl (.agg 1 inferInstance rfl rfl (len_rights _) <| .tmp rfl <| .nil) ?_
      show pR (_, _) = pR _
      unfold rUse
      simp [*, rZ]
    · have phb6 := hb6; try simp at phb6
      omega
theorem rights_Move (r : Rights) (i k n : Int) (M : Mem) : Ctr Tryz.prog 153 [.agg (encRights r).toArray, vi i, vi k, vi n] M [] (fun v _ _ => v = pR (rMove r i k n)) := by
  refine ctr Tryz.func153 rfl Tryz.ntmps153 rfl fun w => ?_
  refine c_seq <| c_region <| jbox rfl rfl rfl fun B1 => jalloc rfl fun B2 => ja rfl rfl <| j_nil <| p_thn <| c_seq <| c_seq <| c_region <| jm rfl rfl <| jcallv rfl rfl rfl (rights_is _ _) <| jnot rfl rfl <| jm rfl rfl <| jgs rfl rfl (fun hb3 => ?_) (fun hb3 => ?_)
  · have phb3 := hb3; try simp at phb3
    refine jg_off rfl rfl rfl hb3 <| jg_off rfl rfl rfl hb3 <| jg_off rfl rfl rfl hb3 <| jpick_t rfl rfl hb3 rfl <| jm rfl rfl <| jg_off rfl rfl rfl rfl <| jg_off rfl rfl rfl rfl <| jg_off rfl rfl rfl rfl <| jpick_t rfl rfl rfl rfl <| j_nil <| p_thn <| c_cond_kt rfl rfl <| c_seq <| c_region <| jbu0 rfl <| jstw 0 rfl rfl rfl rfl (len_rights _) (one_rights _) (len_rights _) <| ja rfl rfl <| j_nil <| p_thn <| c_ret <| p_thn_ret <| ?_
    refine p_ret0 rfl rfl (.agg 0 inferInstance rfl rfl (len_rights _) <| .tmp rfl <| .nil) ?_
    show pR (_, _) = pR _
    unfold rMove
    simp [*, rZ]
  · have phb3 := hb3; try simp at phb3
    obtain ⟨hi0, hi1⟩ := isR_t phb3
    refine jg rfl rfl hb3 <| jm rfl rfl <| jg rfl rfl hb3 <| jcallv rfl rfl rfl (rights_is _ _) <| jg rfl rfl hb3 <| jnot rfl rfl <| jpick_f rfl rfl hb3 rfl <| jm rfl rfl <| jgs rfl rfl (fun hb4 => ?_) (fun hb4 => ?_)
    · have phb4 := hb4; try simp at phb4
      refine jg_off rfl rfl rfl hb4 <| jg_off rfl rfl rfl hb4 <| jg_off rfl rfl rfl hb4 <| jpick_t rfl rfl hb4 rfl <| j_nil <| p_thn <| c_cond_kt rfl rfl <| c_seq <| c_region <| jbu0 rfl <| jstw 0 rfl rfl rfl rfl (len_rights _) (one_rights _) (len_rights _) <| ja rfl rfl <| j_nil <| p_thn <| c_ret <| p_thn_ret <| ?_
      refine p_ret0 rfl rfl (.agg 0 inferInstance rfl rfl (len_rights _) <| .tmp rfl <| .nil) ?_
      show pR (_, _) = pR _
      unfold rMove
      simp [*, rZ]
    · have phb4 := hb4; try simp at phb4
      obtain ⟨hk0, hk1⟩ := isR_t phb4
      refine jg rfl rfl hb4 <| jm rfl rfl <| jg rfl rfl hb4 <| jm rfl rfl <| jg rfl rfl hb4 <| jeql rfl rfl rfl <| jpick_f rfl rfl hb4 rfl <| j_nil <| p_thn <| c_cond rfl (fun hb5 => ?_) (fun hb5 => ?_)
      · have phb5 := hb5; try simp at phb5
        refine c_seq <| c_region <| jbu0 rfl <| jstw 0 rfl rfl rfl rfl (len_rights _) (one_rights _) (len_rights _) <| ja rfl rfl <| j_nil <| p_thn <| c_ret <| p_thn_ret <| ?_
        refine p_ret0 rfl rfl (.agg 0 inferInstance rfl rfl (len_rights _) <| .tmp rfl <| .nil) ?_
        show pR (_, _) = pR _
        unfold rMove
        simp [*, rZ]
      · have phb5 := hb5; try simp at phb5
        refine c_skip <| p_thn <| c_seq <| c_region <| jldw 1 rfl rfl rfl (len_rights _) <| jm rfl rfl <| jm rfl rfl <| jcallv rfl rfl rfl (rights_enough _ _ _ _) <| ja rfl rfl <| j_nil <| p_thn <| c_seq <| c_region <| jalloc rfl fun B6 => j_nil <| p_thn <| c_seq <| c_seq <| c_region <| jm rfl rfl <| jeql rfl rfl rfl <| j_nil <| p_thn <| c_cond rfl (fun hb7 => ?_) (fun hb7 => ?_)
        · have phb7 := hb7; try simp at phb7
          refine c_region <| jm rfl rfl <| jfa rfl rfl rfl <| jia rfl rfl rfl (by omega) (by omega) <| jld 2 rfl rfl rfl (gR_row (by omega) (by omega)) (len_vec _) <| jm rfl rfl <| jm rfl rfl <| jcallv rfl rfl rfl (vec_Grow _ _ _ _) <| jm rfl rfl <| jext rfl rfl rfl <| jext rfl rfl rfl <| jstw 0 rfl rfl rfl rfl (len_vec _) (one_vec _) (len_vec _) <| ja rfl rfl <| j_nil <| p_thn <| c_seq <| c_seq <| c_region <| jm rfl rfl <| jneq rfl rfl rfl <| j_nil <| p_thn <| c_cond rfl (fun hb8 => ?_) (fun hb8 => ?_)
          · have phb8 := hb8; try simp at phb8
            refine c_seq <| c_region <| jbu0 rfl <| jm rfl rfl <| jstw 1 rfl rfl rfl rfl (len_rights _) (one_rights _) (len_rights _) <| ja rfl rfl <| j_nil <| p_thn <| c_ret <| p_thn_ret <| ?_
            refine p_ret0 rfl rfl (.agg 1 inferInstance rfl rfl (len_rights _) <| .tmp rfl <| .nil) ?_
            show pR (_, _) = pR _
            unfold rMove
            simp [*, rZ]
          · have phb8 := hb8; try simp at phb8
            refine c_skip <| p_thn <| c_seq <| c_region <| jm rfl rfl <| jldw 0 rfl rfl rfl (len_vec _) <| jfa rfl rfl rfl <| jia rfl rfl rfl (by omega) (by omega) <| jst 2 rfl rfl rfl rfl (len_vec _) (one_vec _) (by simp [len_vec, len_rights, len_counter] <;> omega) (uR_row (by omega)) <| j_nil <| p_thn <| c_seq <| c_region <| jldw 2 rfl rfl rfl (len_rights _) <| jstw 1 rfl rfl rfl rfl (len_rights _) (one_rights _) (len_rights _) <| ja rfl rfl <| j_nil <| p_thn <| c_ret <| ?_
            refine p_ret0 rfl rfl (.agg 1 inferInstance rfl rfl (len_rights _) <| .tmp rfl <| .nil) ?_
            show pR (_, _) = pR _
            unfold rMove
            simp [*, rZ]
        · have phb7 := hb7; try simp at phb7
          refine c_skip <| p_thn <| c_seq <| c_seq <| c_region <| jm rfl rfl <| jneq rfl rfl rfl <| j_nil <| p_thn <| c_cond rfl (fun hb9 => ?_) (fun hb9 => ?_)
          · have phb9 := hb9; try simp at phb9
            refine c_seq <| c_region <| jbu0 rfl <| jm rfl rfl <| jstw 1 rfl rfl rfl rfl (len_rights _) (one_rights _) (len_rights _) <| ja rfl rfl <| j_nil <| p_thn <| c_ret <| p_thn_ret <| ?_
            refine p_ret0 rfl rfl (.agg 1 inferInstance rfl rfl (len_rights _) <| .tmp rfl <| .nil) ?_
            show pR (_, _) = pR _
            unfold rMove
            simp [*, rZ]
          · have phb9 := hb9; try simp at phb9
            omega
theorem rights_Join1 {B T o : Nat} {c c' : List Value} {a b : Vec} (M : Mem) (hg : (c.drop o).take 16 = encVec a) (hf : o + 16 ≤ c.length) (hp : c.take o ++ encVec (vJoin a b) ++ c.drop (o + 16) = c') : Ctr Tryz.prog 179 [.pointer (some ⟨B, o, none⟩), .agg (encVec b).toArray] M [.blk B T c] (fun v _ L' => v = .tuple #[] ∧ L' = [.blk B T c']) := by
  refine ctr Tryz.func179 rfl Tryz.ntmps179 rfl fun w => ?_
  refine c_seq <| c_region <| jbox rfl rfl rfl fun B1 => j_nil <| p_thn <| c_draw [3, 4] (by kernel_rfl) <| jd_z (i := 0) rfl rfl (by kernel_rfl) (by kernel_rfl) (by kernel_rfl) (by kernel_rfl) rfl (zm rfl) <| jd_z (i := 1) rfl rfl (by kernel_rfl) (by kernel_rfl) (by kernel_rfl) (by kernel_rfl) rfl (zm rfl) <| jd_z (i := 2) rfl rfl (by kernel_rfl) (by kernel_rfl) (by kernel_rfl) (by kernel_rfl) rfl (znil rfl) <| jd_first (i := 3) rfl rfl (by kernel_rfl) (by kernel_rfl) (by kernel_rfl) (by kernel_rfl) (by kernel_rfl) rfl (fun _ h => h) (yld 1 rfl rfl hg (len_vec _)) <| jd_first (i := 4) rfl rfl (by kernel_rfl) (by kernel_rfl) (by kernel_rfl) (by kernel_rfl) (by kernel_rfl) rfl (fun _ h => h) (yldw 0 rfl rfl (len_vec _)) <| jd_one (i := 5) (by kernel_rfl) rfl <| jcallv rfl rfl rfl (vec_Join _ _ _) <| j_nil <| p_jd rfl (.inl (by kernel_rfl)) <| jd_z (i := 6) rfl rfl (by kernel_rfl) (by kernel_rfl) (by kernel_rfl) (by kernel_rfl) rfl (znil rfl) <| jd_one (i := 7) (by kernel_rfl) rfl <| jst 1 rfl rfl rfl rfl (len_vec _) (one_vec _) hf hp <| j_nil <| p_jd rfl (.inl (by kernel_rfl)) <| jd_done (by kernel_rfl) <| ?_
  refine jp_perm (fr_s <| fr_0) <| ?_
  refine p_endK (ap_s <| ap_0) rfl rfl (.nil) ?_
  exact ⟨rfl, rfl⟩
theorem rights_Join (a b : Rights) (M : Mem) : Ctr Tryz.prog 133 [.agg (encRights a).toArray, .agg (encRights b).toArray] M [] (fun v _ _ => v = .agg (encRights (rJoin a b)).toArray) := by
  refine ctr Tryz.func133 rfl Tryz.ntmps133 rfl fun w => ?_
  refine c_seq <| c_region <| jbox rfl rfl rfl fun B1 => jbox rfl rfl rfl fun B2 => jalloc rfl fun B3 => j_nil <| p_thn <| c_seq <| c_region <| ja rfl rfl <| j_nil <| p_thn <| c_seq <| c_region <| jm rfl rfl <| jfa rfl rfl rfl <| jfa rfl rfl rfl <| jld 1 rfl rfl rfl (pR_given _) (len_vec _) <| j_perm (fr_s <| fr_s <| fr_0) <| jcallb rfl rfl rfl (ap_s <| ap_0) (rights_Join1 _ (pR_given _) (by simp [len_rights]) uR_given) (ap_s <| ap_0) <| j_nil <| p_thn <| c_seq <| c_region <| jm rfl rfl <| jfa rfl rfl rfl <| jfa rfl rfl rfl <| jld 2 rfl rfl rfl (pR_used _) (len_vec _) <| jcallb rfl rfl rfl (ap_s <| ap_0) (rights_Join1 _ (pR_used _) (by simp [len_rights]) uR_used) (ap_s <| ap_0) <| j_nil <| p_thn <| c_seq <| c_seq <| c_region <| jm rfl rfl <| j_nil <| p_thn <| c_block <| c_lpL (X := Nat) (fun k => k ≤ 16) (fun k => 16 - k) (fun k => [(17, vi (k : Int))]) [5, 4, 3, 2] (fun k => [.blk B1 42 (encRights ⟨vJoin a.given b.given, vJoin a.used b.used, mJoinTo a.moved b.moved k⟩), .blk B3 42 (encRights rZ), .blk B2 42 (encRights b)]) 0 ?_ (sub_c rfl <| sub_c rfl <| sub_c rfl <| sub_c rfl <| sub_c rfl <| sub_n) (by rw [mJoinTo_0]) ?_
  · exact Nat.zero_le _
  · intro k hI
    refine c_seq <| c_region <| jlss rfl rfl rfl <| j_nil <| p_thn <| c_seq <| c_cond rfl (fun hb4 => ?_) (fun hb4 => ?_)
    · have phb4 := hb4; try simp at phb4
      refine c_skip <| p_thn <| c_seq <| c_block <| c_seq <| c_region <| jm rfl rfl <| ja rfl rfl <| j_nil <| p_thn <| c_draw [7] (by kernel_rfl) <| jd_z (i := 0) rfl rfl (by kernel_rfl) (by kernel_rfl) (by kernel_rfl) (by kernel_rfl) rfl (zm rfl) <| jd_z (i := 1) rfl rfl (by kernel_rfl) (by kernel_rfl) (by kernel_rfl) (by kernel_rfl) rfl (zm rfl) <| jd_z (i := 2) rfl rfl (by kernel_rfl) (by kernel_rfl) (by kernel_rfl) (by kernel_rfl) rfl (zfa rfl rfl) <| jd_z (i := 3) rfl rfl (by kernel_rfl) (by kernel_rfl) (by kernel_rfl) (by kernel_rfl) rfl (zia rfl rfl (by omega) (by omega)) <| jd_z (i := 4) rfl rfl (by kernel_rfl) (by kernel_rfl) (by kernel_rfl) (by kernel_rfl) rfl (zm rfl) <| jd_z (i := 5) rfl rfl (by kernel_rfl) (by kernel_rfl) (by kernel_rfl) (by kernel_rfl) rfl (zfa rfl rfl) <| jd_z (i := 6) rfl rfl (by kernel_rfl) (by kernel_rfl) (by kernel_rfl) (by kernel_rfl) rfl (zia rfl rfl (by omega) (by omega)) <| jd_first (i := 7) rfl rfl (by kernel_rfl) (by kernel_rfl) (by kernel_rfl) (by kernel_rfl) (by kernel_rfl) rfl (fun _ h => h) (yld 2 rfl rfl (gR_row (by omega) (by omega)) (len_vec _)) <| jd_one (i := 8) (by kernel_rfl) rfl <| jcallb rfl rfl rfl (ap_s <| ap_0) (rights_Join1 _ (gR_row (by omega) (by omega)) (by simp [len_rights]; omega) (uR_row (by omega))) (ap_s <| ap_0) <| j_nil <| p_jd rfl (.inl (by kernel_rfl)) <| jd_done (by kernel_rfl) <| p_inb <| p_thn <| c_region <| jadd rfl rfl rfl (by first | exact wr (by omega) (by omega) | rfl) <| jm rfl rfl <| j_nil <| ?_
      refine p_lp (k + 1) ?_ ?_ (sub_c rfl <| sub_c rfl <| sub_c rfl <| sub_c rfl <| sub_c rfl <| sub_n) rfl (by rw [← mJoinTo_succ _ _ (by omega)])
      · omega
      · omega
    · have phb4 := hb4; try simp at phb4
      refine c_exit <| p_thn_exit <| p_lp_exit <| p_inb_exit <| p_thn <| c_seq <| c_region <| jldw 0 rfl rfl rfl (len_rights _) <| jstw 1 rfl rfl rfl rfl (len_rights _) (one_rights _) (len_rights _) <| j_nil <| p_thn <| c_ret <| ?_
      refine p_ret0 rfl rfl (.agg 1 inferInstance rfl rfl (len_rights _) <| .nil) ?_
      obtain rfl : k = 16 := by omega
      show Value.agg _ = _
      rw [mJoinTo_16]
      unfold rJoin
      rfl
end Go.Proofs.YtihgpbpcbbgdiaaGreat
