/- Several texts in one. -/
import Derived.Test.YtihgpbpcbbgdiaaGreatOrd10
/- What the functions of package counter tell. -/
namespace Go.Proofs.YtihgpbpcbbgdiaaGreat
open Go.RowKit
set_option linter.unusedVariables false
set_option linter.unusedSimpArgs false
abbrev pC (p : Counter × Int) : Value := .tuple #[.agg (encCounter p.1).toArray, vi p.2]
def cDone (c : Counter) (e : Int) : Counter × Int := if e ≠ 0 then (cZ, e) else (c, 0)
def bothE (a b : Int) : Int := if a ≠ 0 then a else b
def both (c : Counter) (p1 p2 : Rights × Int) (d : Counter) : Counter × Int := cDone (if bothE p1.2 p2.2 = 0 then d else c) (bothE p1.2 p2.2)
def cDec (c : Counter) (k n : Int) : Counter × Int := both c (rUse c.down k n) (rGive c.up k n) { c with down := (rUse c.down k n).1, up := (rGive c.up k n).1 }
def cInc (c : Counter) (k n : Int) : Counter × Int := both c (rUse c.up k n) (rGive c.down k n) { c with up := (rUse c.up k n).1, down := (rGive c.down k n).1 }
def cHand (c : Counter) (i k m n : Int) : Counter × Int := both c (rMove c.down i k m) (rMove c.up i k n) { c with down := (rMove c.down i k m).1, up := (rMove c.up i k n).1 }
def cJoin (a b : Counter) : Counter × Int := if a.init = b.init ∧ a.low = b.low ∧ a.high = b.high then ({ a with down := rJoin a.down b.down, up := rJoin a.up b.up }, 0) else (cZ, 1)
def cNew (i l h : Int) : Counter × Int :=
  if (nSub i l).2 = 0 ∧ (nSub h i).2 = 0 ∧ (nSub h l).2 = 0 ∧ 0 ≤ (nSub i l).1 ∧ 0 ≤ (nSub h i).1 then
    (⟨i, l, h, { rZ with given := vSet vZ 0 (nSub i l).1 }, { rZ with given := vSet vZ 0 (nSub h i).1 }⟩, 0)
  else (cZ, 2)
def valList (c : Counter) : List Int := c.init :: (c.up.used.toList ++ negs c.down.used)
def cGiven (a b : Rights) (n : Int) : Bool :=
  decide ((nSum a.given.toList).2 = 0) && decide ((nSum b.used.toList).2 = 0) && decide ((nAdd n (nSum b.used.toList).1).2 = 0) && decide ((nSum a.given.toList).1 = (nAdd n (nSum b.used.toList).1).1)
def cRight (c : Counter) : Bool :=
  isN c.init && isN c.low && isN c.high && decide (c.low ≤ c.init) && decide (c.init ≤ c.high) && rRight c.down && rRight c.up && cGiven c.down c.up (c.init - c.low) && cGiven c.up c.down (c.high - c.init)
theorem wr_sub {a b : Int} (ha : isN a = true) (hb : isN b = true) : IntKind.i64.wrap (a - b) = a - b := by
  rw [isN_iff] at ha hb
  exact wr (by omega) (by omega)
theorem fillC {i l h : Int} : Instr.fill ([(0, 1), (1, 1), (2, 1), (3, 288), (291, 288)].toArray[·]?) (encCounter cZ).toArray [(0, vi i), (1, vi l), (2, vi h)] = some (encCounter ⟨i, l, h, rZ, rZ⟩).toArray :=
  fill_put (c := [vi i]) rfl rfl rfl (by rw [len_counter]; decide) (X' := encCounter ⟨i, 0, 0, rZ, rZ⟩) rfl <|
  fill_put (c := [vi l]) rfl rfl rfl (by rw [len_counter]; decide) (X' := encCounter ⟨i, l, 0, rZ, rZ⟩) rfl <|
  fill_put (c := [vi h]) rfl rfl rfl (by rw [len_counter]; decide) (X' := encCounter ⟨i, l, h, rZ, rZ⟩) rfl fill_end
attribute [irreducible] cDone bothE cJoin cNew cGiven cRight

theorem counter_done (c : Counter) (e : Int) (M : Mem) : Ctr Tryz.prog 126 [.agg (encCounter c).toArray, vi e] M [] (fun v _ _ => v = pC (cDone c e)) := by
  refine ctr Tryz.func126 rfl Tryz.ntmps126 rfl fun w => ?_
  refine c_seq <| c_region <| jbox rfl rfl rfl fun B1 => jalloc rfl fun B2 => ja rfl rfl <| j_nil <| p_thn <| c_seq <| c_seq <| c_region <| jm rfl rfl <| jneq rfl rfl rfl <| j_nil <| p_thn <| c_cond rfl (fun hb3 => ?_) (fun hb3 => ?_)
  · have phb3 := hb3; try simp at phb3
    refine c_seq <| c_region <| jbu0 rfl <| jm rfl rfl <| jstw 0 rfl rfl rfl rfl (len_counter _) (one_counter _) (len_counter _) <| ja rfl rfl <| j_nil <| p_thn <| c_ret <| p_thn_ret <| ?_
    refine p_ret0 rfl rfl (.agg 0 inferInstance rfl rfl (len_counter _) <| .tmp rfl <| .nil) ?_
    show pC (_, _) = pC _
    unfold cDone
    simp [*, cZ]
  · have phb3 := hb3; try simp at phb3
    refine c_skip <| p_thn <| c_seq <| c_region <| jldw 1 rfl rfl rfl (len_counter _) <| jstw 0 rfl rfl rfl rfl (len_counter _) (one_counter _) (len_counter _) <| ja rfl rfl <| j_nil <| p_thn <| c_ret <| ?_
    refine p_ret0 rfl rfl (.agg 0 inferInstance rfl rfl (len_counter _) <| .tmp rfl <| .nil) ?_
    show pC (_, _) = pC _
    unfold cDone
    simp [*, cZ]
theorem counter_Room (c : Counter) (k : Int) (M : Mem) : Ctr Tryz.prog 69 [.agg (encCounter c).toArray, vi k] M [] (fun v _ _ => v = pr2 ((rFree c.down k).1, (rFree c.up k).1)) := by
  refine ctr Tryz.func69 rfl Tryz.ntmps69 rfl fun w => ?_
  refine c_seq <| c_region <| jbox rfl rfl rfl fun B1 => ja rfl rfl <| ja rfl rfl <| j_nil <| p_thn <| c_seq <| c_region <| jfa rfl rfl rfl <| jld 0 rfl rfl rfl (pC_down _) (len_rights _) <| jm rfl rfl <| jcallv rfl rfl rfl (rights_Free _ _ _) <| jm rfl rfl <| jext rfl rfl rfl <| jext rfl rfl rfl <| ja rfl rfl <| ja rfl rfl <| j_nil <| p_thn <| c_seq <| c_region <| jfa rfl rfl rfl <| jld 0 rfl rfl rfl (pC_up _) (len_rights _) <| jm rfl rfl <| jcallv rfl rfl rfl (rights_Free _ _ _) <| jm rfl rfl <| jext rfl rfl rfl <| jext rfl rfl rfl <| ja rfl rfl <| ja rfl rfl <| j_nil <| p_thn <| c_seq <| c_region <| jm rfl rfl <| jm rfl rfl <| ja rfl rfl <| ja rfl rfl <| j_nil <| p_thn <| c_ret <| ?_
  refine p_ret0 rfl rfl (.tmp rfl <| .tmp rfl <| .nil) ?_
  rfl
theorem counter_Value (c : Counter) (M : Mem) : Ctr Tryz.prog 75 [.agg (encCounter c).toArray] M [] (fun v _ _ => v = pr2 (nSum (valList c))) := by
  refine ctr Tryz.func75 rfl Tryz.ntmps75 rfl fun w => ?_
  refine c_seq <| c_region <| jbox rfl rfl rfl fun B1 => ja rfl rfl <| ja rfl rfl <| j_nil <| p_thn <| c_seq <| c_draw [1] (by kernel_rfl) <| jd_z (i := 0) rfl rfl (by kernel_rfl) (by kernel_rfl) (by kernel_rfl) (by kernel_rfl) rfl (zfa rfl rfl) <| jd_first (i := 1) rfl rfl (by kernel_rfl) (by kernel_rfl) (by kernel_rfl) (by kernel_rfl) (by kernel_rfl) rfl (fun _ h => h) (yld1 0 rfl rfl rfl) <| jd_z (i := 3) rfl rfl (by kernel_rfl) (by kernel_rfl) (by kernel_rfl) (by kernel_rfl) rfl (zfa rfl rfl) <| jd_z (i := 4) rfl rfl (by kernel_rfl) (by kernel_rfl) (by kernel_rfl) (by kernel_rfl) rfl (zfa rfl rfl) <| jd_z (i := 5) rfl rfl (by kernel_rfl) (by kernel_rfl) (by kernel_rfl) (by kernel_rfl) rfl (zsa rfl) <| jd_one (i := 2) (by kernel_rfl) rfl <| jbsl (vs := [_]) [_] rfl rfl rfl (by simp) rfl rfl (by decide) (by decide) fun B2 => j_nil <| p_jd rfl (.inl (by kernel_rfl)) <| jd_one (i := 6) (by kernel_rfl) rfl <| j_blkrow (sz := 1) (n := 1) rfl (by decide) <| japp rfl rfl rfl (fun w ho => Src.part (i := 1) (m := 16) rfl (pC_uused _) (len_vec _)) (one_vec _) rfl (by decide) (by omega) (by omega) fun vB3 => j_nil <| p_jd rfl (.inl (by kernel_rfl)) <| jd_z (i := 7) rfl rfl (by kernel_rfl) (by kernel_rfl) (by kernel_rfl) (by kernel_rfl) rfl (za rfl) <| jd_done (by kernel_rfl) <| p_thn <| c_seq <| c_seq <| c_region <| jfa rfl rfl rfl <| jfa rfl rfl rfl <| jld 1 rfl rfl rfl (pC_dused _) (len_vec _) <| jm rfl rfl <| j_nil <| p_thn <| c_block <| c_lpL (X := Nat × Value) (fun q => q.1 ≤ 16) (fun q => 16 - q.1) (fun q => [(17, vi (q.1 : Int)), (4, q.2)]) [16, 3, 2] (fun q => [.row q.2 3 1 (17 + q.1) (vi c.init :: (encVec c.up.used ++ ((negs c.down.used).take q.1).map vi)), .blk B1 44 (encCounter c)]) (0, _) ?_ (sub_c rfl <| sub_c rfl <| sub_c rfl <| sub_c rfl <| sub_c rfl <| sub_n) (by simp) ?_
  · exact Nat.zero_le _
  · intro q hI
    obtain ⟨k, u⟩ := q
    dsimp only at hI ⊢
    refine c_seq <| c_region <| jlss rfl rfl rfl <| j_nil <| p_thn <| c_seq <| c_cond rfl (fun hb4 => ?_) (fun hb4 => ?_)
    · have phb4 := hb4; try simp at phb4
      refine c_skip <| p_thn <| c_seq <| c_block <| c_seq <| c_region <| jidx1 rfl rfl rfl rfl (by omega) (by omega) (vgetI (by omega)) <| ja rfl rfl <| j_nil <| p_thn <| c_region <| jm rfl rfl <| jm rfl rfl <| jneg rfl rfl (by first | exact wr (by omega) (by omega) | rfl) <| jbsl (vs := [_]) [_] rfl rfl rfl (by simp) rfl rfl (by decide) (by decide) fun B5 => j_perm (fr_s <| fr_0) <| japp rfl rfl rfl (fun w ho => Src.blk (i := 1) rfl rfl) rfl rfl (by decide) (by omega) (by omega) fun vB6 => ja rfl rfl <| j_nil <| p_inb <| p_thn <| c_region <| jadd rfl rfl rfl (by first | exact wr (by omega) (by omega) | rfl) <| jm rfl rfl <| j_nil <| jp_perm (fr_s <| fr_s <| fr_0) <| jp_perm (fr_s <| fr_0) <| jp_tk (ap_s <| ap_s <| ap_0) <| ?_
      refine p_lp ((k + 1, _)) ?_ ?_ (sub_c rfl <| sub_c rfl <| sub_c rfl <| sub_c rfl <| sub_c rfl <| sub_n) rfl (by rw [← negs_take (by omega)]; simp; first | rfl | exact ⟨by omega, rfl⟩)
      · show _ ≤ _; omega
      · show _ - _ < _ - _; omega
    · have phb4 := hb4; try simp at phb4
      obtain rfl : k = 16 := by omega
      refine c_exit <| p_thn_exit <| p_lp_exit <| p_inb_exit <| p_thn <| c_seq <| c_region <| jm rfl rfl <| j_freeze fun M1z hM1z hz1 => ?_
      obtain ⟨A1z, cap1z, rfl, hS1z⟩ := frz (r := rInt) (xs := valList c) hz1 (by rw [List.take_of_length_le (by simp [negs])]; simpa [valList, encVec] using Rows.ints (M := M1z) (valList c)) (by simp [valList, negs])
      refine jcallv rfl rfl rfl (num_Sum _ _ _ _ hS1z (by simp [valList, negs])) <| jext rfl rfl rfl <| jext rfl rfl rfl <| ja rfl rfl <| ja rfl rfl <| j_nil <| p_thn <| c_ret <| ?_
      refine p_ret0 rfl rfl (.tmp rfl <| .tmp rfl <| .nil) ?_
      rfl
theorem counter_given (a b : Rights) (n : Int) (M : Mem) : Ctr Tryz.prog 149 [.agg (encRights a).toArray, .agg (encRights b).toArray, vi n] M [] (fun v _ _ => v = .bool (cGiven a b n)) := by
  refine ctr Tryz.func149 rfl Tryz.ntmps149 rfl fun w => ?_
  refine c_seq <| c_region <| jbox rfl rfl rfl fun B1 => jbox rfl rfl rfl fun B2 => ja rfl rfl <| j_nil <| p_thn <| c_seq <| c_region <| jfa rfl rfl rfl <| jld 1 rfl rfl rfl (pR_given _) (len_vec _) <| jcallv rfl rfl rfl (vec_Sum _ _) <| jm rfl rfl <| jext rfl rfl rfl <| jext rfl rfl rfl <| ja rfl rfl <| ja rfl rfl <| j_nil <| p_thn <| c_seq <| c_region <| jfa rfl rfl rfl <| jld 0 rfl rfl rfl (pR_used _) (len_vec _) <| jcallv rfl rfl rfl (vec_Sum _ _) <| jm rfl rfl <| jext rfl rfl rfl <| jext rfl rfl rfl <| ja rfl rfl <| ja rfl rfl <| j_nil <| p_thn <| c_seq <| c_region <| jm rfl rfl <| jm rfl rfl <| jcallv rfl rfl rfl (num_Add _ _ _) <| jm rfl rfl <| jext rfl rfl rfl <| jext rfl rfl rfl <| ja rfl rfl <| ja rfl rfl <| j_nil <| p_thn <| c_seq <| c_region <| jm rfl rfl <| jeql rfl rfl rfl <| jm rfl rfl <| jgs rfl rfl (fun hb3 => ?_) (fun hb3 => ?_)
  · have phb3 := hb3; try simp at phb3
    refine jg rfl rfl hb3 <| jm rfl rfl <| jg rfl rfl hb3 <| jeql rfl rfl rfl <| jpick_t rfl rfl hb3 rfl <| jm rfl rfl <| jgs rfl rfl (fun hb4 => ?_) (fun hb4 => ?_)
    · have phb4 := hb4; try simp at phb4
      refine jg rfl rfl hb4 <| jm rfl rfl <| jg rfl rfl hb4 <| jeql rfl rfl rfl <| jpick_t rfl rfl hb4 rfl <| jm rfl rfl <| jgs rfl rfl (fun hb5 => ?_) (fun hb5 => ?_)
      · have phb5 := hb5; try simp at phb5
        refine jg rfl rfl hb5 <| jm rfl rfl <| jg rfl rfl hb5 <| jm rfl rfl <| jg rfl rfl hb5 <| jeql rfl rfl rfl <| jpick_t rfl rfl hb5 rfl <| ja rfl rfl <| j_nil <| p_thn <| c_ret <| ?_
        refine p_ret0 rfl rfl (.tmp rfl <| .nil) ?_
        show Value.bool _ = _
        congr 1; symm
        simp [cGiven, *]
      · have phb5 := hb5; try simp at phb5
        refine jg_off rfl rfl rfl hb5 <| jg_off rfl rfl rfl hb5 <| jg_off rfl rfl rfl hb5 <| jpick_f rfl rfl hb5 rfl <| ja rfl rfl <| j_nil <| p_thn <| c_ret <| ?_
        refine p_ret0 rfl rfl (.tmp rfl <| .nil) ?_
        show Value.bool _ = _
        congr 1; symm
        simp [cGiven, *]
    · have phb4 := hb4; try simp at phb4
      refine jg_off rfl rfl rfl hb4 <| jg_off rfl rfl rfl hb4 <| jpick_f rfl rfl hb4 rfl <| jm rfl rfl <| jg_off rfl rfl rfl rfl <| jg_off rfl rfl rfl rfl <| jg_off rfl rfl rfl rfl <| jpick_f rfl rfl rfl rfl <| ja rfl rfl <| j_nil <| p_thn <| c_ret <| ?_
      refine p_ret0 rfl rfl (.tmp rfl <| .nil) ?_
      show Value.bool _ = _
      congr 1; symm
      simp [cGiven, *]
  · have phb3 := hb3; try simp at phb3
    refine jg_off rfl rfl rfl hb3 <| jg_off rfl rfl rfl hb3 <| jpick_f rfl rfl hb3 rfl <| jm rfl rfl <| jg_off rfl rfl rfl rfl <| jg_off rfl rfl rfl rfl <| jpick_f rfl rfl rfl rfl <| jm rfl rfl <| jg_off rfl rfl rfl rfl <| jg_off rfl rfl rfl rfl <| jg_off rfl rfl rfl rfl <| jpick_f rfl rfl rfl rfl <| ja rfl rfl <| j_nil <| p_thn <| c_ret <| ?_
    refine p_ret0 rfl rfl (.tmp rfl <| .nil) ?_
    show Value.bool _ = _
    congr 1; symm
    simp [cGiven, *]
theorem counter_Right (c : Counter) (M : Mem) : Ctr Tryz.prog 105 [.agg (encCounter c).toArray] M [] (fun v _ _ => v = .bool (cRight c)) := by
  refine ctr Tryz.func105 rfl Tryz.ntmps105 rfl fun w => ?_
  refine c_seq <| c_region <| jbox rfl rfl rfl fun B1 => ja rfl rfl <| j_nil <| p_thn <| c_seq <| c_seq <| c_region <| jfa rfl rfl rfl <| jld1 0 rfl rfl rfl rfl <| jcallv rfl rfl rfl (num_Is _ _) <| jnot rfl rfl <| jm rfl rfl <| jgs rfl rfl (fun hb2 => ?_) (fun hb2 => ?_)
  · have phb2 := hb2; try simp at phb2
    refine jg_off rfl rfl rfl hb2 <| jg_off rfl rfl rfl hb2 <| jg_off rfl rfl rfl hb2 <| jg_off rfl rfl rfl hb2 <| jpick_t rfl rfl hb2 rfl <| jm rfl rfl <| jg_off rfl rfl rfl rfl <| jg_off rfl rfl rfl rfl <| jg_off rfl rfl rfl rfl <| jg_off rfl rfl rfl rfl <| jpick_t rfl rfl rfl rfl <| jm rfl rfl <| jg_off rfl rfl rfl rfl <| jg_off rfl rfl rfl rfl <| jg_off rfl rfl rfl rfl <| jg_off rfl rfl rfl rfl <| jg_off rfl rfl rfl rfl <| jpick_t rfl rfl rfl rfl <| jm rfl rfl <| jg_off rfl rfl rfl rfl <| jg_off rfl rfl rfl rfl <| jg_off rfl rfl rfl rfl <| jg_off rfl rfl rfl rfl <| jg_off rfl rfl rfl rfl <| jpick_t rfl rfl rfl rfl <| j_nil <| p_thn <| c_cond_kt rfl rfl <| c_seq <| c_region <| ja rfl rfl <| j_nil <| p_thn <| c_ret <| p_thn_ret <| ?_
    refine p_ret0 rfl rfl (.tmp rfl <| .nil) ?_
    show Value.bool _ = _
    congr 1; symm
    simp [cRight, *]
  · have phb2 := hb2; try simp at phb2
    refine jg rfl rfl hb2 <| jfa rfl rfl rfl <| jg rfl rfl hb2 <| jld1 0 rfl rfl rfl rfl <| jg rfl rfl hb2 <| jcallv rfl rfl rfl (num_Is _ _) <| jg rfl rfl hb2 <| jnot rfl rfl <| jpick_f rfl rfl hb2 rfl <| jm rfl rfl <| jgs rfl rfl (fun hb3 => ?_) (fun hb3 => ?_)
    · have phb3 := hb3; try simp at phb3
      refine jg_off rfl rfl rfl hb3 <| jg_off rfl rfl rfl hb3 <| jg_off rfl rfl rfl hb3 <| jg_off rfl rfl rfl hb3 <| jpick_t rfl rfl hb3 rfl <| jm rfl rfl <| jg_off rfl rfl rfl rfl <| jg_off rfl rfl rfl rfl <| jg_off rfl rfl rfl rfl <| jg_off rfl rfl rfl rfl <| jg_off rfl rfl rfl rfl <| jpick_t rfl rfl rfl rfl <| jm rfl rfl <| jg_off rfl rfl rfl rfl <| jg_off rfl rfl rfl rfl <| jg_off rfl rfl rfl rfl <| jg_off rfl rfl rfl rfl <| jg_off rfl rfl rfl rfl <| jpick_t rfl rfl rfl rfl <| j_nil <| p_thn <| c_cond_kt rfl rfl <| c_seq <| c_region <| ja rfl rfl <| j_nil <| p_thn <| c_ret <| p_thn_ret <| ?_
      refine p_ret0 rfl rfl (.tmp rfl <| .nil) ?_
      show Value.bool _ = _
      congr 1; symm
      simp [cRight, *]
    · have phb3 := hb3; try simp at phb3
      refine jg rfl rfl hb3 <| jfa rfl rfl rfl <| jg rfl rfl hb3 <| jld1 0 rfl rfl rfl rfl <| jg rfl rfl hb3 <| jcallv rfl rfl rfl (num_Is _ _) <| jg rfl rfl hb3 <| jnot rfl rfl <| jpick_f rfl rfl hb3 rfl <| jm rfl rfl <| jgs rfl rfl (fun hb4 => ?_) (fun hb4 => ?_)
      · have phb4 := hb4; try simp at phb4
        refine jg_off rfl rfl rfl hb4 <| jg_off rfl rfl rfl hb4 <| jg_off rfl rfl rfl hb4 <| jg_off rfl rfl rfl hb4 <| jg_off rfl rfl rfl hb4 <| jpick_t rfl rfl hb4 rfl <| jm rfl rfl <| jg_off rfl rfl rfl rfl <| jg_off rfl rfl rfl rfl <| jg_off rfl rfl rfl rfl <| jg_off rfl rfl rfl rfl <| jg_off rfl rfl rfl rfl <| jpick_t rfl rfl rfl rfl <| j_nil <| p_thn <| c_cond_kt rfl rfl <| c_seq <| c_region <| ja rfl rfl <| j_nil <| p_thn <| c_ret <| p_thn_ret <| ?_
        refine p_ret0 rfl rfl (.tmp rfl <| .nil) ?_
        show Value.bool _ = _
        congr 1; symm
        simp [cRight, *]
      · have phb4 := hb4; try simp at phb4
        refine jg rfl rfl hb4 <| jfa rfl rfl rfl <| jg rfl rfl hb4 <| jld1 0 rfl rfl rfl rfl <| jg rfl rfl hb4 <| jfa rfl rfl rfl <| jg rfl rfl hb4 <| jld1 0 rfl rfl rfl rfl <| jg rfl rfl hb4 <| jgtr rfl rfl rfl <| jpick_f rfl rfl hb4 rfl <| jm rfl rfl <| jgs rfl rfl (fun hb5 => ?_) (fun hb5 => ?_)
        · have phb5 := hb5; try simp at phb5
          refine jg_off rfl rfl rfl hb5 <| jg_off rfl rfl rfl hb5 <| jg_off rfl rfl rfl hb5 <| jg_off rfl rfl rfl hb5 <| jg_off rfl rfl rfl hb5 <| jpick_t rfl rfl hb5 rfl <| j_nil <| p_thn <| c_cond_kt rfl rfl <| c_seq <| c_region <| ja rfl rfl <| j_nil <| p_thn <| c_ret <| p_thn_ret <| ?_
          refine p_ret0 rfl rfl (.tmp rfl <| .nil) ?_
          show Value.bool _ = _
          congr 1; symm
          simp [cRight, show ¬ c.low ≤ c.init by omega]
        · have phb5 := hb5; try simp at phb5
          refine jg rfl rfl hb5 <| jfa rfl rfl rfl <| jg rfl rfl hb5 <| jld1 0 rfl rfl rfl rfl <| jg rfl rfl hb5 <| jfa rfl rfl rfl <| jg rfl rfl hb5 <| jld1 0 rfl rfl rfl rfl <| jg rfl rfl hb5 <| jgtr rfl rfl rfl <| jpick_f rfl rfl hb5 rfl <| j_nil <| p_thn <| c_cond rfl (fun hb6 => ?_) (fun hb6 => ?_)
          · have phb6 := hb6; try simp at phb6
            refine c_seq <| c_region <| ja rfl rfl <| j_nil <| p_thn <| c_ret <| p_thn_ret <| ?_
            refine p_ret0 rfl rfl (.tmp rfl <| .nil) ?_
            show Value.bool _ = _
            congr 1; symm
            simp [cRight, show ¬ c.init ≤ c.high by omega]
          · have phb6 := hb6; try simp at phb6
            refine c_skip <| p_thn <| c_seq <| c_region <| jfa rfl rfl rfl <| jld 0 rfl rfl rfl (pC_down _) (len_rights _) <| jcallv rfl rfl rfl (rights_Right _ _) <| jm rfl rfl <| jgs rfl rfl (fun hb7 => ?_) (fun hb7 => ?_)
            · have phb7 := hb7; try simp at phb7
              refine jg rfl rfl hb7 <| jfa rfl rfl rfl <| jg rfl rfl hb7 <| jld 0 rfl rfl rfl (pC_up _) (len_rights _) <| jg rfl rfl hb7 <| jcallv rfl rfl rfl (rights_Right _ _) <| jpick_t rfl rfl hb7 rfl <| jm rfl rfl <| jgs rfl rfl (fun hb8 => ?_) (fun hb8 => ?_)
              · have phb8 := hb8; try simp at phb8
                refine jg rfl rfl hb8 <| jfa rfl rfl rfl <| jg rfl rfl hb8 <| jld 0 rfl rfl rfl (pC_down _) (len_rights _) <| jg rfl rfl hb8 <| jfa rfl rfl rfl <| jg rfl rfl hb8 <| jld 0 rfl rfl rfl (pC_up _) (len_rights _) <| jg rfl rfl hb8 <| jfa rfl rfl rfl <| jg rfl rfl hb8 <| jld1 0 rfl rfl rfl rfl <| jg rfl rfl hb8 <| jfa rfl rfl rfl <| jg rfl rfl hb8 <| jld1 0 rfl rfl rfl rfl <| jg rfl rfl hb8 <| jsub rfl rfl rfl (wr_sub (by assumption) (by assumption)) <| jg rfl rfl hb8 <| jcallv rfl rfl rfl (counter_given _ _ _ _) <| jpick_t rfl rfl hb8 rfl <| jm rfl rfl <| jgs rfl rfl (fun hb9 => ?_) (fun hb9 => ?_)
                · have phb9 := hb9; try simp at phb9
                  refine jg rfl rfl hb9 <| jfa rfl rfl rfl <| jg rfl rfl hb9 <| jld 0 rfl rfl rfl (pC_up _) (len_rights _) <| jg rfl rfl hb9 <| jfa rfl rfl rfl <| jg rfl rfl hb9 <| jld 0 rfl rfl rfl (pC_down _) (len_rights _) <| jg rfl rfl hb9 <| jfa rfl rfl rfl <| jg rfl rfl hb9 <| jld1 0 rfl rfl rfl rfl <| jg rfl rfl hb9 <| jfa rfl rfl rfl <| jg rfl rfl hb9 <| jld1 0 rfl rfl rfl rfl <| jg rfl rfl hb9 <| jsub rfl rfl rfl (wr_sub (by assumption) (by assumption)) <| jg rfl rfl hb9 <| jcallv rfl rfl rfl (counter_given _ _ _ _) <| jpick_t rfl rfl hb9 rfl <| ja rfl rfl <| j_nil <| p_thn <| c_ret <| ?_
                  refine p_ret0 rfl rfl (.tmp rfl <| .nil) ?_
                  show Value.bool _ = _
                  congr 1; symm
                  simp [cRight, *]
                · have phb9 := hb9; try simp at phb9
                  refine jg_off rfl rfl rfl hb9 <| jg_off rfl rfl rfl hb9 <| jg_off rfl rfl rfl hb9 <| jg_off rfl rfl rfl hb9 <| jg_off rfl rfl rfl hb9 <| jg_off rfl rfl rfl hb9 <| jg_off rfl rfl rfl hb9 <| jg_off rfl rfl rfl hb9 <| jg_off rfl rfl rfl hb9 <| jg_off rfl rfl rfl hb9 <| jpick_f rfl rfl hb9 rfl <| ja rfl rfl <| j_nil <| p_thn <| c_ret <| ?_
                  refine p_ret0 rfl rfl (.tmp rfl <| .nil) ?_
                  show Value.bool _ = _
                  congr 1; symm
                  simp [cRight, *]
              · have phb8 := hb8; try simp at phb8
                refine jg_off rfl rfl rfl hb8 <| jg_off rfl rfl rfl hb8 <| jg_off rfl rfl rfl hb8 <| jg_off rfl rfl rfl hb8 <| jg_off rfl rfl rfl hb8 <| jg_off rfl rfl rfl hb8 <| jg_off rfl rfl rfl hb8 <| jg_off rfl rfl rfl hb8 <| jg_off rfl rfl rfl hb8 <| jg_off rfl rfl rfl hb8 <| jpick_f rfl rfl hb8 rfl <| jm rfl rfl <| jg_off rfl rfl rfl rfl <| jg_off rfl rfl rfl rfl <| jg_off rfl rfl rfl rfl <| jg_off rfl rfl rfl rfl <| jg_off rfl rfl rfl rfl <| jg_off rfl rfl rfl rfl <| jg_off rfl rfl rfl rfl <| jg_off rfl rfl rfl rfl <| jg_off rfl rfl rfl rfl <| jg_off rfl rfl rfl rfl <| jpick_f rfl rfl rfl rfl <| ja rfl rfl <| j_nil <| p_thn <| c_ret <| ?_
                refine p_ret0 rfl rfl (.tmp rfl <| .nil) ?_
                show Value.bool _ = _
                congr 1; symm
                simp [cRight, *]
            · have phb7 := hb7; try simp at phb7
              refine jg_off rfl rfl rfl hb7 <| jg_off rfl rfl rfl hb7 <| jg_off rfl rfl rfl hb7 <| jpick_f rfl rfl hb7 rfl <| jm rfl rfl <| jg_off rfl rfl rfl rfl <| jg_off rfl rfl rfl rfl <| jg_off rfl rfl rfl rfl <| jg_off rfl rfl rfl rfl <| jg_off rfl rfl rfl rfl <| jg_off rfl rfl rfl rfl <| jg_off rfl rfl rfl rfl <| jg_off rfl rfl rfl rfl <| jg_off rfl rfl rfl rfl <| jg_off rfl rfl rfl rfl <| jpick_f rfl rfl rfl rfl <| jm rfl rfl <| jg_off rfl rfl rfl rfl <| jg_off rfl rfl rfl rfl <| jg_off rfl rfl rfl rfl <| jg_off rfl rfl rfl rfl <| jg_off rfl rfl rfl rfl <| jg_off rfl rfl rfl rfl <| jg_off rfl rfl rfl rfl <| jg_off rfl rfl rfl rfl <| jg_off rfl rfl rfl rfl <| jg_off rfl rfl rfl rfl <| jpick_f rfl rfl rfl rfl <| ja rfl rfl <| j_nil <| p_thn <| c_ret <| ?_
              refine p_ret0 rfl rfl (.tmp rfl <| .nil) ?_
              show Value.bool _ = _
              congr 1; symm
              simp [cRight, *]
theorem counter_Join (a b : Counter) (M : Mem) : Ctr Tryz.prog 90 [.agg (encCounter a).toArray, .agg (encCounter b).toArray] M [] (fun v _ _ => v = pC (cJoin a b)) := by
  refine ctr Tryz.func90 rfl Tryz.ntmps90 rfl fun w => ?_
  refine c_seq <| c_region <| jbox rfl rfl rfl fun B1 => jbox rfl rfl rfl fun B2 => jalloc rfl fun B3 => ja rfl rfl <| j_nil <| p_thn <| c_seq <| c_seq <| c_region <| jfa rfl rfl rfl <| jld1 2 rfl rfl rfl rfl <| jfa rfl rfl rfl <| jld1 1 rfl rfl rfl rfl <| jneq rfl rfl rfl <| jm rfl rfl <| jgs rfl rfl (fun hb4 => ?_) (fun hb4 => ?_)
  · have phb4 := hb4; try simp at phb4
    refine jg_off rfl rfl rfl hb4 <| jg_off rfl rfl rfl hb4 <| jg_off rfl rfl rfl hb4 <| jg_off rfl rfl rfl hb4 <| jg_off rfl rfl rfl hb4 <| jpick_t rfl rfl hb4 rfl <| jm rfl rfl <| jg_off rfl rfl rfl rfl <| jg_off rfl rfl rfl rfl <| jg_off rfl rfl rfl rfl <| jg_off rfl rfl rfl rfl <| jg_off rfl rfl rfl rfl <| jpick_t rfl rfl rfl rfl <| j_nil <| p_thn <| c_cond_kt rfl rfl <| c_seq <| c_region <| jbu0 rfl <| jstw 0 rfl rfl rfl rfl (len_counter _) (one_counter _) (len_counter _) <| ja rfl rfl <| j_nil <| p_thn <| c_ret <| p_thn_ret <| ?_
    refine p_ret0 rfl rfl (.agg 0 inferInstance rfl rfl (len_counter _) <| .tmp rfl <| .nil) ?_
    show pC (_, _) = pC _
    unfold cJoin
    simp [*, cZ]
  · have phb4 := hb4; try simp at phb4
    refine jg rfl rfl hb4 <| jfa rfl rfl rfl <| jg rfl rfl hb4 <| jld1 2 rfl rfl rfl rfl <| jg rfl rfl hb4 <| jfa rfl rfl rfl <| jg rfl rfl hb4 <| jld1 1 rfl rfl rfl rfl <| jg rfl rfl hb4 <| jneq rfl rfl rfl <| jpick_f rfl rfl hb4 rfl <| jm rfl rfl <| jgs rfl rfl (fun hb5 => ?_) (fun hb5 => ?_)
    · have phb5 := hb5; try simp at phb5
      refine jg_off rfl rfl rfl hb5 <| jg_off rfl rfl rfl hb5 <| jg_off rfl rfl rfl hb5 <| jg_off rfl rfl rfl hb5 <| jg_off rfl rfl rfl hb5 <| jpick_t rfl rfl hb5 rfl <| j_nil <| p_thn <| c_cond_kt rfl rfl <| c_seq <| c_region <| jbu0 rfl <| jstw 0 rfl rfl rfl rfl (len_counter _) (one_counter _) (len_counter _) <| ja rfl rfl <| j_nil <| p_thn <| c_ret <| p_thn_ret <| ?_
      refine p_ret0 rfl rfl (.agg 0 inferInstance rfl rfl (len_counter _) <| .tmp rfl <| .nil) ?_
      show pC (_, _) = pC _
      unfold cJoin
      simp [*, cZ]
    · have phb5 := hb5; try simp at phb5
      refine jg rfl rfl hb5 <| jfa rfl rfl rfl <| jg rfl rfl hb5 <| jld1 2 rfl rfl rfl rfl <| jg rfl rfl hb5 <| jfa rfl rfl rfl <| jg rfl rfl hb5 <| jld1 1 rfl rfl rfl rfl <| jg rfl rfl hb5 <| jneq rfl rfl rfl <| jpick_f rfl rfl hb5 rfl <| j_nil <| p_thn <| c_cond rfl (fun hb6 => ?_) (fun hb6 => ?_)
      · have phb6 := hb6; try simp at phb6
        refine c_seq <| c_region <| jbu0 rfl <| jstw 0 rfl rfl rfl rfl (len_counter _) (one_counter _) (len_counter _) <| ja rfl rfl <| j_nil <| p_thn <| c_ret <| p_thn_ret <| ?_
        refine p_ret0 rfl rfl (.agg 0 inferInstance rfl rfl (len_counter _) <| .tmp rfl <| .nil) ?_
        show pC (_, _) = pC _
        unfold cJoin
        simp [*, cZ]
      · have phb6 := hb6; try simp at phb6
        refine c_skip <| p_thn <| c_seq <| c_draw [1, 3, 6, 8] (by kernel_rfl) <| jd_z (i := 0) rfl rfl (by kernel_rfl) (by kernel_rfl) (by kernel_rfl) (by kernel_rfl) rfl (zfa rfl rfl) <| jd_first (i := 1) rfl rfl (by kernel_rfl) (by kernel_rfl) (by kernel_rfl) (by kernel_rfl) (by kernel_rfl) rfl (fun _ h => h) (yld 2 rfl rfl (pC_down _) (len_rights _)) <| jd_z (i := 2) rfl rfl (by kernel_rfl) (by kernel_rfl) (by kernel_rfl) (by kernel_rfl) rfl (zfa rfl rfl) <| jd_first (i := 3) rfl rfl (by kernel_rfl) (by kernel_rfl) (by kernel_rfl) (by kernel_rfl) (by kernel_rfl) rfl (fun _ h => h) (yld 1 rfl rfl (pC_down _) (len_rights _)) <| jd_z (i := 5) rfl rfl (by kernel_rfl) (by kernel_rfl) (by kernel_rfl) (by kernel_rfl) rfl (zfa rfl rfl) <| jd_first (i := 6) rfl rfl (by kernel_rfl) (by kernel_rfl) (by kernel_rfl) (by kernel_rfl) (by kernel_rfl) rfl (fun _ h => h) (yld 2 rfl rfl (pC_up _) (len_rights _)) <| jd_z (i := 7) rfl rfl (by kernel_rfl) (by kernel_rfl) (by kernel_rfl) (by kernel_rfl) rfl (zfa rfl rfl) <| jd_first (i := 8) rfl rfl (by kernel_rfl) (by kernel_rfl) (by kernel_rfl) (by kernel_rfl) (by kernel_rfl) rfl (fun _ h => h) (yld 1 rfl rfl (pC_up _) (len_rights _)) <| jd_one (i := 4) (by kernel_rfl) rfl <| jcallv rfl rfl rfl (rights_Join _ _ _) <| j_nil <| p_jd rfl (.inr (fun _ h => h)) <| jd_z (i := 10) rfl rfl (by kernel_rfl) (by kernel_rfl) (by kernel_rfl) (by kernel_rfl) rfl (zfa rfl rfl) <| jd_one (i := 9) (by kernel_rfl) rfl <| jcallv rfl rfl rfl (rights_Join _ _ _) <| j_nil <| p_jd rfl (.inl (by kernel_rfl)) <| jd_one (i := 11) (by kernel_rfl) rfl <| jst 2 rfl rfl rfl rfl (len_rights _) (one_rights _) (by rw [len_counter]; decide) uC_down <| j_nil <| p_jd rfl (.inl (by kernel_rfl)) <| jd_z (i := 12) rfl rfl (by kernel_rfl) (by kernel_rfl) (by kernel_rfl) (by kernel_rfl) rfl (zfa rfl rfl) <| jd_one (i := 13) (by kernel_rfl) rfl <| jst 2 rfl rfl rfl rfl (len_rights _) (one_rights _) (by rw [len_counter]; decide) uC_up <| j_nil <| p_jd rfl (.inl (by kernel_rfl)) <| jd_done (by kernel_rfl) <| p_thn <| c_seq <| c_region <| jldw 2 rfl rfl rfl (len_counter _) <| jstw 0 rfl rfl rfl rfl (len_counter _) (one_counter _) (len_counter _) <| ja rfl rfl <| j_nil <| p_thn <| c_ret <| ?_
        refine p_ret0 rfl rfl (.agg 0 inferInstance rfl rfl (len_counter _) <| .tmp rfl <| .nil) ?_
        show pC (_, _) = pC _
        unfold cJoin
        simp [*, cZ]
theorem counter_New (i l h : Int) (M : Mem) : Ctr Tryz.prog 60 [vi i, vi l, vi h] M [] (fun v _ _ => v = pC (cNew i l h)) := by
  refine ctr Tryz.func60 rfl Tryz.ntmps60 rfl fun w => ?_
  refine c_seq <| c_region <| jalloc rfl fun B1 => ja rfl rfl <| j_nil <| p_thn <| c_seq <| c_region <| jm rfl rfl <| jm rfl rfl <| jm rfl rfl <| jbu (zc := encCounter cZ) (c := encCounter ⟨i, l, h, rZ, rZ⟩) rfl rfl fillC <| jalloc rfl fun B2 => jstw 0 rfl rfl rfl rfl (len_counter _) (one_counter _) (len_counter _) <| j_nil <| p_thn <| c_seq <| c_region <| jm rfl rfl <| jm rfl rfl <| jcallv rfl rfl rfl (num_Sub _ _ _) <| jm rfl rfl <| jext rfl rfl rfl <| jext rfl rfl rfl <| ja rfl rfl <| ja rfl rfl <| j_nil <| p_thn <| c_seq <| c_region <| jm rfl rfl <| jm rfl rfl <| jcallv rfl rfl rfl (num_Sub _ _ _) <| jm rfl rfl <| jext rfl rfl rfl <| jext rfl rfl rfl <| ja rfl rfl <| ja rfl rfl <| j_nil <| p_thn <| c_seq <| c_region <| jm rfl rfl <| jm rfl rfl <| jcallv rfl rfl rfl (num_Sub _ _ _) <| jm rfl rfl <| jext rfl rfl rfl <| jext rfl rfl rfl <| ja rfl rfl <| ja rfl rfl <| j_nil <| p_thn <| c_seq <| c_seq <| c_region <| jm rfl rfl <| jneq rfl rfl rfl <| jm rfl rfl <| jgs rfl rfl (fun hb3 => ?_) (fun hb3 => ?_)
  · have phb3 := hb3; try simp at phb3
    refine jg_off rfl rfl rfl hb3 <| jg_off rfl rfl rfl hb3 <| jpick_t rfl rfl hb3 rfl <| jm rfl rfl <| jg_off rfl rfl rfl rfl <| jg_off rfl rfl rfl rfl <| jpick_t rfl rfl rfl rfl <| jm rfl rfl <| jg_off rfl rfl rfl rfl <| jg_off rfl rfl rfl rfl <| jpick_t rfl rfl rfl rfl <| jm rfl rfl <| jg_off rfl rfl rfl rfl <| jg_off rfl rfl rfl rfl <| jpick_t rfl rfl rfl rfl <| j_nil <| p_thn <| c_cond_kt rfl rfl <| c_seq <| c_region <| jbu0 rfl <| jstw 1 rfl rfl rfl rfl (len_counter _) (one_counter _) (len_counter _) <| ja rfl rfl <| j_nil <| p_thn <| c_ret <| p_thn_ret <| ?_
    refine p_ret0 rfl rfl (.agg 1 inferInstance rfl rfl (len_counter _) <| .tmp rfl <| .nil) ?_
    show pC (_, _) = pC _
    unfold cNew
    simp [*, cZ]
  · have phb3 := hb3; try simp at phb3
    refine jg rfl rfl hb3 <| jm rfl rfl <| jg rfl rfl hb3 <| jneq rfl rfl rfl <| jpick_f rfl rfl hb3 rfl <| jm rfl rfl <| jgs rfl rfl (fun hb4 => ?_) (fun hb4 => ?_)
    · have phb4 := hb4; try simp at phb4
      refine jg_off rfl rfl rfl hb4 <| jg_off rfl rfl rfl hb4 <| jpick_t rfl rfl hb4 rfl <| jm rfl rfl <| jg_off rfl rfl rfl rfl <| jg_off rfl rfl rfl rfl <| jpick_t rfl rfl rfl rfl <| jm rfl rfl <| jg_off rfl rfl rfl rfl <| jg_off rfl rfl rfl rfl <| jpick_t rfl rfl rfl rfl <| j_nil <| p_thn <| c_cond_kt rfl rfl <| c_seq <| c_region <| jbu0 rfl <| jstw 1 rfl rfl rfl rfl (len_counter _) (one_counter _) (len_counter _) <| ja rfl rfl <| j_nil <| p_thn <| c_ret <| p_thn_ret <| ?_
      refine p_ret0 rfl rfl (.agg 1 inferInstance rfl rfl (len_counter _) <| .tmp rfl <| .nil) ?_
      show pC (_, _) = pC _
      unfold cNew
      simp [*, cZ]
    · have phb4 := hb4; try simp at phb4
      refine jg rfl rfl hb4 <| jm rfl rfl <| jg rfl rfl hb4 <| jneq rfl rfl rfl <| jpick_f rfl rfl hb4 rfl <| jm rfl rfl <| jgs rfl rfl (fun hb5 => ?_) (fun hb5 => ?_)
      · have phb5 := hb5; try simp at phb5
        refine jg_off rfl rfl rfl hb5 <| jg_off rfl rfl rfl hb5 <| jpick_t rfl rfl hb5 rfl <| jm rfl rfl <| jg_off rfl rfl rfl rfl <| jg_off rfl rfl rfl rfl <| jpick_t rfl rfl rfl rfl <| j_nil <| p_thn <| c_cond_kt rfl rfl <| c_seq <| c_region <| jbu0 rfl <| jstw 1 rfl rfl rfl rfl (len_counter _) (one_counter _) (len_counter _) <| ja rfl rfl <| j_nil <| p_thn <| c_ret <| p_thn_ret <| ?_
        refine p_ret0 rfl rfl (.agg 1 inferInstance rfl rfl (len_counter _) <| .tmp rfl <| .nil) ?_
        show pC (_, _) = pC _
        unfold cNew
        simp [*, cZ]
      · have phb5 := hb5; try simp at phb5
        refine jg rfl rfl hb5 <| jm rfl rfl <| jg rfl rfl hb5 <| jlss rfl rfl rfl <| jpick_f rfl rfl hb5 rfl <| jm rfl rfl <| jgs rfl rfl (fun hb6 => ?_) (fun hb6 => ?_)
        · have phb6 := hb6; try simp at phb6
          refine jg_off rfl rfl rfl hb6 <| jg_off rfl rfl rfl hb6 <| jpick_t rfl rfl hb6 rfl <| j_nil <| p_thn <| c_cond_kt rfl rfl <| c_seq <| c_region <| jbu0 rfl <| jstw 1 rfl rfl rfl rfl (len_counter _) (one_counter _) (len_counter _) <| ja rfl rfl <| j_nil <| p_thn <| c_ret <| p_thn_ret <| ?_
          refine p_ret0 rfl rfl (.agg 1 inferInstance rfl rfl (len_counter _) <| .tmp rfl <| .nil) ?_
          show pC (_, _) = pC _
          unfold cNew
          rw [if_neg (by omega)]
          rfl
        · have phb6 := hb6; try simp at phb6
          refine jg rfl rfl hb6 <| jm rfl rfl <| jg rfl rfl hb6 <| jlss rfl rfl rfl <| jpick_f rfl rfl hb6 rfl <| j_nil <| p_thn <| c_cond rfl (fun hb7 => ?_) (fun hb7 => ?_)
          · have phb7 := hb7; try simp at phb7
            refine c_seq <| c_region <| jbu0 rfl <| jstw 1 rfl rfl rfl rfl (len_counter _) (one_counter _) (len_counter _) <| ja rfl rfl <| j_nil <| p_thn <| c_ret <| p_thn_ret <| ?_
            refine p_ret0 rfl rfl (.agg 1 inferInstance rfl rfl (len_counter _) <| .tmp rfl <| .nil) ?_
            show pC (_, _) = pC _
            unfold cNew
            rw [if_neg (by omega)]
            rfl
          · have phb7 := hb7; try simp at phb7
            refine c_skip <| p_thn <| c_seq <| c_region <| jm rfl rfl <| jm rfl rfl <| jfa rfl rfl rfl <| jfa rfl rfl rfl <| jia rfl rfl rfl (by decide) (by decide) <| jst 0 rfl rfl rfl rfl rfl rfl (by simp [len_vec, len_rights, len_counter] <;> omega) (uC_dgiven1 (by decide) (by decide)) <| jfa rfl rfl rfl <| jfa rfl rfl rfl <| jia rfl rfl rfl (by decide) (by decide) <| jst 0 rfl rfl rfl rfl rfl rfl (by simp [len_vec, len_rights, len_counter] <;> omega) (uC_ugiven1 (by decide) (by decide)) <| j_nil <| p_thn <| c_seq <| c_region <| jldw 0 rfl rfl rfl (len_counter _) <| jstw 1 rfl rfl rfl rfl (len_counter _) (one_counter _) (len_counter _) <| ja rfl rfl <| j_nil <| p_thn <| c_ret <| ?_
            refine p_ret0 rfl rfl (.agg 1 inferInstance rfl rfl (len_counter _) <| .tmp rfl <| .nil) ?_
            show pC (_, _) = pC _
            unfold cNew
            simp [*, cZ] <;> rfl
theorem counter_both {f1 f2 f3 B0 T : Nat} {ca1 ca2 ca3 : List Value} [FnI Tryz.prog f1] [FnI Tryz.prog f2] [FnI Tryz.prog f3] (c c1 c2 : Counter) (p1 p2 : Rights × Int) {Lt : List Ent} (M : Mem) (h1 : Ctr Tryz.prog f1 ca1 M (.blk B0 T (encCounter c1) :: Lt) (fun v _ L' => v = pR p1 ∧ L' = .blk B0 T (encCounter c1) :: Lt)) (h2 : Ctr Tryz.prog f2 ca2 M (.blk B0 T (encCounter c1) :: Lt) (fun v _ L' => v = pR p2 ∧ L' = .blk B0 T (encCounter c1) :: Lt)) (h3 : Ctr Tryz.prog f3 ([.agg (encRights p1.1).toArray, .agg (encRights p2.1).toArray] ++ ca3) M (.blk B0 T (encCounter c1) :: Lt) (fun v _ L' => v = .tuple #[] ∧ L' = .blk B0 T (encCounter c2) :: Lt)) : Ctr Tryz.prog 120 [.agg (encCounter c).toArray, .func (.func f1) #[] ca1.toArray, .func (.func f2) #[] ca2.toArray, .func (.func f3) #[] ca3.toArray] M (.blk B0 T (encCounter c1) :: Lt) (fun v _ L' => v = vi (bothE p1.2 p2.2) ∧ L' = .blk B0 T (encCounter (if bothE p1.2 p2.2 = 0 then c2 else c1)) :: Lt) := by
  refine ctr Tryz.func120 rfl Tryz.ntmps120 rfl fun w => ?_
  refine c_seq <| c_region <| jbox rfl rfl rfl fun B1 => ja rfl rfl <| j_nil <| p_thn <| c_seq <| c_region <| jm rfl rfl <| jcallo rfl rfl rfl (ap_s <| ap_0) h1 (ap_s <| ap_0) <| jm rfl rfl <| jext rfl rfl rfl <| jext rfl rfl rfl <| jalloc rfl fun B2 => jstw 0 rfl rfl rfl rfl (len_rights _) (one_rights _) (len_rights _) <| ja rfl rfl <| j_nil <| p_thn <| c_seq <| c_seq <| c_region <| jm rfl rfl <| jneq rfl rfl rfl <| j_nil <| p_thn <| c_cond rfl (fun hb3 => ?_) (fun hb3 => ?_)
  · have phb3 := hb3; try simp at phb3
    refine c_seq <| c_region <| jm rfl rfl <| ja rfl rfl <| j_nil <| p_thn <| c_ret <| p_thn_ret <| ?_
    refine p_retD (ap_s <| ap_s <| ap_0) rfl rfl (.tmp rfl <| .nil) ?_
    exact ⟨by show vi _ = _; simp [bothE, *], by simp [bothE, *]⟩
  · have phb3 := hb3; try simp at phb3
    refine c_skip <| p_thn <| c_seq <| c_region <| jm rfl rfl <| jcallo rfl rfl rfl (ap_s <| ap_s <| ap_0) h2 (ap_s <| ap_s <| ap_0) <| jm rfl rfl <| jext rfl rfl rfl <| jext rfl rfl rfl <| jalloc rfl fun B4 => jstw 0 rfl rfl rfl rfl (len_rights _) (one_rights _) (len_rights _) <| ja rfl rfl <| j_nil <| p_thn <| c_seq <| c_seq <| c_region <| jm rfl rfl <| jeql rfl rfl rfl <| j_nil <| p_thn <| c_cond rfl (fun hb5 => ?_) (fun hb5 => ?_)
    · have phb5 := hb5; try simp at phb5
      refine c_region <| jm rfl rfl <| jldw 1 rfl rfl rfl (len_rights _) <| jldw 0 rfl rfl rfl (len_rights _) <| jcallo rfl rfl rfl (ap_s <| ap_s <| ap_s <| ap_0) h3 (ap_s <| ap_s <| ap_s <| ap_0) <| j_nil <| p_thn <| c_seq <| c_region <| jm rfl rfl <| ja rfl rfl <| j_nil <| p_thn <| c_ret <| ?_
      refine p_retD (ap_s <| ap_s <| ap_s <| ap_0) rfl rfl (.tmp rfl <| .nil) ?_
      exact ⟨by show vi _ = _; simp [bothE, *], by simp [bothE, *]⟩
    · have phb5 := hb5; try simp at phb5
      refine c_skip <| p_thn <| c_seq <| c_region <| jm rfl rfl <| ja rfl rfl <| j_nil <| p_thn <| c_ret <| ?_
      refine p_retD (ap_s <| ap_s <| ap_s <| ap_0) rfl rfl (.tmp rfl <| .nil) ?_
      exact ⟨by show vi _ = _; simp [bothE, *], by simp [bothE, *]⟩
theorem counter_Dec1 (c : Counter) (n1 n2 : Int) {X0 X1 X2 : Nat} (M : Mem) : Ctr Tryz.prog 121 [.pointer (some ⟨X0, 0, none⟩), .pointer (some ⟨X1, 0, none⟩), .pointer (some ⟨X2, 0, none⟩)] M [.blk X0 44 (encCounter c), .blk X1 3 [vi n1], .blk X2 3 [vi n2]] (fun v _ L' => v = pR (rUse c.down n1 n2) ∧ L' = [.blk X0 44 (encCounter c), .blk X1 3 [vi n1], .blk X2 3 [vi n2]]) := by
  refine ctr Tryz.func121 rfl Tryz.ntmps121 rfl fun w => ?_
  refine c_seq <| c_region <| jalloc rfl fun B1 => ja rfl rfl <| j_nil <| p_thn <| c_seq <| c_region <| jfa rfl rfl rfl <| jld 1 rfl rfl rfl (pC_down _) (len_rights _) <| jld1 2 rfl rfl rfl rfl <| jld1 3 rfl rfl rfl rfl <| jcallv rfl rfl rfl (rights_Use _ _ _ _) <| jext rfl rfl rfl <| jext rfl rfl rfl <| jstw 0 rfl rfl rfl rfl (len_rights _) (one_rights _) (len_rights _) <| ja rfl rfl <| j_nil <| p_thn <| c_ret <| ?_
  refine jp_perm (fr_s <| fr_s <| fr_s <| fr_0) <| jp_perm (fr_s <| fr_s <| fr_s <| fr_0) <| jp_perm (fr_s <| fr_s <| fr_s <| fr_0) <| ?_
  refine p_retK (ap_s <| ap_s <| ap_s <| ap_0) rfl rfl (.agg 3 inferInstance rfl rfl (len_rights _) <| .tmp rfl <| .nil) ?_
  exact ⟨rfl, rfl⟩
theorem counter_Dec2 (c : Counter) (n1 n2 : Int) {X0 X1 X2 : Nat} (M : Mem) : Ctr Tryz.prog 123 [.pointer (some ⟨X0, 0, none⟩), .pointer (some ⟨X1, 0, none⟩), .pointer (some ⟨X2, 0, none⟩)] M [.blk X0 44 (encCounter c), .blk X1 3 [vi n1], .blk X2 3 [vi n2]] (fun v _ L' => v = pR (rGive c.up n1 n2) ∧ L' = [.blk X0 44 (encCounter c), .blk X1 3 [vi n1], .blk X2 3 [vi n2]]) := by
  refine ctr Tryz.func123 rfl Tryz.ntmps123 rfl fun w => ?_
  refine c_seq <| c_region <| jalloc rfl fun B1 => ja rfl rfl <| j_nil <| p_thn <| c_seq <| c_region <| jfa rfl rfl rfl <| jld 1 rfl rfl rfl (pC_up _) (len_rights _) <| jld1 2 rfl rfl rfl rfl <| jld1 3 rfl rfl rfl rfl <| jcallv rfl rfl rfl (rights_Give _ _ _ _) <| jext rfl rfl rfl <| jext rfl rfl rfl <| jstw 0 rfl rfl rfl rfl (len_rights _) (one_rights _) (len_rights _) <| ja rfl rfl <| j_nil <| p_thn <| c_ret <| ?_
  refine jp_perm (fr_s <| fr_s <| fr_s <| fr_0) <| jp_perm (fr_s <| fr_s <| fr_s <| fr_0) <| jp_perm (fr_s <| fr_s <| fr_s <| fr_0) <| ?_
  refine p_retK (ap_s <| ap_s <| ap_s <| ap_0) rfl rfl (.agg 3 inferInstance rfl rfl (len_rights _) <| .tmp rfl <| .nil) ?_
  exact ⟨rfl, rfl⟩
theorem counter_Dec3 (c : Counter) (a b : Rights) (n1 n2 : Int) {X0 X1 X2 : Nat} (M : Mem) : Ctr Tryz.prog 125 [.agg (encRights a).toArray, .agg (encRights b).toArray, .pointer (some ⟨X0, 0, none⟩)] M [.blk X0 44 (encCounter c), .blk X1 3 [vi n1], .blk X2 3 [vi n2]] (fun v _ L' => v = .tuple #[] ∧ L' = [.blk X0 44 (encCounter { c with down := a, up := b }), .blk X1 3 [vi n1], .blk X2 3 [vi n2]]) := by
  refine ctr Tryz.func125 rfl Tryz.ntmps125 rfl fun w => ?_
  refine c_seq <| c_region <| jbox rfl rfl rfl fun B1 => jbox rfl rfl rfl fun B2 => j_nil <| p_thn <| jc_perm (fr_s <| fr_s <| fr_0) <| c_drawL [0, 1] (by kernel_rfl) (ap_s <| ap_0) <| jd_first (i := 0) rfl rfl (by kernel_rfl) (by kernel_rfl) (by kernel_rfl) (by kernel_rfl) (by kernel_rfl) rfl (fun _ h => (h.drop (L := [_]))) (yldw 1 rfl rfl (len_rights _)) <| jd_first (i := 1) rfl rfl (by kernel_rfl) (by kernel_rfl) (by kernel_rfl) (by kernel_rfl) (by kernel_rfl) rfl (fun _ h => (h.drop (L := [_]))) (yldw 0 rfl rfl (len_rights _)) <| jd_z (i := 2) rfl rfl (by kernel_rfl) (by kernel_rfl) (by kernel_rfl) (by kernel_rfl) rfl (zfa rfl rfl) <| jd_one (i := 3) (by kernel_rfl) rfl <| jst 0 rfl rfl rfl rfl (len_rights _) (one_rights _) (by rw [len_counter]; decide) uC_down <| j_nil <| p_jd rfl (.inr (fun _ h => (h.drop (L := [_])))) <| jd_z (i := 4) rfl rfl (by kernel_rfl) (by kernel_rfl) (by kernel_rfl) (by kernel_rfl) rfl (zfa rfl rfl) <| jd_one (i := 5) (by kernel_rfl) rfl <| jst 0 rfl rfl rfl rfl (len_rights _) (one_rights _) (by rw [len_counter]; decide) uC_up <| j_nil <| p_jd rfl (.inl (by kernel_rfl)) <| jd_done (by kernel_rfl) <| ?_
  refine jp_perm (fr_s <| fr_s <| fr_s <| fr_s <| fr_0) <| jp_perm (fr_s <| fr_s <| fr_s <| fr_s <| fr_0) <| jp_perm (fr_s <| fr_s <| fr_0) <| ?_
  refine p_endK (ap_s <| ap_s <| ap_s <| ap_0) rfl rfl (.nil) ?_
  exact ⟨rfl, rfl⟩
theorem counter_Inc1 (c : Counter) (n1 n2 : Int) {X0 X1 X2 : Nat} (M : Mem) : Ctr Tryz.prog 145 [.pointer (some ⟨X0, 0, none⟩), .pointer (some ⟨X1, 0, none⟩), .pointer (some ⟨X2, 0, none⟩)] M [.blk X0 44 (encCounter c), .blk X1 3 [vi n1], .blk X2 3 [vi n2]] (fun v _ L' => v = pR (rUse c.up n1 n2) ∧ L' = [.blk X0 44 (encCounter c), .blk X1 3 [vi n1], .blk X2 3 [vi n2]]) := by
  refine ctr Tryz.func145 rfl Tryz.ntmps145 rfl fun w => ?_
  refine c_seq <| c_region <| jalloc rfl fun B1 => ja rfl rfl <| j_nil <| p_thn <| c_seq <| c_region <| jfa rfl rfl rfl <| jld 1 rfl rfl rfl (pC_up _) (len_rights _) <| jld1 2 rfl rfl rfl rfl <| jld1 3 rfl rfl rfl rfl <| jcallv rfl rfl rfl (rights_Use _ _ _ _) <| jext rfl rfl rfl <| jext rfl rfl rfl <| jstw 0 rfl rfl rfl rfl (len_rights _) (one_rights _) (len_rights _) <| ja rfl rfl <| j_nil <| p_thn <| c_ret <| ?_
  refine jp_perm (fr_s <| fr_s <| fr_s <| fr_0) <| jp_perm (fr_s <| fr_s <| fr_s <| fr_0) <| jp_perm (fr_s <| fr_s <| fr_s <| fr_0) <| ?_
  refine p_retK (ap_s <| ap_s <| ap_s <| ap_0) rfl rfl (.agg 3 inferInstance rfl rfl (len_rights _) <| .tmp rfl <| .nil) ?_
  exact ⟨rfl, rfl⟩
theorem counter_Inc2 (c : Counter) (n1 n2 : Int) {X0 X1 X2 : Nat} (M : Mem) : Ctr Tryz.prog 146 [.pointer (some ⟨X0, 0, none⟩), .pointer (some ⟨X1, 0, none⟩), .pointer (some ⟨X2, 0, none⟩)] M [.blk X0 44 (encCounter c), .blk X1 3 [vi n1], .blk X2 3 [vi n2]] (fun v _ L' => v = pR (rGive c.down n1 n2) ∧ L' = [.blk X0 44 (encCounter c), .blk X1 3 [vi n1], .blk X2 3 [vi n2]]) := by
  refine ctr Tryz.func146 rfl Tryz.ntmps146 rfl fun w => ?_
  refine c_seq <| c_region <| jalloc rfl fun B1 => ja rfl rfl <| j_nil <| p_thn <| c_seq <| c_region <| jfa rfl rfl rfl <| jld 1 rfl rfl rfl (pC_down _) (len_rights _) <| jld1 2 rfl rfl rfl rfl <| jld1 3 rfl rfl rfl rfl <| jcallv rfl rfl rfl (rights_Give _ _ _ _) <| jext rfl rfl rfl <| jext rfl rfl rfl <| jstw 0 rfl rfl rfl rfl (len_rights _) (one_rights _) (len_rights _) <| ja rfl rfl <| j_nil <| p_thn <| c_ret <| ?_
  refine jp_perm (fr_s <| fr_s <| fr_s <| fr_0) <| jp_perm (fr_s <| fr_s <| fr_s <| fr_0) <| jp_perm (fr_s <| fr_s <| fr_s <| fr_0) <| ?_
  refine p_retK (ap_s <| ap_s <| ap_s <| ap_0) rfl rfl (.agg 3 inferInstance rfl rfl (len_rights _) <| .tmp rfl <| .nil) ?_
  exact ⟨rfl, rfl⟩
theorem counter_Inc3 (c : Counter) (a b : Rights) (n1 n2 : Int) {X0 X1 X2 : Nat} (M : Mem) : Ctr Tryz.prog 147 [.agg (encRights a).toArray, .agg (encRights b).toArray, .pointer (some ⟨X0, 0, none⟩)] M [.blk X0 44 (encCounter c), .blk X1 3 [vi n1], .blk X2 3 [vi n2]] (fun v _ L' => v = .tuple #[] ∧ L' = [.blk X0 44 (encCounter { c with up := a, down := b }), .blk X1 3 [vi n1], .blk X2 3 [vi n2]]) := by
  refine ctr Tryz.func147 rfl Tryz.ntmps147 rfl fun w => ?_
  refine c_seq <| c_region <| jbox rfl rfl rfl fun B1 => jbox rfl rfl rfl fun B2 => j_nil <| p_thn <| jc_perm (fr_s <| fr_s <| fr_0) <| c_drawL [0, 1] (by kernel_rfl) (ap_s <| ap_0) <| jd_first (i := 0) rfl rfl (by kernel_rfl) (by kernel_rfl) (by kernel_rfl) (by kernel_rfl) (by kernel_rfl) rfl (fun _ h => (h.drop (L := [_]))) (yldw 1 rfl rfl (len_rights _)) <| jd_first (i := 1) rfl rfl (by kernel_rfl) (by kernel_rfl) (by kernel_rfl) (by kernel_rfl) (by kernel_rfl) rfl (fun _ h => (h.drop (L := [_]))) (yldw 0 rfl rfl (len_rights _)) <| jd_z (i := 2) rfl rfl (by kernel_rfl) (by kernel_rfl) (by kernel_rfl) (by kernel_rfl) rfl (zfa rfl rfl) <| jd_one (i := 3) (by kernel_rfl) rfl <| jst 0 rfl rfl rfl rfl (len_rights _) (one_rights _) (by rw [len_counter]; decide) uC_up <| j_nil <| p_jd rfl (.inr (fun _ h => (h.drop (L := [_])))) <| jd_z (i := 4) rfl rfl (by kernel_rfl) (by kernel_rfl) (by kernel_rfl) (by kernel_rfl) rfl (zfa rfl rfl) <| jd_one (i := 5) (by kernel_rfl) rfl <| jst 0 rfl rfl rfl rfl (len_rights _) (one_rights _) (by rw [len_counter]; decide) uC_down <| j_nil <| p_jd rfl (.inl (by kernel_rfl)) <| jd_done (by kernel_rfl) <| ?_
  refine jp_perm (fr_s <| fr_s <| fr_s <| fr_s <| fr_0) <| jp_perm (fr_s <| fr_s <| fr_s <| fr_s <| fr_0) <| jp_perm (fr_s <| fr_s <| fr_0) <| ?_
  refine p_endK (ap_s <| ap_s <| ap_s <| ap_0) rfl rfl (.nil) ?_
  exact ⟨rfl, rfl⟩
theorem counter_Hand1 (c : Counter) (n1 n2 n3 n4 : Int) {X0 X1 X2 X3 X4 : Nat} (M : Mem) : Ctr Tryz.prog 152 [.pointer (some ⟨X0, 0, none⟩), .pointer (some ⟨X1, 0, none⟩), .pointer (some ⟨X2, 0, none⟩), .pointer (some ⟨X3, 0, none⟩)] M [.blk X0 44 (encCounter c), .blk X1 3 [vi n1], .blk X2 3 [vi n2], .blk X3 3 [vi n3], .blk X4 3 [vi n4]] (fun v _ L' => v = pR (rMove c.down n1 n2 n3) ∧ L' = [.blk X0 44 (encCounter c), .blk X1 3 [vi n1], .blk X2 3 [vi n2], .blk X3 3 [vi n3], .blk X4 3 [vi n4]]) := by
  refine ctr Tryz.func152 rfl Tryz.ntmps152 rfl fun w => ?_
  refine c_seq <| c_region <| jalloc rfl fun B1 => ja rfl rfl <| j_nil <| p_thn <| c_seq <| c_region <| jfa rfl rfl rfl <| jld 1 rfl rfl rfl (pC_down _) (len_rights _) <| jld1 2 rfl rfl rfl rfl <| jld1 3 rfl rfl rfl rfl <| jld1 4 rfl rfl rfl rfl <| jcallv rfl rfl rfl (rights_Move _ _ _ _ _) <| jext rfl rfl rfl <| jext rfl rfl rfl <| jstw 0 rfl rfl rfl rfl (len_rights _) (one_rights _) (len_rights _) <| ja rfl rfl <| j_nil <| p_thn <| c_ret <| ?_
  refine jp_perm (fr_s <| fr_s <| fr_s <| fr_s <| fr_s <| fr_0) <| jp_perm (fr_s <| fr_s <| fr_s <| fr_s <| fr_s <| fr_0) <| jp_perm (fr_s <| fr_s <| fr_s <| fr_s <| fr_s <| fr_0) <| jp_perm (fr_s <| fr_s <| fr_s <| fr_s <| fr_s <| fr_0) <| jp_perm (fr_s <| fr_s <| fr_s <| fr_s <| fr_s <| fr_0) <| ?_
  refine p_retK (ap_s <| ap_s <| ap_s <| ap_s <| ap_s <| ap_0) rfl rfl (.agg 5 inferInstance rfl rfl (len_rights _) <| .tmp rfl <| .nil) ?_
  exact ⟨rfl, rfl⟩
theorem counter_Hand2 (c : Counter) (n1 n2 n3 n4 : Int) {X0 X1 X2 X3 X4 : Nat} (M : Mem) : Ctr Tryz.prog 154 [.pointer (some ⟨X0, 0, none⟩), .pointer (some ⟨X1, 0, none⟩), .pointer (some ⟨X2, 0, none⟩), .pointer (some ⟨X4, 0, none⟩)] M [.blk X0 44 (encCounter c), .blk X1 3 [vi n1], .blk X2 3 [vi n2], .blk X3 3 [vi n3], .blk X4 3 [vi n4]] (fun v _ L' => v = pR (rMove c.up n1 n2 n4) ∧ L' = [.blk X0 44 (encCounter c), .blk X1 3 [vi n1], .blk X2 3 [vi n2], .blk X3 3 [vi n3], .blk X4 3 [vi n4]]) := by
  refine ctr Tryz.func154 rfl Tryz.ntmps154 rfl fun w => ?_
  refine c_seq <| c_region <| jalloc rfl fun B1 => ja rfl rfl <| j_nil <| p_thn <| c_seq <| c_region <| jfa rfl rfl rfl <| jld 1 rfl rfl rfl (pC_up _) (len_rights _) <| jld1 2 rfl rfl rfl rfl <| jld1 3 rfl rfl rfl rfl <| jld1 5 rfl rfl rfl rfl <| jcallv rfl rfl rfl (rights_Move _ _ _ _ _) <| jext rfl rfl rfl <| jext rfl rfl rfl <| jstw 0 rfl rfl rfl rfl (len_rights _) (one_rights _) (len_rights _) <| ja rfl rfl <| j_nil <| p_thn <| c_ret <| ?_
  refine jp_perm (fr_s <| fr_s <| fr_s <| fr_s <| fr_s <| fr_0) <| jp_perm (fr_s <| fr_s <| fr_s <| fr_s <| fr_s <| fr_0) <| jp_perm (fr_s <| fr_s <| fr_s <| fr_s <| fr_s <| fr_0) <| jp_perm (fr_s <| fr_s <| fr_s <| fr_s <| fr_s <| fr_0) <| jp_perm (fr_s <| fr_s <| fr_s <| fr_s <| fr_s <| fr_0) <| ?_
  refine p_retK (ap_s <| ap_s <| ap_s <| ap_s <| ap_s <| ap_0) rfl rfl (.agg 5 inferInstance rfl rfl (len_rights _) <| .tmp rfl <| .nil) ?_
  exact ⟨rfl, rfl⟩
theorem counter_Hand3 (c : Counter) (a b : Rights) (n1 n2 n3 n4 : Int) {X0 X1 X2 X3 X4 : Nat} (M : Mem) : Ctr Tryz.prog 155 [.agg (encRights a).toArray, .agg (encRights b).toArray, .pointer (some ⟨X0, 0, none⟩)] M [.blk X0 44 (encCounter c), .blk X1 3 [vi n1], .blk X2 3 [vi n2], .blk X3 3 [vi n3], .blk X4 3 [vi n4]] (fun v _ L' => v = .tuple #[] ∧ L' = [.blk X0 44 (encCounter { c with down := a, up := b }), .blk X1 3 [vi n1], .blk X2 3 [vi n2], .blk X3 3 [vi n3], .blk X4 3 [vi n4]]) := by
  refine ctr Tryz.func155 rfl Tryz.ntmps155 rfl fun w => ?_
  refine c_seq <| c_region <| jbox rfl rfl rfl fun B1 => jbox rfl rfl rfl fun B2 => j_nil <| p_thn <| jc_perm (fr_s <| fr_s <| fr_0) <| c_drawL [0, 1] (by kernel_rfl) (ap_s <| ap_0) <| jd_first (i := 0) rfl rfl (by kernel_rfl) (by kernel_rfl) (by kernel_rfl) (by kernel_rfl) (by kernel_rfl) rfl (fun _ h => (h.drop (L := [_]))) (yldw 1 rfl rfl (len_rights _)) <| jd_first (i := 1) rfl rfl (by kernel_rfl) (by kernel_rfl) (by kernel_rfl) (by kernel_rfl) (by kernel_rfl) rfl (fun _ h => (h.drop (L := [_]))) (yldw 0 rfl rfl (len_rights _)) <| jd_z (i := 2) rfl rfl (by kernel_rfl) (by kernel_rfl) (by kernel_rfl) (by kernel_rfl) rfl (zfa rfl rfl) <| jd_one (i := 3) (by kernel_rfl) rfl <| jst 0 rfl rfl rfl rfl (len_rights _) (one_rights _) (by rw [len_counter]; decide) uC_down <| j_nil <| p_jd rfl (.inr (fun _ h => (h.drop (L := [_])))) <| jd_z (i := 4) rfl rfl (by kernel_rfl) (by kernel_rfl) (by kernel_rfl) (by kernel_rfl) rfl (zfa rfl rfl) <| jd_one (i := 5) (by kernel_rfl) rfl <| jst 0 rfl rfl rfl rfl (len_rights _) (one_rights _) (by rw [len_counter]; decide) uC_up <| j_nil <| p_jd rfl (.inl (by kernel_rfl)) <| jd_done (by kernel_rfl) <| ?_
  refine jp_perm (fr_s <| fr_s <| fr_s <| fr_s <| fr_s <| fr_s <| fr_0) <| jp_perm (fr_s <| fr_s <| fr_s <| fr_s <| fr_s <| fr_s <| fr_0) <| jp_perm (fr_s <| fr_s <| fr_s <| fr_s <| fr_s <| fr_s <| fr_0) <| jp_perm (fr_s <| fr_s <| fr_s <| fr_s <| fr_s <| fr_s <| fr_0) <| jp_perm (fr_s <| fr_s <| fr_s <| fr_s <| fr_0) <| ?_
  refine p_endK (ap_s <| ap_s <| ap_s <| ap_s <| ap_s <| ap_0) rfl rfl (.nil) ?_
  exact ⟨rfl, rfl⟩
theorem counter_Dec (c : Counter) (k n : Int) (M : Mem) : Ctr Tryz.prog 74 [.agg (encCounter c).toArray, vi k, vi n] M [] (fun v _ _ => v = pC (cDec c k n)) := by
  refine ctr Tryz.func74 rfl Tryz.ntmps74 rfl fun w => ?_
  refine c_seq <| c_region <| jbox rfl rfl rfl fun B1 => jbox rfl rfl rfl fun B2 => jbox rfl rfl rfl fun B3 => jalloc rfl fun B4 => ja rfl rfl <| j_nil <| p_thn <| c_seq <| c_region <| jldw 3 rfl rfl rfl (len_counter _) <| jfunc rfl rfl rfl <| jfunc rfl rfl rfl <| jfunc rfl rfl rfl <| j_perm (fr_s <| fr_0) <| j_perm (fr_s <| fr_s <| fr_0) <| j_perm (fr_s <| fr_s <| fr_s <| fr_0) <| jcallb rfl rfl rfl (ap_s <| ap_s <| ap_s <| ap_0) (counter_both _ _ _ _ _ _ (counter_Dec1 _ k n _) (counter_Dec2 _ k n _) (counter_Dec3 _ _ _ k n _)) (ap_s <| ap_s <| ap_s <| ap_0) <| ja rfl rfl <| j_nil <| p_thn <| c_seq <| c_region <| jldw 0 rfl rfl rfl (len_counter _) <| jm rfl rfl <| jcallv rfl rfl rfl (counter_done _ _ _) <| jext rfl rfl rfl <| jext rfl rfl rfl <| jstw 3 rfl rfl rfl rfl (len_counter _) (one_counter _) (len_counter _) <| ja rfl rfl <| j_nil <| p_thn <| c_ret <| ?_
  refine p_ret0 rfl rfl (.agg 3 inferInstance rfl rfl (len_counter _) <| .tmp rfl <| .nil) ?_
  rfl
theorem counter_Inc (c : Counter) (k n : Int) (M : Mem) : Ctr Tryz.prog 102 [.agg (encCounter c).toArray, vi k, vi n] M [] (fun v _ _ => v = pC (cInc c k n)) := by
  refine ctr Tryz.func102 rfl Tryz.ntmps102 rfl fun w => ?_
  refine c_seq <| c_region <| jbox rfl rfl rfl fun B1 => jbox rfl rfl rfl fun B2 => jbox rfl rfl rfl fun B3 => jalloc rfl fun B4 => ja rfl rfl <| j_nil <| p_thn <| c_seq <| c_region <| jldw 3 rfl rfl rfl (len_counter _) <| jfunc rfl rfl rfl <| jfunc rfl rfl rfl <| jfunc rfl rfl rfl <| j_perm (fr_s <| fr_0) <| j_perm (fr_s <| fr_s <| fr_0) <| j_perm (fr_s <| fr_s <| fr_s <| fr_0) <| jcallb rfl rfl rfl (ap_s <| ap_s <| ap_s <| ap_0) (counter_both _ _ _ _ _ _ (counter_Inc1 _ k n _) (counter_Inc2 _ k n _) (counter_Inc3 _ _ _ k n _)) (ap_s <| ap_s <| ap_s <| ap_0) <| ja rfl rfl <| j_nil <| p_thn <| c_seq <| c_region <| jldw 0 rfl rfl rfl (len_counter _) <| jm rfl rfl <| jcallv rfl rfl rfl (counter_done _ _ _) <| jext rfl rfl rfl <| jext rfl rfl rfl <| jstw 3 rfl rfl rfl rfl (len_counter _) (one_counter _) (len_counter _) <| ja rfl rfl <| j_nil <| p_thn <| c_ret <| ?_
  refine p_ret0 rfl rfl (.agg 3 inferInstance rfl rfl (len_counter _) <| .tmp rfl <| .nil) ?_
  rfl
theorem counter_Hand (c : Counter) (i k m n : Int) (M : Mem) : Ctr Tryz.prog 108 [.agg (encCounter c).toArray, vi i, vi k, vi m, vi n] M [] (fun v _ _ => v = pC (cHand c i k m n)) := by
  refine ctr Tryz.func108 rfl Tryz.ntmps108 rfl fun w => ?_
  refine c_seq <| c_region <| jbox rfl rfl rfl fun B1 => jbox rfl rfl rfl fun B2 => jbox rfl rfl rfl fun B3 => jbox rfl rfl rfl fun B4 => jbox rfl rfl rfl fun B5 => jalloc rfl fun B6 => ja rfl rfl <| j_nil <| p_thn <| c_seq <| c_region <| jldw 5 rfl rfl rfl (len_counter _) <| jfunc rfl rfl rfl <| jfunc rfl rfl rfl <| jfunc rfl rfl rfl <| j_perm (fr_s <| fr_0) <| j_perm (fr_s <| fr_s <| fr_0) <| j_perm (fr_s <| fr_s <| fr_s <| fr_0) <| j_perm (fr_s <| fr_s <| fr_s <| fr_s <| fr_0) <| j_perm (fr_s <| fr_s <| fr_s <| fr_s <| fr_s <| fr_0) <| jcallb rfl rfl rfl (ap_s <| ap_s <| ap_s <| ap_s <| ap_s <| ap_0) (counter_both _ _ _ _ _ _ (counter_Hand1 _ i k m n _) (counter_Hand2 _ i k m n _) (counter_Hand3 _ _ _ i k m n _)) (ap_s <| ap_s <| ap_s <| ap_s <| ap_s <| ap_0) <| ja rfl rfl <| j_nil <| p_thn <| c_seq <| c_region <| jldw 0 rfl rfl rfl (len_counter _) <| jm rfl rfl <| jcallv rfl rfl rfl (counter_done _ _ _) <| jext rfl rfl rfl <| jext rfl rfl rfl <| jstw 5 rfl rfl rfl rfl (len_counter _) (one_counter _) (len_counter _) <| ja rfl rfl <| j_nil <| p_thn <| c_ret <| ?_
  refine p_ret0 rfl rfl (.agg 5 inferInstance rfl rfl (len_counter _) <| .tmp rfl <| .nil) ?_
  rfl
attribute [irreducible] cDec cInc cHand valList
end Go.Proofs.YtihgpbpcbbgdiaaGreat
