/- Several texts in one. -/
import Derived.Test.YtihgpbpcbbgdiaaGreatOrd24
import Derived.Test.YtihgpbpcbbgdiaaGreatOrd26
import Derived.Test.YtihgpbpcbbgdiaaGreatOrd18
/- The functions of package barrier. -/
namespace Go.Proofs.YtihgpbpcbbgdiaaGreat
open Go.RowKit
set_option linter.unusedVariables false
set_option linter.unusedSimpArgs false
structure Bar where
  n : Int
  state : Int
  number : Int
  epoch : Int
  plan : Plan
  due : Int
  acked : Int
  told : Int
  joined : List Field
  made : List Field
def bZ : Bar := ⟨0, 0, 0, 0, pZ, 0, 0, 0, [], []⟩
def encBv (b : Bar) (u1 u2 : Value) : List Value := [vi b.n, vi b.state, vi b.number, vi b.epoch, vi b.plan.kind, .string b.plan.name, .string b.plan.other, vi b.plan.a, vi b.plan.b, vi b.due, vi b.acked, vi b.told, u1, u2]
abbrev encB (b : Bar) (A1 : Option Addr) (c1 : Nat) (A2 : Option Addr) (c2 : Nat) : List Value := encBv b (.slice A1 b.joined.length c1) (.slice A2 b.made.length c2)
theorem len_B (b : Bar) (u1 u2 : Value) : (encBv b u1 u2).length = 14 := rfl
theorem one_B (b : Bar) (A1 : Option Addr) (c1 : Nat) (A2 : Option Addr) (c2 : Nat) {n m : Nat} : (encBv b (.slice A1 n c1) (.slice A2 m c2)).all Value.oneCell' = true := rfl
instance : ZeI Tryz.prog 29 (encB bZ none 0 none 0) := ⟨by kernel_rfl⟩
section
variable (b : Bar) (u1 u2 : Value)
theorem uB_state (n : Int) : (encBv b u1 u2).take 1 ++ [vi n] ++ (encBv b u1 u2).drop (1 + 1) = encBv { b with state := n } u1 u2 := rfl
theorem uB_acked (n : Int) : (encBv b u1 u2).take 10 ++ [vi n] ++ (encBv b u1 u2).drop (10 + 1) = encBv { b with acked := n } u1 u2 := rfl
theorem uB_told (n : Int) : (encBv b u1 u2).take 11 ++ [vi n] ++ (encBv b u1 u2).drop (11 + 1) = encBv { b with told := n } u1 u2 := rfl
theorem uB_joined (v : Value) : (encBv b u1 u2).take 12 ++ [v] ++ (encBv b u1 u2).drop (12 + 1) = encBv b v u2 := rfl
theorem uB_made (v : Value) : (encBv b u1 u2).take 13 ++ [v] ++ (encBv b u1 u2).drop (13 + 1) = encBv b u1 v := rfl
theorem pB_plan : ((encBv b u1 u2).drop 4).take 5 = encPlan b.plan := rfl
end
def bAll (b : Bar) : Int := IntKind.i64.wrap (shlI 1 (min (max b.n 0) 16) - 1)
def bOther (b : Bar) (k : Int) : Bool := decide (1 ≤ k) && decide (k < b.n) && decide (k < 16)
def bPend (b : Bar) : Bool := decide (b.state = 1) || ((decide (b.state = 2) || decide (b.state = 3)) && decide (b.told ≠ bAll b))
def bNew (n : Int) : Bar × Int := if n < 2 ∨ 16 < n then (bZ, 1) else ({ bZ with n := n }, 0)
/-- what a barrier lies as, its fields known -/
def BarK (M : Mem) (b : Bar) (c : List Value) : Prop := ∃ A1 c1 A2 c2, c = encB b A1 c1 A2 c2 ∧ SlR rField M A1 c1 b.joined ∧ SlR rField M A2 c2 b.made
def BOk (b : Bar) : Prop := FsOk b.joined ∧ FsOk b.made ∧ b.plan.name.size ≤ 100000 ∧ b.plan.other.size ≤ 100000

theorem barrier_New (n : Int) (M : Mem) : Ctr Tryz.prog 10 [vi n] M [] (fun v _ _ => v = .tuple #[.agg (encB (bNew n).1 none 0 none 0).toArray, vi (bNew n).2]) := by
  refine ctr Tryz.func10 rfl Tryz.ntmps10 rfl fun w => ?_
  refine c_seq <| c_region <| jalloc rfl fun B1 => ja rfl rfl <| j_nil <| p_thn <| c_seq <| c_seq <| c_region <| jm rfl rfl <| jlss rfl rfl rfl <| jm rfl rfl <| jgs rfl rfl (fun hb2 => ?_) (fun hb2 => ?_)
  · have phb2 := hb2; try simp at phb2
    refine jg_off rfl rfl rfl hb2 <| jg_off rfl rfl rfl hb2 <| jpick_t rfl rfl hb2 rfl <| j_nil <| p_thn <| c_cond_kt rfl rfl <| c_seq <| c_region <| jbu0 rfl <| jstw 0 rfl rfl rfl rfl (len_B _ _ _) (one_B _ _ _ _ _) (len_B _ _ _) <| ja rfl rfl <| j_nil <| p_thn <| c_ret <| p_thn_ret <| ?_
    refine p_ret0 rfl rfl (.agg 0 inferInstance rfl rfl (len_B _ _ _) <| .tmp rfl <| .nil) ?_
    show Value.tuple #[_, _] = _
    unfold bNew
    rw [if_pos (by omega)]
  · have phb2 := hb2; try simp at phb2
    refine jg rfl rfl hb2 <| jm rfl rfl <| jg rfl rfl hb2 <| jgtr rfl rfl rfl <| jpick_f rfl rfl hb2 rfl <| j_nil <| p_thn <| c_cond rfl (fun hb3 => ?_) (fun hb3 => ?_)
    · have phb3 := hb3; try simp at phb3
      refine c_seq <| c_region <| jbu0 rfl <| jstw 0 rfl rfl rfl rfl (len_B _ _ _) (one_B _ _ _ _ _) (len_B _ _ _) <| ja rfl rfl <| j_nil <| p_thn <| c_ret <| p_thn_ret <| ?_
      refine p_ret0 rfl rfl (.agg 0 inferInstance rfl rfl (len_B _ _ _) <| .tmp rfl <| .nil) ?_
      show Value.tuple #[_, _] = _
      unfold bNew
      rw [if_pos (by omega)]
    · have phb3 := hb3; try simp at phb3
      refine c_skip <| p_thn <| c_seq <| c_region <| jm rfl rfl <| jbu (zc := encB bZ none 0 none 0) (c := encB { bZ with n := n } none 0 none 0) rfl rfl rfl <| jstw 0 rfl rfl rfl rfl (len_B _ _ _) (one_B _ _ _ _ _) (len_B _ _ _) <| ja rfl rfl <| j_nil <| p_thn <| c_ret <| ?_
      refine p_ret0 rfl rfl (.agg 0 inferInstance rfl rfl (len_B _ _ _) <| .tmp rfl <| .nil) ?_
      show Value.tuple #[_, _] = _
      unfold bNew
      rw [if_neg (by omega)]
theorem barrier_all (b : Bar) (A1 : Option Addr) (c1 : Nat) (A2 : Option Addr) (c2 : Nat) (M : Mem) : Ctr Tryz.prog 46 [.agg (encB b A1 c1 A2 c2).toArray] M [] (fun v _ _ => v = vi (bAll b)) := by
  refine ctr Tryz.func46 rfl Tryz.ntmps46 rfl fun w => ?_
  refine c_seq <| c_region <| jbox rfl rfl rfl fun B1 => ja rfl rfl <| j_nil <| p_thn <| c_seq <| c_region <| jfa rfl rfl rfl <| jld1 0 rfl rfl rfl rfl <| jmax rfl rfl rfl <| jmin rfl rfl rfl <| jshl rfl rfl rfl (by omega) <| jsub rfl rfl rfl rfl <| ja rfl rfl <| j_nil <| p_thn <| c_ret <| ?_
  refine p_ret0 rfl rfl (.tmp rfl <| .nil) ?_
  rfl
theorem barrier_other (b : Bar) (A1 : Option Addr) (c1 : Nat) (A2 : Option Addr) (c2 : Nat) (k : Int) (M : Mem) : Ctr Tryz.prog 42 [.agg (encB b A1 c1 A2 c2).toArray, vi k] M [] (fun v _ _ => v = .bool (bOther b k)) := by
  refine ctr Tryz.func42 rfl Tryz.ntmps42 rfl fun w => ?_
  refine c_seq <| c_region <| jbox rfl rfl rfl fun B1 => ja rfl rfl <| j_nil <| p_thn <| c_seq <| c_region <| jm rfl rfl <| jgeq rfl rfl rfl <| jm rfl rfl <| jgs rfl rfl (fun hb2 => ?_) (fun hb2 => ?_)
  · have phb2 := hb2; try simp at phb2
    refine jg rfl rfl hb2 <| jm rfl rfl <| jg rfl rfl hb2 <| jfa rfl rfl rfl <| jg rfl rfl hb2 <| jld1 0 rfl rfl rfl rfl <| jg rfl rfl hb2 <| jlss rfl rfl rfl <| jpick_t rfl rfl hb2 rfl <| jm rfl rfl <| jgs rfl rfl (fun hb3 => ?_) (fun hb3 => ?_)
    · have phb3 := hb3; try simp at phb3
      refine jg rfl rfl hb3 <| jm rfl rfl <| jg rfl rfl hb3 <| jlss rfl rfl rfl <| jpick_t rfl rfl hb3 rfl <| ja rfl rfl <| j_nil <| p_thn <| c_ret <| ?_
      refine p_ret0 rfl rfl (.tmp rfl <| .nil) ?_
      show Value.bool _ = _
      congr 1; symm
      simp [bOther, *]
    · have phb3 := hb3; try simp at phb3
      refine jg_off rfl rfl rfl hb3 <| jg_off rfl rfl rfl hb3 <| jpick_f rfl rfl hb3 rfl <| ja rfl rfl <| j_nil <| p_thn <| c_ret <| ?_
      refine p_ret0 rfl rfl (.tmp rfl <| .nil) ?_
      show Value.bool _ = _
      congr 1; symm
      simp [bOther, *]
  · have phb2 := hb2; try simp at phb2
    refine jg_off rfl rfl rfl hb2 <| jg_off rfl rfl rfl hb2 <| jg_off rfl rfl rfl hb2 <| jg_off rfl rfl rfl hb2 <| jpick_f rfl rfl hb2 rfl <| jm rfl rfl <| jg_off rfl rfl rfl rfl <| jg_off rfl rfl rfl rfl <| jpick_f rfl rfl rfl rfl <| ja rfl rfl <| j_nil <| p_thn <| c_ret <| ?_
    refine p_ret0 rfl rfl (.tmp rfl <| .nil) ?_
    show Value.bool _ = _
    congr 1; symm
    simp [bOther, *]
theorem barrier_Pending (b : Bar) (A1 : Option Addr) (c1 : Nat) (A2 : Option Addr) (c2 : Nat) (M : Mem) : Ctr Tryz.prog 30 [.agg (encB b A1 c1 A2 c2).toArray] M [] (fun v _ _ => v = .bool (bPend b)) := by
  refine ctr Tryz.func30 rfl Tryz.ntmps30 rfl fun w => ?_
  refine c_seq <| c_region <| jbox rfl rfl rfl fun B1 => ja rfl rfl <| j_nil <| p_thn <| c_seq <| c_draw [1, 2, 4, 5, 6, 7, 8, 9, 10, 11, 12, 13, 14, 15, 17, 18, 19] (by kernel_rfl) <| jd_z (i := 0) rfl rfl (by kernel_rfl) (by kernel_rfl) (by kernel_rfl) (by kernel_rfl) rfl (zfa rfl rfl) <| jd_first (i := 1) rfl rfl (by kernel_rfl) (by kernel_rfl) (by kernel_rfl) (by kernel_rfl) (by kernel_rfl) rfl (fun _ h => h) (yld1 0 rfl rfl rfl) <| jd_first (i := 2) rfl rfl (by kernel_rfl) (by kernel_rfl) (by kernel_rfl) (by kernel_rfl) (by kernel_rfl) rfl (fun _ h => h) (yeql rfl rfl) <| jd_z (i := 3) rfl rfl (by kernel_rfl) (by kernel_rfl) (by kernel_rfl) (by kernel_rfl) rfl (zm rfl) <| jd_split (j := 0) (t := 6) rfl (fun hb2 => ?_) (fun hb2 => ?_)
  · have phb2 := hb2; try simp at phb2
    refine jd_off (i := 4) rfl rfl (by kernel_rfl) (by kernel_rfl) (by kernel_rfl) (by kernel_rfl) rfl rfl rfl hb2 <| jd_off (i := 5) rfl rfl (by kernel_rfl) (by kernel_rfl) (by kernel_rfl) (by kernel_rfl) rfl rfl rfl hb2 <| jd_off (i := 6) rfl rfl (by kernel_rfl) (by kernel_rfl) (by kernel_rfl) (by kernel_rfl) rfl rfl rfl hb2 <| jd_off (i := 7) rfl rfl (by kernel_rfl) (by kernel_rfl) (by kernel_rfl) (by kernel_rfl) rfl rfl rfl hb2 <| jd_u (i := 8) rfl rfl (by kernel_rfl) (by kernel_rfl) (by kernel_rfl) (by kernel_rfl) rfl rfl rfl <| jd_u (i := 9) rfl rfl (by kernel_rfl) (by kernel_rfl) (by kernel_rfl) (by kernel_rfl) rfl rfl rfl <| jd_u (i := 10) rfl rfl (by kernel_rfl) (by kernel_rfl) (by kernel_rfl) (by kernel_rfl) rfl rfl rfl <| jd_off (i := 11) rfl rfl (by kernel_rfl) (by kernel_rfl) (by kernel_rfl) (by kernel_rfl) rfl rfl rfl hb2 <| jd_off (i := 12) rfl rfl (by kernel_rfl) (by kernel_rfl) (by kernel_rfl) (by kernel_rfl) rfl rfl rfl hb2 <| jd_u (i := 13) rfl rfl (by kernel_rfl) (by kernel_rfl) (by kernel_rfl) (by kernel_rfl) rfl rfl rfl <| jd_u (i := 14) rfl rfl (by kernel_rfl) (by kernel_rfl) (by kernel_rfl) (by kernel_rfl) rfl rfl rfl <| jd_u (i := 15) rfl rfl (by kernel_rfl) (by kernel_rfl) (by kernel_rfl) (by kernel_rfl) rfl rfl rfl <| jd_u (i := 16) rfl rfl (by kernel_rfl) (by kernel_rfl) (by kernel_rfl) (by kernel_rfl) rfl rfl rfl <| jd_u (i := 17) rfl rfl (by kernel_rfl) (by kernel_rfl) (by kernel_rfl) (by kernel_rfl) rfl rfl rfl <| jd_off (i := 18) rfl rfl (by kernel_rfl) (by kernel_rfl) (by kernel_rfl) (by kernel_rfl) rfl rfl rfl hb2 <| jd_first (i := 19) rfl rfl (by kernel_rfl) (by kernel_rfl) (by kernel_rfl) (by kernel_rfl) (by kernel_rfl) rfl (fun _ h => h) (ypick_t rfl hb2 rfl) <| jd_z (i := 20) rfl rfl (by kernel_rfl) (by kernel_rfl) (by kernel_rfl) (by kernel_rfl) rfl (za rfl) <| jd_done (by kernel_rfl) <| p_thn <| c_ret <| ?_
    refine p_ret0 rfl rfl (.tmp rfl <| .nil) ?_
    show Value.bool _ = _
    congr 1; symm
    simp [bPend, *]
  · have phb2 := hb2; try simp at phb2
    refine jd_first_g (i := 4) rfl rfl (by kernel_rfl) (by kernel_rfl) (by kernel_rfl) (by kernel_rfl) (by kernel_rfl) rfl rfl rfl hb2 (fun _ h => h) (yfa rfl rfl) <| jd_first_g (i := 5) rfl rfl (by kernel_rfl) (by kernel_rfl) (by kernel_rfl) (by kernel_rfl) (by kernel_rfl) rfl rfl rfl hb2 (fun _ h => h) (yld1 0 rfl rfl rfl) <| jd_first_g (i := 6) rfl rfl (by kernel_rfl) (by kernel_rfl) (by kernel_rfl) (by kernel_rfl) (by kernel_rfl) rfl rfl rfl hb2 (fun _ h => h) (yeql rfl rfl) <| jd_first_g (i := 7) rfl rfl (by kernel_rfl) (by kernel_rfl) (by kernel_rfl) (by kernel_rfl) (by kernel_rfl) rfl rfl rfl hb2 (fun _ h => h) (ym rfl) <| jd_split (j := 0) (t := 10) rfl (fun hb3 => ?_) (fun hb3 => ?_)
    · have phb3 := hb3; try simp at phb3
      refine jd_off (i := 8) rfl rfl (by kernel_rfl) (by kernel_rfl) (by kernel_rfl) (by kernel_rfl) rfl rfl rfl hb3 <| jd_off (i := 9) rfl rfl (by kernel_rfl) (by kernel_rfl) (by kernel_rfl) (by kernel_rfl) rfl rfl rfl hb3 <| jd_off (i := 10) rfl rfl (by kernel_rfl) (by kernel_rfl) (by kernel_rfl) (by kernel_rfl) rfl rfl rfl hb3 <| jd_first_g (i := 11) rfl rfl (by kernel_rfl) (by kernel_rfl) (by kernel_rfl) (by kernel_rfl) (by kernel_rfl) rfl rfl rfl hb2 (fun _ h => h) (ypick_t rfl hb3 rfl) <| jd_first_g (i := 12) rfl rfl (by kernel_rfl) (by kernel_rfl) (by kernel_rfl) (by kernel_rfl) (by kernel_rfl) rfl rfl rfl hb2 (fun _ h => h) (ym rfl) <| jd_first_g (i := 13) rfl rfl (by kernel_rfl) (by kernel_rfl) (by kernel_rfl) (by kernel_rfl) (by kernel_rfl) rfl rfl rfl rfl (fun _ h => h) (yfa rfl rfl) <| jd_first_g (i := 14) rfl rfl (by kernel_rfl) (by kernel_rfl) (by kernel_rfl) (by kernel_rfl) (by kernel_rfl) rfl rfl rfl rfl (fun _ h => h) (yld1 0 rfl rfl rfl) <| jd_first_g (i := 15) rfl rfl (by kernel_rfl) (by kernel_rfl) (by kernel_rfl) (by kernel_rfl) (by kernel_rfl) rfl rfl rfl rfl (fun _ h => h) (yldw 0 rfl rfl (len_B _ _ _)) <| jd_one (i := 16) (by kernel_rfl) rfl <| jg rfl rfl rfl <| jcallv rfl rfl rfl (barrier_all _ _ _ _ _ _) <| j_nil <| p_jd rfl (.inr (fun _ h => h)) <| jd_first_g (i := 17) rfl rfl (by kernel_rfl) (by kernel_rfl) (by kernel_rfl) (by kernel_rfl) (by kernel_rfl) rfl rfl rfl rfl (fun _ h => h) (yneq rfl rfl) <| jd_first_g (i := 18) rfl rfl (by kernel_rfl) (by kernel_rfl) (by kernel_rfl) (by kernel_rfl) (by kernel_rfl) rfl rfl rfl hb2 (fun _ h => h) (ypick_t rfl rfl rfl) <| jd_first (i := 19) rfl rfl (by kernel_rfl) (by kernel_rfl) (by kernel_rfl) (by kernel_rfl) (by kernel_rfl) rfl (fun _ h => h) (ypick_f rfl hb2 rfl) <| jd_z (i := 20) rfl rfl (by kernel_rfl) (by kernel_rfl) (by kernel_rfl) (by kernel_rfl) rfl (za rfl) <| jd_done (by kernel_rfl) <| p_thn <| c_ret <| ?_
      refine p_ret0 rfl rfl (.tmp rfl <| .nil) ?_
      show Value.bool _ = _
      congr 1; symm
      simp [bPend, *]
    · have phb3 := hb3; try simp at phb3
      refine jd_first_g (i := 8) rfl rfl (by kernel_rfl) (by kernel_rfl) (by kernel_rfl) (by kernel_rfl) (by kernel_rfl) rfl rfl rfl hb3 (fun _ h => h) (yfa rfl rfl) <| jd_first_g (i := 9) rfl rfl (by kernel_rfl) (by kernel_rfl) (by kernel_rfl) (by kernel_rfl) (by kernel_rfl) rfl rfl rfl hb3 (fun _ h => h) (yld1 0 rfl rfl rfl) <| jd_first_g (i := 10) rfl rfl (by kernel_rfl) (by kernel_rfl) (by kernel_rfl) (by kernel_rfl) (by kernel_rfl) rfl rfl rfl hb3 (fun _ h => h) (yeql rfl rfl) <| jd_first_g (i := 11) rfl rfl (by kernel_rfl) (by kernel_rfl) (by kernel_rfl) (by kernel_rfl) (by kernel_rfl) rfl rfl rfl hb2 (fun _ h => h) (ypick_f rfl hb3 rfl) <| jd_first_g (i := 12) rfl rfl (by kernel_rfl) (by kernel_rfl) (by kernel_rfl) (by kernel_rfl) (by kernel_rfl) rfl rfl rfl hb2 (fun _ h => h) (ym rfl) <| jd_split (j := 0) (t := 15) rfl (fun hb4 => ?_) (fun hb4 => ?_)
      · have phb4 := hb4; try simp at phb4
        refine jd_first_g (i := 13) rfl rfl (by kernel_rfl) (by kernel_rfl) (by kernel_rfl) (by kernel_rfl) (by kernel_rfl) rfl rfl rfl hb4 (fun _ h => h) (yfa rfl rfl) <| jd_first_g (i := 14) rfl rfl (by kernel_rfl) (by kernel_rfl) (by kernel_rfl) (by kernel_rfl) (by kernel_rfl) rfl rfl rfl hb4 (fun _ h => h) (yld1 0 rfl rfl rfl) <| jd_first_g (i := 15) rfl rfl (by kernel_rfl) (by kernel_rfl) (by kernel_rfl) (by kernel_rfl) (by kernel_rfl) rfl rfl rfl hb4 (fun _ h => h) (yldw 0 rfl rfl (len_B _ _ _)) <| jd_one (i := 16) (by kernel_rfl) rfl <| jg rfl rfl hb4 <| jcallv rfl rfl rfl (barrier_all _ _ _ _ _ _) <| j_nil <| p_jd rfl (.inr (fun _ h => h)) <| jd_first_g (i := 17) rfl rfl (by kernel_rfl) (by kernel_rfl) (by kernel_rfl) (by kernel_rfl) (by kernel_rfl) rfl rfl rfl hb4 (fun _ h => h) (yneq rfl rfl) <| jd_first_g (i := 18) rfl rfl (by kernel_rfl) (by kernel_rfl) (by kernel_rfl) (by kernel_rfl) (by kernel_rfl) rfl rfl rfl hb2 (fun _ h => h) (ypick_t rfl hb4 rfl) <| jd_first (i := 19) rfl rfl (by kernel_rfl) (by kernel_rfl) (by kernel_rfl) (by kernel_rfl) (by kernel_rfl) rfl (fun _ h => h) (ypick_f rfl hb2 rfl) <| jd_z (i := 20) rfl rfl (by kernel_rfl) (by kernel_rfl) (by kernel_rfl) (by kernel_rfl) rfl (za rfl) <| jd_done (by kernel_rfl) <| p_thn <| c_ret <| ?_
        refine p_ret0 rfl rfl (.tmp rfl <| .nil) ?_
        show Value.bool _ = _
        congr 1; symm
        simp [bPend, *]
      · have phb4 := hb4; try simp at phb4
        refine jd_off (i := 13) rfl rfl (by kernel_rfl) (by kernel_rfl) (by kernel_rfl) (by kernel_rfl) rfl rfl rfl hb4 <| jd_off (i := 14) rfl rfl (by kernel_rfl) (by kernel_rfl) (by kernel_rfl) (by kernel_rfl) rfl rfl rfl hb4 <| jd_off (i := 15) rfl rfl (by kernel_rfl) (by kernel_rfl) (by kernel_rfl) (by kernel_rfl) rfl rfl rfl hb4 <| jd_off (i := 16) rfl rfl (by kernel_rfl) (by kernel_rfl) (by kernel_rfl) (by kernel_rfl) rfl rfl rfl hb4 <| jd_off (i := 17) rfl rfl (by kernel_rfl) (by kernel_rfl) (by kernel_rfl) (by kernel_rfl) rfl rfl rfl hb4 <| jd_first_g (i := 18) rfl rfl (by kernel_rfl) (by kernel_rfl) (by kernel_rfl) (by kernel_rfl) (by kernel_rfl) rfl rfl rfl hb2 (fun _ h => h) (ypick_f rfl hb4 rfl) <| jd_first (i := 19) rfl rfl (by kernel_rfl) (by kernel_rfl) (by kernel_rfl) (by kernel_rfl) (by kernel_rfl) rfl (fun _ h => h) (ypick_f rfl hb2 rfl) <| jd_z (i := 20) rfl rfl (by kernel_rfl) (by kernel_rfl) (by kernel_rfl) (by kernel_rfl) rfl (za rfl) <| jd_done (by kernel_rfl) <| p_thn <| c_ret <| ?_
        refine p_ret0 rfl rfl (.tmp rfl <| .nil) ?_
        show Value.bool _ = _
        congr 1; symm
        simp [bPend, *]
section
variable {cx : Cx} {Q : Post} {E : Env} {M : Mem} {L : List Ent} {ops : Array Oper} {d T : Nat} {pos : String} {af : Array Edge} {rest : List Oper} {x y z : Operand} {v u : Value}
/-- a barrier in memory of its own -/
def CopP (b : Bar) (v : Value) (M' : Mem) (L' : List Ent) : Prop := ∃ A1 c1 A2 c2 ts1 ts2, v = .agg (encB b A1 c1 A2 c2).toArray ∧ ts1.map FS.f = b.joined ∧ ts2.map FS.f = b.made ∧ FSk M' ts1 ∧ FSk M' ts2 ∧
  L' = [.row (.slice A1 b.joined.length c1) 49 587 b.joined.length (ts1.flatMap encS), .row (.slice A2 b.made.length c2) 49 587 b.made.length (ts2.flatMap encS)]
theorem jcopied {f : FuncId} {args tys : Array _} {fi ca vs : List Value} {b : Bar} [FnI cx.P f] (hn : Nat.blt d cx.n = true)
    (hx : ev E x = some (.func (.func f) fi.toArray ca.toArray)) (ha : evL E args.toList = some vs) (hc : Ctr cx.P f (fi ++ vs ++ ca) M [] (CopP b))
    (hk : ∀ A1 c1 A2 c2 M' ts1 ts2, MLe M M' → ts1.map FS.f = b.joined → ts2.map FS.f = b.made → FSk M' ts1 → FSk M' ts2 → J cx ops Q rest ((d, .agg (encB b A1 c1 A2 c2).toArray) :: E) M'
      (.row (.slice A1 b.joined.length c1) 49 587 b.joined.length (ts1.flatMap encS) :: .row (.slice A2 b.made.length c2) 49 587 b.made.length (ts2.flatMap encS) :: L)) : J cx ops Q (⟨some d, .call ⟨.value x, args, tys⟩, T, pos, af, none⟩ :: rest) E M L :=
  jcall (Lb := []) (Lr := L) hn hx ha rfl hc (fun v M' L' hm h => by
    obtain ⟨A1, c1, A2, c2, ts1, ts2, rfl, h1, h2, h3, h4, rfl⟩ := h
    exact hk A1 c1 A2 c2 M' ts1 ts2 hm h1 h2 h3 h4)
/-- a call that hands a barrier, known then -/
theorem jcallB {f : FuncId} {args tys : Array _} {fi ca vs : List Value} {b : Bar} {r : List Value → Value} [FnI cx.P f] (hn : Nat.blt d cx.n = true)
    (hx : ev E x = some (.func (.func f) fi.toArray ca.toArray)) (ha : evL E args.toList = some vs) (hc : Ctr cx.P f (fi ++ vs ++ ca) M [] (fun v M' _ => ∃ c, BarK M' b c ∧ v = r c))
    (hk : ∀ A1 c1 A2 c2 M', MLe M M' → SlR rField M' A1 c1 b.joined → SlR rField M' A2 c2 b.made → J cx ops Q rest ((d, r (encB b A1 c1 A2 c2)) :: E) M' L) : J cx ops Q (⟨some d, .call ⟨.value x, args, tys⟩, T, pos, af, none⟩ :: rest) E M L :=
  jcall (Lb := []) (Lr := L) hn hx ha rfl hc (fun v M' L' hm h => by
    obtain ⟨c, ⟨A1, c1, A2, c2, rfl, h1, h2⟩, rfl⟩ := h
    intro a w hs ho
    exact hk A1 c1 A2 c2 M' hm h1 h2 a w hs ho.drop)
end
def bTick (b : Bar) (now : Int) : Bar := if b.state = 1 ∧ b.due < now then { b with state := 3 } else b
def bAbort (b : Bar) : Bar × Int := if b.state ≠ 1 then (bZ, 12) else ({ b with state := 3 }, 0)
def bHeard (b : Bar) (k number : Int) : Bar := if ((b.state = 2 ∨ b.state = 3) ∧ number = b.number) ∧ bOther b k = true then { b with told := orI b.told (shlI 1 k) } else b
theorem bOther_k {b : Bar} {k : Int} (h : bOther b k = true) : 1 ≤ k ∧ k < 16 := by simp [bOther] at h; omega
theorem rows_at {M : Mem} {ts : List FS} {l : List Field} (h : ts.map FS.f = l) (hk : FSk M ts) : Rows rField M l (ts.flatMap encS) := h ▸ hk.rows

theorem barrier_copied (b : Bar) (A1 : Option Addr) (c1 : Nat) (A2 : Option Addr) (c2 : Nat) (hb : BOk b) (M : Mem) (hJ : SlR rField M A1 c1 b.joined) (hM : SlR rField M A2 c2 b.made) : Ctr Tryz.prog 43 [.agg (encB b A1 c1 A2 c2).toArray] M [] (CopP b) := by
  refine ctr Tryz.func43 rfl Tryz.ntmps43 rfl fun w => ?_
  refine c_seq <| c_region <| jbox rfl rfl rfl fun B1 => jalloc rfl fun B2 => j_nil <| p_thn <| c_seq <| c_draw [1, 4] (by kernel_rfl) <| jd_z (i := 0) rfl rfl (by kernel_rfl) (by kernel_rfl) (by kernel_rfl) (by kernel_rfl) rfl (zfa rfl rfl) <| jd_first (i := 1) rfl rfl (by kernel_rfl) (by kernel_rfl) (by kernel_rfl) (by kernel_rfl) (by kernel_rfl) rfl (fun _ h => h) (yld1 1 rfl rfl rfl) <| jd_z (i := 3) rfl rfl (by kernel_rfl) (by kernel_rfl) (by kernel_rfl) (by kernel_rfl) rfl (zfa rfl rfl) <| jd_first (i := 4) rfl rfl (by kernel_rfl) (by kernel_rfl) (by kernel_rfl) (by kernel_rfl) (by kernel_rfl) rfl (fun _ h => h) (yld1 1 rfl rfl rfl) <| jd_one (i := 2) (by kernel_rfl) rfl <| jrowA rfl rfl rfl (barrier_own _ _ _ hb.1 _ hJ) fun A5 cap5 M5 ts5 hM5 ht5 hk5 => j_nil <| p_jd rfl (.inr (fun _ h => (Own.less0 (h.drop (L := [_])) hM5 (fun _ _ h => h)))) <| jd_z (i := 6) rfl rfl (by kernel_rfl) (by kernel_rfl) (by kernel_rfl) (by kernel_rfl) rfl (zfa rfl rfl) <| jd_one (i := 5) (by kernel_rfl) rfl <| jrowA rfl rfl rfl (barrier_own _ _ _ hb.2.1 _ (hM.mono hM5)) fun A8 cap8 M8 ts8 hM8 ht8 hk8 => j_nil <| p_jd rfl (.inl (by kernel_rfl)) <| jd_one (i := 7) (by kernel_rfl) rfl <| jst 3 rfl rfl rfl rfl rfl rfl (Nat.le_of_ble_eq_true rfl) (uB_joined _ _ _ _) <| j_nil <| p_jd rfl (.inl (by kernel_rfl)) <| jd_z (i := 8) rfl rfl (by kernel_rfl) (by kernel_rfl) (by kernel_rfl) (by kernel_rfl) rfl (zfa rfl rfl) <| jd_one (i := 9) (by kernel_rfl) rfl <| jst 3 rfl rfl rfl rfl rfl rfl (Nat.le_of_ble_eq_true rfl) (uB_made _ _ _ _) <| j_nil <| p_jd rfl (.inl (by kernel_rfl)) <| jd_done (by kernel_rfl) <| p_thn <| c_seq <| c_region <| jldw 3 rfl rfl rfl (len_B _ _ _) <| jstw 2 rfl rfl rfl rfl (len_B _ _ _) (one_B _ _ _ _ _) (len_B _ _ _) <| j_nil <| p_thn <| c_ret <| ?_
  refine jp_perm (fr_s <| fr_0) <| ?_
  refine p_retK (ap_s <| ap_s <| ap_0) rfl rfl (.agg 2 inferInstance rfl rfl (len_B _ _ _) <| .nil) ?_
  exact ⟨_, _, _, _, ts5, ts8, rfl, ht5, ht8, hk5.mono hM8, hk8, rfl⟩
theorem barrier_Tick (b : Bar) (A1 : Option Addr) (c1 : Nat) (A2 : Option Addr) (c2 : Nat) (now : Int) (hb : BOk b) (M : Mem) (hJ : SlR rField M A1 c1 b.joined) (hM : SlR rField M A2 c2 b.made) : Ctr Tryz.prog 19 [.agg (encB b A1 c1 A2 c2).toArray, vi now] M [] (fun v M' _ => ∃ c, BarK M' (bTick b now) c ∧ v = .agg c.toArray) := by
  refine ctr Tryz.func19 rfl Tryz.ntmps19 rfl fun w => ?_
  refine c_seq <| c_region <| jbox rfl rfl rfl fun B1 => jalloc rfl fun B2 => j_nil <| p_thn <| c_seq <| c_region <| jldw 1 rfl rfl rfl (len_B _ _ _) <| jcopied rfl rfl rfl (barrier_copied _ _ _ _ _ hb _ hJ hM) fun A1o c1o A2o c2o M0 ts1 ts2 hM0 ht1 ht2 hk1 hk2 => jstw 3 rfl rfl rfl rfl (len_B _ _ _) (one_B _ _ _ _ _) (len_B _ _ _) <| j_nil <| p_thn <| c_seq <| c_seq <| c_region <| jfa rfl rfl rfl <| jld1 3 rfl rfl rfl rfl <| jeql rfl rfl rfl <| jm rfl rfl <| jgs rfl rfl (fun hb3 => ?_) (fun hb3 => ?_)
  · have phb3 := hb3; try simp at phb3
    refine jg rfl rfl hb3 <| jm rfl rfl <| jg rfl rfl hb3 <| jfa rfl rfl rfl <| jg rfl rfl hb3 <| jld1 3 rfl rfl rfl rfl <| jg rfl rfl hb3 <| jgtr rfl rfl rfl <| jpick_t rfl rfl hb3 rfl <| j_nil <| p_thn <| c_cond rfl (fun hb4 => ?_) (fun hb4 => ?_)
    · have phb4 := hb4; try simp at phb4
      refine c_region <| jfa rfl rfl rfl <| jst 3 rfl rfl rfl rfl rfl rfl (Nat.le_of_ble_eq_true rfl) (uB_state _ _ _ _) <| j_nil <| p_thn <| c_seq <| c_region <| jldw 3 rfl rfl rfl (len_B _ _ _) <| jstw 2 rfl rfl rfl rfl (len_B _ _ _) (one_B _ _ _ _ _) (len_B _ _ _) <| j_nil <| p_thn <| c_ret <| ?_
      refine jp_freeze fun M1z hM1z hz1 => ?_
      have hS1z := frzS (r := rField) (xs := b.joined) hz1 (rows_at ht1 (hk1.mono hM1z)) rfl
      refine jp_freeze fun M2z hM2z hz2 => ?_
      have hS2z := frzS (r := rField) (xs := b.made) hz2 (rows_at ht2 ((hk2.mono hM1z).mono hM2z)) rfl
      refine p_ret0 rfl rfl (.agg 0 inferInstance rfl rfl (len_B _ _ _) <| .nil) ?_
      unfold bTick
      rw [if_pos (by omega)]
      exact ⟨_, ⟨_, _, _, _, rfl, hS1z.mono hM2z, hS2z⟩, rfl⟩
    · have phb4 := hb4; try simp at phb4
      refine c_skip <| p_thn <| c_seq <| c_region <| jldw 3 rfl rfl rfl (len_B _ _ _) <| jstw 2 rfl rfl rfl rfl (len_B _ _ _) (one_B _ _ _ _ _) (len_B _ _ _) <| j_nil <| p_thn <| c_ret <| ?_
      refine jp_freeze fun M3z hM3z hz3 => ?_
      have hS3z := frzS (r := rField) (xs := b.joined) hz3 (rows_at ht1 (hk1.mono hM3z)) rfl
      refine jp_freeze fun M4z hM4z hz4 => ?_
      have hS4z := frzS (r := rField) (xs := b.made) hz4 (rows_at ht2 ((hk2.mono hM3z).mono hM4z)) rfl
      refine p_ret0 rfl rfl (.agg 0 inferInstance rfl rfl (len_B _ _ _) <| .nil) ?_
      unfold bTick
      rw [if_neg (by omega)]
      exact ⟨_, ⟨_, _, _, _, rfl, hS3z.mono hM4z, hS4z⟩, rfl⟩
  · have phb3 := hb3; try simp at phb3
    refine jg_off rfl rfl rfl hb3 <| jg_off rfl rfl rfl hb3 <| jg_off rfl rfl rfl hb3 <| jg_off rfl rfl rfl hb3 <| jpick_f rfl rfl hb3 rfl <| j_nil <| p_thn <| c_cond_kf rfl rfl <| c_skip <| p_thn <| c_seq <| c_region <| jldw 3 rfl rfl rfl (len_B _ _ _) <| jstw 2 rfl rfl rfl rfl (len_B _ _ _) (one_B _ _ _ _ _) (len_B _ _ _) <| j_nil <| p_thn <| c_ret <| ?_
    refine jp_freeze fun M5z hM5z hz5 => ?_
    have hS5z := frzS (r := rField) (xs := b.joined) hz5 (rows_at ht1 (hk1.mono hM5z)) rfl
    refine jp_freeze fun M6z hM6z hz6 => ?_
    have hS6z := frzS (r := rField) (xs := b.made) hz6 (rows_at ht2 ((hk2.mono hM5z).mono hM6z)) rfl
    refine p_ret0 rfl rfl (.agg 0 inferInstance rfl rfl (len_B _ _ _) <| .nil) ?_
    unfold bTick
    rw [if_neg (by omega)]
    exact ⟨_, ⟨_, _, _, _, rfl, hS5z.mono hM6z, hS6z⟩, rfl⟩
theorem barrier_Abort (b : Bar) (A1 : Option Addr) (c1 : Nat) (A2 : Option Addr) (c2 : Nat) (hb : BOk b) (M : Mem) (hJ : SlR rField M A1 c1 b.joined) (hM : SlR rField M A2 c2 b.made) : Ctr Tryz.prog 20 [.agg (encB b A1 c1 A2 c2).toArray] M [] (fun v M' _ => ∃ c, BarK M' (bAbort b).1 c ∧ v = .tuple #[.agg c.toArray, vi (bAbort b).2]) := by
  refine ctr Tryz.func20 rfl Tryz.ntmps20 rfl fun w => ?_
  refine c_seq <| c_region <| jbox rfl rfl rfl fun B1 => jalloc rfl fun B2 => ja rfl rfl <| j_nil <| p_thn <| c_seq <| c_seq <| c_region <| jfa rfl rfl rfl <| jld1 1 rfl rfl rfl rfl <| jneq rfl rfl rfl <| j_nil <| p_thn <| c_cond rfl (fun hb3 => ?_) (fun hb3 => ?_)
  · have phb3 := hb3; try simp at phb3
    refine c_seq <| c_region <| jbu0 rfl <| jstw 0 rfl rfl rfl rfl (len_B _ _ _) (one_B _ _ _ _ _) (len_B _ _ _) <| ja rfl rfl <| j_nil <| p_thn <| c_ret <| p_thn_ret <| ?_
    refine p_ret0 rfl rfl (.agg 0 inferInstance rfl rfl (len_B _ _ _) <| .tmp rfl <| .nil) ?_
    unfold bAbort
    rw [if_pos (by omega)]
    exact ⟨_, ⟨none, 0, none, 0, rfl, SlR.nil, SlR.nil⟩, rfl⟩
  · have phb3 := hb3; try simp at phb3
    refine c_skip <| p_thn <| c_seq <| c_region <| jldw 1 rfl rfl rfl (len_B _ _ _) <| jcopied rfl rfl rfl (barrier_copied _ _ _ _ _ hb _ hJ hM) fun A1o c1o A2o c2o M0 ts1 ts2 hM0 ht1 ht2 hk1 hk2 => jstw 3 rfl rfl rfl rfl (len_B _ _ _) (one_B _ _ _ _ _) (len_B _ _ _) <| j_nil <| p_thn <| c_seq <| c_region <| jfa rfl rfl rfl <| jst 3 rfl rfl rfl rfl rfl rfl (Nat.le_of_ble_eq_true rfl) (uB_state _ _ _ _) <| j_nil <| p_thn <| c_seq <| c_region <| jldw 3 rfl rfl rfl (len_B _ _ _) <| jstw 2 rfl rfl rfl rfl (len_B _ _ _) (one_B _ _ _ _ _) (len_B _ _ _) <| ja rfl rfl <| j_nil <| p_thn <| c_ret <| ?_
    refine jp_freeze fun M1z hM1z hz1 => ?_
    have hS1z := frzS (r := rField) (xs := b.joined) hz1 (rows_at ht1 (hk1.mono hM1z)) rfl
    refine jp_freeze fun M2z hM2z hz2 => ?_
    have hS2z := frzS (r := rField) (xs := b.made) hz2 (rows_at ht2 ((hk2.mono hM1z).mono hM2z)) rfl
    refine p_ret0 rfl rfl (.agg 0 inferInstance rfl rfl (len_B _ _ _) <| .tmp rfl <| .nil) ?_
    unfold bAbort
    rw [if_neg (by omega)]
    exact ⟨_, ⟨_, _, _, _, rfl, hS1z.mono hM2z, hS2z⟩, rfl⟩
theorem barrier_Heard (b : Bar) (A1 : Option Addr) (c1 : Nat) (A2 : Option Addr) (c2 : Nat) (k number : Int) (hb : BOk b) (M : Mem) (hJ : SlR rField M A1 c1 b.joined) (hM : SlR rField M A2 c2 b.made) : Ctr Tryz.prog 31 [.agg (encB b A1 c1 A2 c2).toArray, vi k, vi number] M [] (fun v M' _ => ∃ c, BarK M' (bHeard b k number) c ∧ v = .agg c.toArray) := by
  refine ctr Tryz.func31 rfl Tryz.ntmps31 rfl fun w => ?_
  refine c_seq <| c_region <| jbox rfl rfl rfl fun B1 => jalloc rfl fun B2 => j_nil <| p_thn <| c_seq <| c_region <| jldw 1 rfl rfl rfl (len_B _ _ _) <| jcopied rfl rfl rfl (barrier_copied _ _ _ _ _ hb _ hJ hM) fun A1o c1o A2o c2o M0 ts1 ts2 hM0 ht1 ht2 hk1 hk2 => jstw 3 rfl rfl rfl rfl (len_B _ _ _) (one_B _ _ _ _ _) (len_B _ _ _) <| j_nil <| p_thn <| c_seq <| c_seq <| c_region <| jfa rfl rfl rfl <| jld1 3 rfl rfl rfl rfl <| jeql rfl rfl rfl <| jm rfl rfl <| jgs rfl rfl (fun hb3 => ?_) (fun hb3 => ?_)
  · have phb3 := hb3; try simp at phb3
    refine jg_off rfl rfl rfl hb3 <| jg_off rfl rfl rfl hb3 <| jg_off rfl rfl rfl hb3 <| jpick_t rfl rfl hb3 rfl <| jm rfl rfl <| jg rfl rfl rfl <| jm rfl rfl <| jg rfl rfl rfl <| jfa rfl rfl rfl <| jg rfl rfl rfl <| jld1 3 rfl rfl rfl rfl <| jg rfl rfl rfl <| jeql rfl rfl rfl <| jpick_t rfl rfl rfl rfl <| jm rfl rfl <| jgs rfl rfl (fun hb4 => ?_) (fun hb4 => ?_)
    · have phb4 := hb4; try simp at phb4
      refine jg rfl rfl hb4 <| jldw 3 rfl rfl rfl (len_B _ _ _) <| jg rfl rfl hb4 <| jm rfl rfl <| jg rfl rfl hb4 <| jcallv rfl rfl rfl (barrier_other _ _ _ _ _ _ _) <| jpick_t rfl rfl hb4 rfl <| j_nil <| p_thn <| c_cond rfl (fun hb5 => ?_) (fun hb5 => ?_)
      · have phb5 := hb5; try simp at phb5
        have hko := bOther_k phb5
        refine c_draw [1, 3, 4] (by kernel_rfl) <| jd_z (i := 0) rfl rfl (by kernel_rfl) (by kernel_rfl) (by kernel_rfl) (by kernel_rfl) rfl (zfa rfl rfl) <| jd_first (i := 1) rfl rfl (by kernel_rfl) (by kernel_rfl) (by kernel_rfl) (by kernel_rfl) (by kernel_rfl) rfl (fun _ h => h) (yld1 3 rfl rfl rfl) <| jd_z (i := 2) rfl rfl (by kernel_rfl) (by kernel_rfl) (by kernel_rfl) (by kernel_rfl) rfl (zm rfl) <| jd_first (i := 3) rfl rfl (by kernel_rfl) (by kernel_rfl) (by kernel_rfl) (by kernel_rfl) (by kernel_rfl) rfl (fun _ h => h) (yshl rfl rfl (by omega)) <| jd_first (i := 4) rfl rfl (by kernel_rfl) (by kernel_rfl) (by kernel_rfl) (by kernel_rfl) (by kernel_rfl) rfl (fun _ h => h) (yor rfl rfl) <| jd_z (i := 5) rfl rfl (by kernel_rfl) (by kernel_rfl) (by kernel_rfl) (by kernel_rfl) rfl (zfa rfl rfl) <| jd_one (i := 6) (by kernel_rfl) rfl <| jst 3 rfl rfl rfl rfl rfl rfl (Nat.le_of_ble_eq_true rfl) (uB_told _ _ _ _) <| j_nil <| p_jd rfl (.inl (by kernel_rfl)) <| jd_done (by kernel_rfl) <| p_thn <| c_seq <| c_region <| jldw 3 rfl rfl rfl (len_B _ _ _) <| jstw 2 rfl rfl rfl rfl (len_B _ _ _) (one_B _ _ _ _ _) (len_B _ _ _) <| j_nil <| p_thn <| c_ret <| ?_
        refine jp_freeze fun M1z hM1z hz1 => ?_
        have hS1z := frzS (r := rField) (xs := b.joined) hz1 (rows_at ht1 (hk1.mono hM1z)) rfl
        refine jp_freeze fun M2z hM2z hz2 => ?_
        have hS2z := frzS (r := rField) (xs := b.made) hz2 (rows_at ht2 ((hk2.mono hM1z).mono hM2z)) rfl
        refine p_ret0 rfl rfl (.agg 0 inferInstance rfl rfl (len_B _ _ _) <| .nil) ?_
        unfold bHeard
        first | rw [if_pos ⟨⟨by omega, by omega⟩, by assumption⟩] | rw [if_neg (by simp [*] <;> omega)]
        exact ⟨_, ⟨_, _, _, _, rfl, hS1z.mono hM2z, hS2z⟩, rfl⟩
      · have phb5 := hb5; try simp at phb5
        refine c_skip <| p_thn <| c_seq <| c_region <| jldw 3 rfl rfl rfl (len_B _ _ _) <| jstw 2 rfl rfl rfl rfl (len_B _ _ _) (one_B _ _ _ _ _) (len_B _ _ _) <| j_nil <| p_thn <| c_ret <| ?_
        refine jp_freeze fun M3z hM3z hz3 => ?_
        have hS3z := frzS (r := rField) (xs := b.joined) hz3 (rows_at ht1 (hk1.mono hM3z)) rfl
        refine jp_freeze fun M4z hM4z hz4 => ?_
        have hS4z := frzS (r := rField) (xs := b.made) hz4 (rows_at ht2 ((hk2.mono hM3z).mono hM4z)) rfl
        refine p_ret0 rfl rfl (.agg 0 inferInstance rfl rfl (len_B _ _ _) <| .nil) ?_
        unfold bHeard
        first | rw [if_pos ⟨⟨by omega, by omega⟩, by assumption⟩] | rw [if_neg (by simp [*] <;> omega)]
        exact ⟨_, ⟨_, _, _, _, rfl, hS3z.mono hM4z, hS4z⟩, rfl⟩
    · have phb4 := hb4; try simp at phb4
      refine jg_off rfl rfl rfl hb4 <| jg_off rfl rfl rfl hb4 <| jg_off rfl rfl rfl hb4 <| jpick_f rfl rfl hb4 rfl <| j_nil <| p_thn <| c_cond_kf rfl rfl <| c_skip <| p_thn <| c_seq <| c_region <| jldw 3 rfl rfl rfl (len_B _ _ _) <| jstw 2 rfl rfl rfl rfl (len_B _ _ _) (one_B _ _ _ _ _) (len_B _ _ _) <| j_nil <| p_thn <| c_ret <| ?_
      refine jp_freeze fun M5z hM5z hz5 => ?_
      have hS5z := frzS (r := rField) (xs := b.joined) hz5 (rows_at ht1 (hk1.mono hM5z)) rfl
      refine jp_freeze fun M6z hM6z hz6 => ?_
      have hS6z := frzS (r := rField) (xs := b.made) hz6 (rows_at ht2 ((hk2.mono hM5z).mono hM6z)) rfl
      refine p_ret0 rfl rfl (.agg 0 inferInstance rfl rfl (len_B _ _ _) <| .nil) ?_
      unfold bHeard
      first | rw [if_pos ⟨⟨by omega, by omega⟩, by assumption⟩] | rw [if_neg (by simp [*] <;> omega)]
      exact ⟨_, ⟨_, _, _, _, rfl, hS5z.mono hM6z, hS6z⟩, rfl⟩
  · have phb3 := hb3; try simp at phb3
    refine jg rfl rfl hb3 <| jfa rfl rfl rfl <| jg rfl rfl hb3 <| jld1 3 rfl rfl rfl rfl <| jg rfl rfl hb3 <| jeql rfl rfl rfl <| jpick_f rfl rfl hb3 rfl <| jm rfl rfl <| jgs rfl rfl (fun hb6 => ?_) (fun hb6 => ?_)
    · have phb6 := hb6; try simp at phb6
      refine jg rfl rfl hb6 <| jm rfl rfl <| jg rfl rfl hb6 <| jfa rfl rfl rfl <| jg rfl rfl hb6 <| jld1 3 rfl rfl rfl rfl <| jg rfl rfl hb6 <| jeql rfl rfl rfl <| jpick_t rfl rfl hb6 rfl <| jm rfl rfl <| jgs rfl rfl (fun hb7 => ?_) (fun hb7 => ?_)
      · have phb7 := hb7; try simp at phb7
        refine jg rfl rfl hb7 <| jldw 3 rfl rfl rfl (len_B _ _ _) <| jg rfl rfl hb7 <| jm rfl rfl <| jg rfl rfl hb7 <| jcallv rfl rfl rfl (barrier_other _ _ _ _ _ _ _) <| jpick_t rfl rfl hb7 rfl <| j_nil <| p_thn <| c_cond rfl (fun hb8 => ?_) (fun hb8 => ?_)
        · have phb8 := hb8; try simp at phb8
          have hko := bOther_k phb8
          refine c_draw [1, 3, 4] (by kernel_rfl) <| jd_z (i := 0) rfl rfl (by kernel_rfl) (by kernel_rfl) (by kernel_rfl) (by kernel_rfl) rfl (zfa rfl rfl) <| jd_first (i := 1) rfl rfl (by kernel_rfl) (by kernel_rfl) (by kernel_rfl) (by kernel_rfl) (by kernel_rfl) rfl (fun _ h => h) (yld1 3 rfl rfl rfl) <| jd_z (i := 2) rfl rfl (by kernel_rfl) (by kernel_rfl) (by kernel_rfl) (by kernel_rfl) rfl (zm rfl) <| jd_first (i := 3) rfl rfl (by kernel_rfl) (by kernel_rfl) (by kernel_rfl) (by kernel_rfl) (by kernel_rfl) rfl (fun _ h => h) (yshl rfl rfl (by omega)) <| jd_first (i := 4) rfl rfl (by kernel_rfl) (by kernel_rfl) (by kernel_rfl) (by kernel_rfl) (by kernel_rfl) rfl (fun _ h => h) (yor rfl rfl) <| jd_z (i := 5) rfl rfl (by kernel_rfl) (by kernel_rfl) (by kernel_rfl) (by kernel_rfl) rfl (zfa rfl rfl) <| jd_one (i := 6) (by kernel_rfl) rfl <| jst 3 rfl rfl rfl rfl rfl rfl (Nat.le_of_ble_eq_true rfl) (uB_told _ _ _ _) <| j_nil <| p_jd rfl (.inl (by kernel_rfl)) <| jd_done (by kernel_rfl) <| p_thn <| c_seq <| c_region <| jldw 3 rfl rfl rfl (len_B _ _ _) <| jstw 2 rfl rfl rfl rfl (len_B _ _ _) (one_B _ _ _ _ _) (len_B _ _ _) <| j_nil <| p_thn <| c_ret <| ?_
          refine jp_freeze fun M7z hM7z hz7 => ?_
          have hS7z := frzS (r := rField) (xs := b.joined) hz7 (rows_at ht1 (hk1.mono hM7z)) rfl
          refine jp_freeze fun M8z hM8z hz8 => ?_
          have hS8z := frzS (r := rField) (xs := b.made) hz8 (rows_at ht2 ((hk2.mono hM7z).mono hM8z)) rfl
          refine p_ret0 rfl rfl (.agg 0 inferInstance rfl rfl (len_B _ _ _) <| .nil) ?_
          unfold bHeard
          first | rw [if_pos ⟨⟨by omega, by omega⟩, by assumption⟩] | rw [if_neg (by simp [*] <;> omega)]
          exact ⟨_, ⟨_, _, _, _, rfl, hS7z.mono hM8z, hS8z⟩, rfl⟩
        · have phb8 := hb8; try simp at phb8
          refine c_skip <| p_thn <| c_seq <| c_region <| jldw 3 rfl rfl rfl (len_B _ _ _) <| jstw 2 rfl rfl rfl rfl (len_B _ _ _) (one_B _ _ _ _ _) (len_B _ _ _) <| j_nil <| p_thn <| c_ret <| ?_
          refine jp_freeze fun M9z hM9z hz9 => ?_
          have hS9z := frzS (r := rField) (xs := b.joined) hz9 (rows_at ht1 (hk1.mono hM9z)) rfl
          refine jp_freeze fun M10z hM10z hz10 => ?_
          have hS10z := frzS (r := rField) (xs := b.made) hz10 (rows_at ht2 ((hk2.mono hM9z).mono hM10z)) rfl
          refine p_ret0 rfl rfl (.agg 0 inferInstance rfl rfl (len_B _ _ _) <| .nil) ?_
          unfold bHeard
          first | rw [if_pos ⟨⟨by omega, by omega⟩, by assumption⟩] | rw [if_neg (by simp [*] <;> omega)]
          exact ⟨_, ⟨_, _, _, _, rfl, hS9z.mono hM10z, hS10z⟩, rfl⟩
      · have phb7 := hb7; try simp at phb7
        refine jg_off rfl rfl rfl hb7 <| jg_off rfl rfl rfl hb7 <| jg_off rfl rfl rfl hb7 <| jpick_f rfl rfl hb7 rfl <| j_nil <| p_thn <| c_cond_kf rfl rfl <| c_skip <| p_thn <| c_seq <| c_region <| jldw 3 rfl rfl rfl (len_B _ _ _) <| jstw 2 rfl rfl rfl rfl (len_B _ _ _) (one_B _ _ _ _ _) (len_B _ _ _) <| j_nil <| p_thn <| c_ret <| ?_
        refine jp_freeze fun M11z hM11z hz11 => ?_
        have hS11z := frzS (r := rField) (xs := b.joined) hz11 (rows_at ht1 (hk1.mono hM11z)) rfl
        refine jp_freeze fun M12z hM12z hz12 => ?_
        have hS12z := frzS (r := rField) (xs := b.made) hz12 (rows_at ht2 ((hk2.mono hM11z).mono hM12z)) rfl
        refine p_ret0 rfl rfl (.agg 0 inferInstance rfl rfl (len_B _ _ _) <| .nil) ?_
        unfold bHeard
        first | rw [if_pos ⟨⟨by omega, by omega⟩, by assumption⟩] | rw [if_neg (by simp [*] <;> omega)]
        exact ⟨_, ⟨_, _, _, _, rfl, hS11z.mono hM12z, hS12z⟩, rfl⟩
    · have phb6 := hb6; try simp at phb6
      refine jg_off rfl rfl rfl hb6 <| jg_off rfl rfl rfl hb6 <| jg_off rfl rfl rfl hb6 <| jg_off rfl rfl rfl hb6 <| jpick_f rfl rfl hb6 rfl <| jm rfl rfl <| jg_off rfl rfl rfl rfl <| jg_off rfl rfl rfl rfl <| jg_off rfl rfl rfl rfl <| jpick_f rfl rfl rfl rfl <| j_nil <| p_thn <| c_cond_kf rfl rfl <| c_skip <| p_thn <| c_seq <| c_region <| jldw 3 rfl rfl rfl (len_B _ _ _) <| jstw 2 rfl rfl rfl rfl (len_B _ _ _) (one_B _ _ _ _ _) (len_B _ _ _) <| j_nil <| p_thn <| c_ret <| ?_
      refine jp_freeze fun M13z hM13z hz13 => ?_
      have hS13z := frzS (r := rField) (xs := b.joined) hz13 (rows_at ht1 (hk1.mono hM13z)) rfl
      refine jp_freeze fun M14z hM14z hz14 => ?_
      have hS14z := frzS (r := rField) (xs := b.made) hz14 (rows_at ht2 ((hk2.mono hM13z).mono hM14z)) rfl
      refine p_ret0 rfl rfl (.agg 0 inferInstance rfl rfl (len_B _ _ _) <| .nil) ?_
      unfold bHeard
      first | rw [if_pos ⟨⟨by omega, by omega⟩, by assumption⟩] | rw [if_neg (by simp [*] <;> omega)]
      exact ⟨_, ⟨_, _, _, _, rfl, hS13z.mono hM14z, hS14z⟩, rfl⟩
end Go.Proofs.YtihgpbpcbbgdiaaGreat
