/- Several texts in one. -/
import Derived.Test.YtihgpbpcbbgdiaaGreatOrd12
/- What the functions of package hold that read alone tell. -/
namespace Go.Proofs.YtihgpbpcbbgdiaaGreat
open Go.RowKit
set_option linter.unusedVariables false
set_option linter.unusedSimpArgs false
instance : ZeI Tryz.prog 188 [vi 0, vi 0, vi 0, vi 0] := ⟨by kernel_rfl⟩
def hRight (h : Hold) : Bool := isR h.replica && decide (1 ≤ h.number) && isN h.number && cnt h.amount && cnt h.due && decide (1 ≤ h.state) && decide (h.state ≤ 3)
def hCmp (a b : Hold) : Int := if a.replica ≠ b.replica then (if a.replica < b.replica then -1 else 1) else if a.number ≠ b.number then (if a.number < b.number then -1 else 1) else 0
def hOk (hs : List Hold) (i : Nat) : Bool := hRight (ix hZ hs i) && (decide (i = 0) || decide (hCmp (ix hZ hs (i - 1)) (ix hZ hs i) < 0))
def hRights (hs : List Hold) : Bool := (List.range hs.length).all (hOk hs) && decide (hs.length ≤ 16)
def hAdd (r : Int) (a : Int) (h : Hold) : Int := if h.replica = r ∧ h.state = 1 then min (IntKind.i64.wrap (a + h.amount)) 1099511627776 else a
def hSum (hs : List Hold) (r : Int) : Int := hs.foldl (hAdd r) 0
def hNext (r : Int) (a : Int) (h : Hold) : Int := if h.replica = r then max a (IntKind.i64.wrap (h.number + 1)) else a
def hNum (hs : List Hold) (r : Int) : Int := hs.foldl (hNext r) 1
def lFind {α : Type} (hs : List α) (p : α → Bool) : Int := match hs.findIdx? p with | some i => (i : Int) | none => -1
attribute [irreducible] hRight hCmp hNext hAdd

theorem hold_count (n : Int) (M : Mem) : Ctr Tryz.prog 159 [vi n] M [] (fun r _ _ => r = .bool (cnt n)) := by
  refine ctr Tryz.func159 rfl Tryz.ntmps159 rfl fun w => ?_
  refine c_seq <| c_region <| ja rfl rfl <| j_nil <| p_thn <| c_seq <| c_region <| jm rfl rfl <| jgeq rfl rfl rfl <| jm rfl rfl <| jgs rfl rfl (fun hb1 => ?_) (fun hb1 => ?_)
  · have phb1 := hb1; try simp at phb1
    refine jg rfl rfl hb1 <| jm rfl rfl <| jg rfl rfl hb1 <| jcallv rfl rfl rfl (num_Is _ _) <| jpick_t rfl rfl hb1 rfl <| ja rfl rfl <| j_nil <| p_thn <| c_ret <| ?_
    refine p_ret0 rfl rfl (.tmp rfl <| .nil) ?_
    show Value.bool _ = _
    congr 1; symm
    simp [cnt, *]
  · have phb1 := hb1; try simp at phb1
    refine jg_off rfl rfl rfl hb1 <| jg_off rfl rfl rfl hb1 <| jpick_f rfl rfl hb1 rfl <| ja rfl rfl <| j_nil <| p_thn <| c_ret <| ?_
    refine p_ret0 rfl rfl (.tmp rfl <| .nil) ?_
    show Value.bool _ = _
    congr 1; symm
    simp [cnt, *]
theorem hold_Right (h : Hold) (M : Mem) : Ctr Tryz.prog 116 [.agg (encHold h).toArray] M [] (fun r _ _ => r = .bool (hRight h)) := by
  refine ctr Tryz.func116 rfl Tryz.ntmps116 rfl fun w => ?_
  refine c_seq <| c_region <| jbox rfl rfl rfl fun B1 => ja rfl rfl <| j_nil <| p_thn <| c_seq <| c_region <| jfa rfl rfl rfl <| jld1 0 rfl rfl rfl rfl <| jgeq rfl rfl rfl <| jm rfl rfl <| jgs rfl rfl (fun hb2 => ?_) (fun hb2 => ?_)
  · have phb2 := hb2; try simp at phb2
    refine jg rfl rfl hb2 <| jfa rfl rfl rfl <| jg rfl rfl hb2 <| jld1 0 rfl rfl rfl rfl <| jg rfl rfl hb2 <| jlss rfl rfl rfl <| jpick_t rfl rfl hb2 rfl <| jm rfl rfl <| jgs rfl rfl (fun hb3 => ?_) (fun hb3 => ?_)
    · have phb3 := hb3; try simp at phb3
      refine jg rfl rfl hb3 <| jfa rfl rfl rfl <| jg rfl rfl hb3 <| jld1 0 rfl rfl rfl rfl <| jg rfl rfl hb3 <| jgeq rfl rfl rfl <| jpick_t rfl rfl hb3 rfl <| jm rfl rfl <| jgs rfl rfl (fun hb4 => ?_) (fun hb4 => ?_)
      · have phb4 := hb4; try simp at phb4
        refine jg rfl rfl hb4 <| jfa rfl rfl rfl <| jg rfl rfl hb4 <| jld1 0 rfl rfl rfl rfl <| jg rfl rfl hb4 <| jcallv rfl rfl rfl (num_Is _ _) <| jpick_t rfl rfl hb4 rfl <| jm rfl rfl <| jgs rfl rfl (fun hb5 => ?_) (fun hb5 => ?_)
        · have phb5 := hb5; try simp at phb5
          refine jg rfl rfl hb5 <| jfa rfl rfl rfl <| jg rfl rfl hb5 <| jld1 0 rfl rfl rfl rfl <| jg rfl rfl hb5 <| jcallv rfl rfl rfl (hold_count _ _) <| jpick_t rfl rfl hb5 rfl <| jm rfl rfl <| jgs rfl rfl (fun hb6 => ?_) (fun hb6 => ?_)
          · have phb6 := hb6; try simp at phb6
            refine jg rfl rfl hb6 <| jfa rfl rfl rfl <| jg rfl rfl hb6 <| jld1 0 rfl rfl rfl rfl <| jg rfl rfl hb6 <| jcallv rfl rfl rfl (hold_count _ _) <| jpick_t rfl rfl hb6 rfl <| jm rfl rfl <| jgs rfl rfl (fun hb7 => ?_) (fun hb7 => ?_)
            · have phb7 := hb7; try simp at phb7
              refine jg rfl rfl hb7 <| jfa rfl rfl rfl <| jg rfl rfl hb7 <| jld1 0 rfl rfl rfl rfl <| jg rfl rfl hb7 <| jgeq rfl rfl rfl <| jpick_t rfl rfl hb7 rfl <| jm rfl rfl <| jgs rfl rfl (fun hb8 => ?_) (fun hb8 => ?_)
              · have phb8 := hb8; try simp at phb8
                refine jg rfl rfl hb8 <| jfa rfl rfl rfl <| jg rfl rfl hb8 <| jld1 0 rfl rfl rfl rfl <| jg rfl rfl hb8 <| jleq rfl rfl rfl <| jpick_t rfl rfl hb8 rfl <| ja rfl rfl <| j_nil <| p_thn <| c_ret <| ?_
                refine p_ret0 rfl rfl (.tmp rfl <| .nil) ?_
                show Value.bool _ = _
                congr 1; symm
                simp [hRight, isR, *]
              · have phb8 := hb8; try simp at phb8
                refine jg_off rfl rfl rfl hb8 <| jg_off rfl rfl rfl hb8 <| jg_off rfl rfl rfl hb8 <| jpick_f rfl rfl hb8 rfl <| ja rfl rfl <| j_nil <| p_thn <| c_ret <| ?_
                refine p_ret0 rfl rfl (.tmp rfl <| .nil) ?_
                show Value.bool _ = _
                congr 1; symm
                simp [hRight, isR, *]
            · have phb7 := hb7; try simp at phb7
              refine jg_off rfl rfl rfl hb7 <| jg_off rfl rfl rfl hb7 <| jg_off rfl rfl rfl hb7 <| jpick_f rfl rfl hb7 rfl <| jm rfl rfl <| jg_off rfl rfl rfl rfl <| jg_off rfl rfl rfl rfl <| jg_off rfl rfl rfl rfl <| jpick_f rfl rfl rfl rfl <| ja rfl rfl <| j_nil <| p_thn <| c_ret <| ?_
              refine p_ret0 rfl rfl (.tmp rfl <| .nil) ?_
              show Value.bool _ = _
              congr 1; symm
              simp [hRight, isR, *]
          · have phb6 := hb6; try simp at phb6
            refine jg_off rfl rfl rfl hb6 <| jg_off rfl rfl rfl hb6 <| jg_off rfl rfl rfl hb6 <| jpick_f rfl rfl hb6 rfl <| jm rfl rfl <| jg_off rfl rfl rfl rfl <| jg_off rfl rfl rfl rfl <| jg_off rfl rfl rfl rfl <| jpick_f rfl rfl rfl rfl <| jm rfl rfl <| jg_off rfl rfl rfl rfl <| jg_off rfl rfl rfl rfl <| jg_off rfl rfl rfl rfl <| jpick_f rfl rfl rfl rfl <| ja rfl rfl <| j_nil <| p_thn <| c_ret <| ?_
            refine p_ret0 rfl rfl (.tmp rfl <| .nil) ?_
            show Value.bool _ = _
            congr 1; symm
            simp [hRight, isR, *]
        · have phb5 := hb5; try simp at phb5
          refine jg_off rfl rfl rfl hb5 <| jg_off rfl rfl rfl hb5 <| jg_off rfl rfl rfl hb5 <| jpick_f rfl rfl hb5 rfl <| jm rfl rfl <| jg_off rfl rfl rfl rfl <| jg_off rfl rfl rfl rfl <| jg_off rfl rfl rfl rfl <| jpick_f rfl rfl rfl rfl <| jm rfl rfl <| jg_off rfl rfl rfl rfl <| jg_off rfl rfl rfl rfl <| jg_off rfl rfl rfl rfl <| jpick_f rfl rfl rfl rfl <| jm rfl rfl <| jg_off rfl rfl rfl rfl <| jg_off rfl rfl rfl rfl <| jg_off rfl rfl rfl rfl <| jpick_f rfl rfl rfl rfl <| ja rfl rfl <| j_nil <| p_thn <| c_ret <| ?_
          refine p_ret0 rfl rfl (.tmp rfl <| .nil) ?_
          show Value.bool _ = _
          congr 1; symm
          simp [hRight, isR, *]
      · have phb4 := hb4; try simp at phb4
        refine jg_off rfl rfl rfl hb4 <| jg_off rfl rfl rfl hb4 <| jg_off rfl rfl rfl hb4 <| jpick_f rfl rfl hb4 rfl <| jm rfl rfl <| jg_off rfl rfl rfl rfl <| jg_off rfl rfl rfl rfl <| jg_off rfl rfl rfl rfl <| jpick_f rfl rfl rfl rfl <| jm rfl rfl <| jg_off rfl rfl rfl rfl <| jg_off rfl rfl rfl rfl <| jg_off rfl rfl rfl rfl <| jpick_f rfl rfl rfl rfl <| jm rfl rfl <| jg_off rfl rfl rfl rfl <| jg_off rfl rfl rfl rfl <| jg_off rfl rfl rfl rfl <| jpick_f rfl rfl rfl rfl <| jm rfl rfl <| jg_off rfl rfl rfl rfl <| jg_off rfl rfl rfl rfl <| jg_off rfl rfl rfl rfl <| jpick_f rfl rfl rfl rfl <| ja rfl rfl <| j_nil <| p_thn <| c_ret <| ?_
        refine p_ret0 rfl rfl (.tmp rfl <| .nil) ?_
        show Value.bool _ = _
        congr 1; symm
        simp [hRight, isR, *]
    · have phb3 := hb3; try simp at phb3
      refine jg_off rfl rfl rfl hb3 <| jg_off rfl rfl rfl hb3 <| jg_off rfl rfl rfl hb3 <| jpick_f rfl rfl hb3 rfl <| jm rfl rfl <| jg_off rfl rfl rfl rfl <| jg_off rfl rfl rfl rfl <| jg_off rfl rfl rfl rfl <| jpick_f rfl rfl rfl rfl <| jm rfl rfl <| jg_off rfl rfl rfl rfl <| jg_off rfl rfl rfl rfl <| jg_off rfl rfl rfl rfl <| jpick_f rfl rfl rfl rfl <| jm rfl rfl <| jg_off rfl rfl rfl rfl <| jg_off rfl rfl rfl rfl <| jg_off rfl rfl rfl rfl <| jpick_f rfl rfl rfl rfl <| jm rfl rfl <| jg_off rfl rfl rfl rfl <| jg_off rfl rfl rfl rfl <| jg_off rfl rfl rfl rfl <| jpick_f rfl rfl rfl rfl <| jm rfl rfl <| jg_off rfl rfl rfl rfl <| jg_off rfl rfl rfl rfl <| jg_off rfl rfl rfl rfl <| jpick_f rfl rfl rfl rfl <| ja rfl rfl <| j_nil <| p_thn <| c_ret <| ?_
      refine p_ret0 rfl rfl (.tmp rfl <| .nil) ?_
      show Value.bool _ = _
      congr 1; symm
      simp [hRight, isR, *]
  · have phb2 := hb2; try simp at phb2
    refine jg_off rfl rfl rfl hb2 <| jg_off rfl rfl rfl hb2 <| jg_off rfl rfl rfl hb2 <| jpick_f rfl rfl hb2 rfl <| jm rfl rfl <| jg_off rfl rfl rfl rfl <| jg_off rfl rfl rfl rfl <| jg_off rfl rfl rfl rfl <| jpick_f rfl rfl rfl rfl <| jm rfl rfl <| jg_off rfl rfl rfl rfl <| jg_off rfl rfl rfl rfl <| jg_off rfl rfl rfl rfl <| jpick_f rfl rfl rfl rfl <| jm rfl rfl <| jg_off rfl rfl rfl rfl <| jg_off rfl rfl rfl rfl <| jg_off rfl rfl rfl rfl <| jpick_f rfl rfl rfl rfl <| jm rfl rfl <| jg_off rfl rfl rfl rfl <| jg_off rfl rfl rfl rfl <| jg_off rfl rfl rfl rfl <| jpick_f rfl rfl rfl rfl <| jm rfl rfl <| jg_off rfl rfl rfl rfl <| jg_off rfl rfl rfl rfl <| jg_off rfl rfl rfl rfl <| jpick_f rfl rfl rfl rfl <| jm rfl rfl <| jg_off rfl rfl rfl rfl <| jg_off rfl rfl rfl rfl <| jg_off rfl rfl rfl rfl <| jpick_f rfl rfl rfl rfl <| ja rfl rfl <| j_nil <| p_thn <| c_ret <| ?_
    refine p_ret0 rfl rfl (.tmp rfl <| .nil) ?_
    show Value.bool _ = _
    congr 1; symm
    simp [hRight, isR, *]
theorem hold_compare (a b : Hold) (M : Mem) : Ctr Tryz.prog 118 [.agg (encHold a).toArray, .agg (encHold b).toArray] M [] (fun r _ _ => r = vi (hCmp a b)) := by
  refine ctr Tryz.func118 rfl Tryz.ntmps118 rfl fun w => ?_
  refine c_seq <| c_region <| jbox rfl rfl rfl fun B1 => jbox rfl rfl rfl fun B2 => ja rfl rfl <| j_nil <| p_thn <| c_seq <| c_seq <| c_region <| jfa rfl rfl rfl <| jld1 1 rfl rfl rfl rfl <| jfa rfl rfl rfl <| jld1 0 rfl rfl rfl rfl <| jbua (zc := [vi 0, vi 0]) (c := [vi a.replica, vi b.replica]) rfl rfl fillp <| jfa rfl rfl rfl <| jld1 1 rfl rfl rfl rfl <| jfa rfl rfl rfl <| jld1 0 rfl rfl rfl rfl <| jbua (zc := [vi 0, vi 0]) (c := [vi a.number, vi b.number]) rfl rfl fillp <| jbua (zc := [vi 0, vi 0, vi 0, vi 0]) (c := [vi a.replica, vi b.replica, vi a.number, vi b.number]) rfl rfl fill2 <| jm rfl rfl <| j_nil <| p_thn <| c_block <| c_unr 2 <| c_seq <| c_region <| jlss rfl rfl rfl <| j_nil <| p_thn <| c_seq <| c_cond_kt rfl rfl <| c_skip <| p_thn <| c_seq <| c_block <| c_seq <| c_region <| jidx (sz := 2) (r := [vi a.replica, vi b.replica]) rfl rfl rfl (by decide) (by decide) rfl <| jalloc (c := [vi 0, vi 0]) rfl fun B3 => jstw 0 rfl rfl rfl rfl rfl rfl rfl <| j_nil <| p_thn <| c_seq <| c_region <| jia rfl rfl rfl (by decide) (by decide) <| jld1 0 rfl rfl rfl (id rfl) <| jia rfl rfl rfl (by decide) (by decide) <| jld1 0 rfl rfl rfl (id rfl) <| jneq rfl rfl rfl <| j_nil <| p_thn <| c_cond rfl (fun hb4 => ?_) (fun hb4 => ?_)
  · have phb4 := hb4; try simp at phb4
    refine c_seq <| c_seq <| c_region <| jia rfl rfl rfl (by decide) (by decide) <| jld1 0 rfl rfl rfl (id rfl) <| jia rfl rfl rfl (by decide) (by decide) <| jld1 0 rfl rfl rfl (id rfl) <| jlss rfl rfl rfl <| j_nil <| p_thn <| c_cond rfl (fun hb5 => ?_) (fun hb5 => ?_)
    · have phb5 := hb5; try simp at phb5
      refine c_seq <| c_region <| ja rfl rfl <| j_nil <| p_thn <| c_ret <| p_thn_ret <| p_inb_ret <| p_thn_ret <| p_rq_ret <| p_inb_ret <| p_thn_ret <| ?_
      refine p_ret0 rfl rfl (.tmp rfl <| .nil) ?_
      show vi _ = vi _
      congr 1
      simp [hCmp, *]
    · have phb5 := hb5; try simp at phb5
      refine c_skip <| p_thn <| c_seq <| c_region <| ja rfl rfl <| j_nil <| p_thn <| c_ret <| p_inb_ret <| p_thn_ret <| p_rq_ret <| p_inb_ret <| p_thn_ret <| ?_
      refine p_ret0 rfl rfl (.tmp rfl <| .nil) ?_
      show vi _ = vi _
      congr 1
      simp [hCmp, *] <;> omega
  · have phb4 := hb4; try simp at phb4
    refine c_skip <| p_inb <| p_thn <| c_region <| jadd rfl rfl rfl (by first | exact wr (by omega) (by omega) | rfl) <| jm rfl rfl <| j_nil <| p_rq <| c_seq <| c_region <| jlss rfl rfl rfl <| j_nil <| p_thn <| c_seq <| c_cond_kt rfl rfl <| c_skip <| p_thn <| c_seq <| c_block <| c_seq <| c_region <| jidx (sz := 2) (r := [vi a.number, vi b.number]) rfl rfl rfl (by decide) (by decide) rfl <| jalloc (c := [vi 0, vi 0]) rfl fun B6 => jstw 0 rfl rfl rfl rfl rfl rfl rfl <| j_nil <| p_thn <| c_seq <| c_region <| jia rfl rfl rfl (by decide) (by decide) <| jld1 0 rfl rfl rfl (id rfl) <| jia rfl rfl rfl (by decide) (by decide) <| jld1 0 rfl rfl rfl (id rfl) <| jneq rfl rfl rfl <| j_nil <| p_thn <| c_cond rfl (fun hb7 => ?_) (fun hb7 => ?_)
    · have phb7 := hb7; try simp at phb7
      refine c_seq <| c_seq <| c_region <| jia rfl rfl rfl (by decide) (by decide) <| jld1 0 rfl rfl rfl (id rfl) <| jia rfl rfl rfl (by decide) (by decide) <| jld1 0 rfl rfl rfl (id rfl) <| jlss rfl rfl rfl <| j_nil <| p_thn <| c_cond rfl (fun hb8 => ?_) (fun hb8 => ?_)
      · have phb8 := hb8; try simp at phb8
        refine c_seq <| c_region <| ja rfl rfl <| j_nil <| p_thn <| c_ret <| p_thn_ret <| p_inb_ret <| p_thn_ret <| p_rq_ret <| p_inb_ret <| p_thn_ret <| ?_
        refine p_ret0 rfl rfl (.tmp rfl <| .nil) ?_
        show vi _ = vi _
        congr 1
        simp [hCmp, *]
      · have phb8 := hb8; try simp at phb8
        refine c_skip <| p_thn <| c_seq <| c_region <| ja rfl rfl <| j_nil <| p_thn <| c_ret <| p_inb_ret <| p_thn_ret <| p_rq_ret <| p_inb_ret <| p_thn_ret <| ?_
        refine p_ret0 rfl rfl (.tmp rfl <| .nil) ?_
        show vi _ = vi _
        congr 1
        simp [hCmp, *] <;> omega
    · have phb7 := hb7; try simp at phb7
      refine c_skip <| p_inb <| p_thn <| c_region <| jadd rfl rfl rfl (by first | exact wr (by omega) (by omega) | rfl) <| jm rfl rfl <| j_nil <| p_rq <| c_seq <| c_region <| jlss rfl rfl rfl <| j_nil <| p_thn <| c_seq <| c_cond_kf rfl rfl <| c_exit <| p_thn_exit <| p_rq_exit <| p_inb_exit <| p_thn <| c_seq <| c_region <| ja rfl rfl <| j_nil <| p_thn <| c_ret <| ?_
      refine p_ret0 rfl rfl (.tmp rfl <| .nil) ?_
      show vi _ = vi _
      congr 1
      simp [hCmp, *]
theorem hold_Rights (hs : List Hold) (A : Option Addr) (cap : Nat) (hl : hs.length ≤ 100000) (M : Mem) (hS : SlR rHold M A cap hs) : Ctr Tryz.prog 106 [.slice A hs.length cap] M [] (fun r _ _ => r = .bool (hRights hs)) := by
  refine ctr Tryz.func106 rfl Tryz.ntmps106 rfl fun w => ?_
  refine c_seq <| c_region <| ja rfl rfl <| j_nil <| p_thn <| c_seq <| c_seq <| c_region <| jm rfl rfl <| jlen rfl rfl <| jm rfl rfl <| j_nil <| p_thn <| c_block <| c_lp (X := Nat) (fun k => k ≤ hs.length ∧ (List.range k).all (hOk hs) = true) (fun k => hs.length - k) (fun k => [(7, vi (k : Int))]) [6, 5, 0] 0 ?_ (sub_c rfl <| sub_c rfl <| sub_c rfl <| sub_c rfl <| sub_n) ?_
  · exact ⟨Nat.zero_le _, rfl⟩
  · intro k hI
    obtain ⟨hk, hall⟩ := hI
    refine c_seq <| c_region <| jlss rfl rfl rfl <| j_nil <| p_thn <| c_seq <| c_cond rfl (fun hb1 => ?_) (fun hb1 => ?_)
    · have phb1 := hb1; try simp at phb1
      refine c_skip <| p_thn <| c_seq <| c_block <| c_seq <| c_region <| jm rfl rfl <| ji rfl rfl rfl (by omega) (by omega) (hS.adr (i := k) (by omega)) <| jlq rfl hS (ix_get (z := hZ) (i := k) (by omega)) (fun c h => h) rfl rfl <| jalloc rfl fun B2 => ja rfl rfl <| jstw 0 rfl rfl rfl rfl (len_hold _) (one_hold _) (len_hold _) <| j_nil <| p_thn <| c_seq <| c_draw [0, 2, 4, 5, 6, 7, 8, 9, 10, 11, 12, 14, 15, 16] (by kernel_rfl) <| jd_first (i := 0) rfl rfl (by kernel_rfl) (by kernel_rfl) (by kernel_rfl) (by kernel_rfl) (by kernel_rfl) rfl (fun _ h => h) (yldw 0 rfl rfl (len_hold _)) <| jd_one (i := 1) (by kernel_rfl) rfl <| jcallv rfl rfl rfl (hold_Right _ _) <| j_nil <| p_jd rfl (.inr (fun _ h => h)) <| jd_first (i := 2) rfl rfl (by kernel_rfl) (by kernel_rfl) (by kernel_rfl) (by kernel_rfl) (by kernel_rfl) rfl (fun _ h => h) (ynot rfl) <| jd_z (i := 3) rfl rfl (by kernel_rfl) (by kernel_rfl) (by kernel_rfl) (by kernel_rfl) rfl (zm rfl) <| jd_split (j := 0) (t := 15) rfl (fun hb3 => ?_) (fun hb3 => ?_)
      · have phb3 := hb3; try simp at phb3
        refine jd_off (i := 4) rfl rfl (by kernel_rfl) (by kernel_rfl) (by kernel_rfl) (by kernel_rfl) rfl rfl rfl hb3 <| jd_off (i := 5) rfl rfl (by kernel_rfl) (by kernel_rfl) (by kernel_rfl) (by kernel_rfl) rfl rfl rfl hb3 <| jd_off (i := 6) rfl rfl (by kernel_rfl) (by kernel_rfl) (by kernel_rfl) (by kernel_rfl) rfl rfl rfl hb3 <| jd_u (i := 7) rfl rfl (by kernel_rfl) (by kernel_rfl) (by kernel_rfl) (by kernel_rfl) rfl rfl rfl <| jd_u (i := 8) rfl rfl (by kernel_rfl) (by kernel_rfl) (by kernel_rfl) (by kernel_rfl) rfl rfl rfl <| jd_u (i := 9) rfl rfl (by kernel_rfl) (by kernel_rfl) (by kernel_rfl) (by kernel_rfl) rfl rfl rfl <| jd_u (i := 10) rfl rfl (by kernel_rfl) (by kernel_rfl) (by kernel_rfl) (by kernel_rfl) rfl rfl rfl <| jd_u (i := 11) rfl rfl (by kernel_rfl) (by kernel_rfl) (by kernel_rfl) (by kernel_rfl) rfl rfl rfl <| jd_u (i := 12) rfl rfl (by kernel_rfl) (by kernel_rfl) (by kernel_rfl) (by kernel_rfl) rfl rfl rfl <| jd_u (i := 13) rfl rfl (by kernel_rfl) (by kernel_rfl) (by kernel_rfl) (by kernel_rfl) rfl rfl rfl <| jd_u (i := 14) rfl rfl (by kernel_rfl) (by kernel_rfl) (by kernel_rfl) (by kernel_rfl) rfl rfl rfl <| jd_off (i := 15) rfl rfl (by kernel_rfl) (by kernel_rfl) (by kernel_rfl) (by kernel_rfl) rfl rfl rfl hb3 <| jd_first (i := 16) rfl rfl (by kernel_rfl) (by kernel_rfl) (by kernel_rfl) (by kernel_rfl) (by kernel_rfl) rfl (fun _ h => h) (ypick_t rfl hb3 rfl) <| jd_done (by kernel_rfl) <| p_thn <| c_cond_kt rfl rfl <| c_seq <| c_region <| ja rfl rfl <| j_nil <| p_thn <| c_ret <| p_inb_ret <| p_thn_ret <| p_lp_ret <| p_inb_ret <| p_thn_ret <| ?_
        refine p_ret0 rfl rfl (.tmp rfl <| .nil) ?_
        show Value.bool _ = _
        congr 1; symm
        unfold hRights
        rw [range_not (k := k) (by omega) (by simp [hOk, *]), Bool.false_and]
      · have phb3 := hb3; try simp at phb3
        refine jd_first_g (i := 4) rfl rfl (by kernel_rfl) (by kernel_rfl) (by kernel_rfl) (by kernel_rfl) (by kernel_rfl) rfl rfl rfl hb3 (fun _ h => h) (ym rfl) <| jd_first_g (i := 5) rfl rfl (by kernel_rfl) (by kernel_rfl) (by kernel_rfl) (by kernel_rfl) (by kernel_rfl) rfl rfl rfl hb3 (fun _ h => h) (ygtr rfl rfl) <| jd_first_g (i := 6) rfl rfl (by kernel_rfl) (by kernel_rfl) (by kernel_rfl) (by kernel_rfl) (by kernel_rfl) rfl rfl rfl hb3 (fun _ h => h) (ym rfl) <| jd_split (j := 0) (t := 18) rfl (fun hb4 => ?_) (fun hb4 => ?_)
        · have phb4 := hb4; try simp at phb4
          obtain ⟨j, hj⟩ : ∃ j, k = j + 1 := ⟨k - 1, by omega⟩
          have hj2 : k - 1 = j := by omega
          refine jd_first_g (i := 7) rfl rfl (by kernel_rfl) (by kernel_rfl) (by kernel_rfl) (by kernel_rfl) (by kernel_rfl) rfl rfl rfl hb4 (fun _ h => h) (ym rfl) <| jd_first_g (i := 8) rfl rfl (by kernel_rfl) (by kernel_rfl) (by kernel_rfl) (by kernel_rfl) (by kernel_rfl) rfl rfl rfl hb4 (fun _ h => h) (ym rfl) <| jd_first_g (i := 9) rfl rfl (by kernel_rfl) (by kernel_rfl) (by kernel_rfl) (by kernel_rfl) (by kernel_rfl) rfl rfl rfl hb4 (fun _ h => h) (ysub (r := ((j : Nat) : Int)) rfl rfl (by rw [wr (by omega) (by omega)]; omega)) <| jd_first_g (i := 10) rfl rfl (by kernel_rfl) (by kernel_rfl) (by kernel_rfl) (by kernel_rfl) (by kernel_rfl) rfl rfl rfl hb4 (fun _ h => h) (yi rfl rfl (by omega) (by omega) (hS.adr (i := j) (by omega))) <| jd_first_g (i := 11) rfl rfl (by kernel_rfl) (by kernel_rfl) (by kernel_rfl) (by kernel_rfl) (by kernel_rfl) rfl rfl rfl hb4 (fun _ h => h) (ylq hS (ix_get (z := hZ) (i := j) (by omega)) (fun c h => h) rfl rfl) <| jd_first_g (i := 12) rfl rfl (by kernel_rfl) (by kernel_rfl) (by kernel_rfl) (by kernel_rfl) (by kernel_rfl) rfl rfl rfl hb4 (fun _ h => h) (yldw 0 rfl rfl (len_hold _)) <| jd_one (i := 13) (by kernel_rfl) rfl <| jg rfl rfl hb4 <| jcallv rfl rfl rfl (hold_compare _ _ _) <| j_nil <| p_jd rfl (.inr (fun _ h => h)) <| jd_first_g (i := 14) rfl rfl (by kernel_rfl) (by kernel_rfl) (by kernel_rfl) (by kernel_rfl) (by kernel_rfl) rfl rfl rfl hb4 (fun _ h => h) (ygeq rfl rfl) <| jd_first_g (i := 15) rfl rfl (by kernel_rfl) (by kernel_rfl) (by kernel_rfl) (by kernel_rfl) (by kernel_rfl) rfl rfl rfl hb3 (fun _ h => h) (ypick_t rfl hb4 rfl) <| jd_first (i := 16) rfl rfl (by kernel_rfl) (by kernel_rfl) (by kernel_rfl) (by kernel_rfl) (by kernel_rfl) rfl (fun _ h => h) (ypick_f rfl hb3 rfl) <| jd_done (by kernel_rfl) <| p_thn <| c_cond rfl (fun hb5 => ?_) (fun hb5 => ?_)
          · have phb5 := hb5; try simp at phb5
            refine c_seq <| c_region <| ja rfl rfl <| j_nil <| p_thn <| c_ret <| p_inb_ret <| p_thn_ret <| p_lp_ret <| p_inb_ret <| p_thn_ret <| ?_
            refine p_ret0 rfl rfl (.tmp rfl <| .nil) ?_
            show Value.bool _ = _
            congr 1; symm
            unfold hRights
            subst hj
            rw [range_not (k := j + 1) (by omega) (by simp [hOk, *]), Bool.false_and]
          · have phb5 := hb5; try simp at phb5
            refine c_skip <| p_inb <| p_thn <| c_region <| jadd rfl rfl rfl (by first | exact wr (by omega) (by omega) | rfl) <| jm rfl rfl <| j_nil <| jp_tk (ap_0) <| ?_
            refine p_lp (k + 1) ?_ ?_ (sub_c rfl <| sub_c rfl <| sub_c rfl <| sub_c rfl <| sub_n) rfl rfl
            · subst hj; exact ⟨by omega, range_all hall (by simp [hOk, *])⟩
            · omega
        · have phb4 := hb4; try simp at phb4
          refine jd_off (i := 7) rfl rfl (by kernel_rfl) (by kernel_rfl) (by kernel_rfl) (by kernel_rfl) rfl rfl rfl hb4 <| jd_off (i := 8) rfl rfl (by kernel_rfl) (by kernel_rfl) (by kernel_rfl) (by kernel_rfl) rfl rfl rfl hb4 <| jd_off (i := 9) rfl rfl (by kernel_rfl) (by kernel_rfl) (by kernel_rfl) (by kernel_rfl) rfl rfl rfl hb4 <| jd_off (i := 10) rfl rfl (by kernel_rfl) (by kernel_rfl) (by kernel_rfl) (by kernel_rfl) rfl rfl rfl hb4 <| jd_off (i := 11) rfl rfl (by kernel_rfl) (by kernel_rfl) (by kernel_rfl) (by kernel_rfl) rfl rfl rfl hb4 <| jd_off (i := 12) rfl rfl (by kernel_rfl) (by kernel_rfl) (by kernel_rfl) (by kernel_rfl) rfl rfl rfl hb4 <| jd_off (i := 13) rfl rfl (by kernel_rfl) (by kernel_rfl) (by kernel_rfl) (by kernel_rfl) rfl rfl rfl hb4 <| jd_off (i := 14) rfl rfl (by kernel_rfl) (by kernel_rfl) (by kernel_rfl) (by kernel_rfl) rfl rfl rfl hb4 <| jd_first_g (i := 15) rfl rfl (by kernel_rfl) (by kernel_rfl) (by kernel_rfl) (by kernel_rfl) (by kernel_rfl) rfl rfl rfl hb3 (fun _ h => h) (ypick_f rfl hb4 rfl) <| jd_first (i := 16) rfl rfl (by kernel_rfl) (by kernel_rfl) (by kernel_rfl) (by kernel_rfl) (by kernel_rfl) rfl (fun _ h => h) (ypick_f rfl hb3 rfl) <| jd_done (by kernel_rfl) <| p_thn <| c_cond_kf rfl rfl <| c_skip <| p_inb <| p_thn <| c_region <| jadd rfl rfl rfl (by first | exact wr (by omega) (by omega) | rfl) <| jm rfl rfl <| j_nil <| jp_tk (ap_0) <| ?_
          refine p_lp (k + 1) ?_ ?_ (sub_c rfl <| sub_c rfl <| sub_c rfl <| sub_c rfl <| sub_n) rfl rfl
          · subst phb4; exact ⟨by omega, range_all hall (by simp [hOk, *])⟩
          · omega
    · have phb1 := hb1; try simp at phb1
      refine c_exit <| p_thn_exit <| p_lp_exit <| p_inb_exit <| p_thn <| c_seq <| c_region <| jm rfl rfl <| jlen rfl rfl <| jleq rfl rfl rfl <| ja rfl rfl <| j_nil <| p_thn <| c_ret <| ?_
      refine p_ret0 rfl rfl (.tmp rfl <| .nil) ?_
      show Value.bool _ = _
      congr 1; symm
      obtain rfl : k = hs.length := by omega
      unfold hRights
      rw [hall, Bool.true_and]
      exact decide_eq_decide.2 (by omega)
theorem hold_Sum (hs : List Hold) (A : Option Addr) (cap : Nat) (hl : hs.length ≤ 100000) (i : Int) (M : Mem) (hS : SlR rHold M A cap hs) : Ctr Tryz.prog 70 [.slice A hs.length cap, vi i] M [] (fun r _ _ => r = vi (hSum hs i)) := by
  refine ctr Tryz.func70 rfl Tryz.ntmps70 rfl fun w => ?_
  refine c_seq <| c_region <| ja rfl rfl <| j_nil <| p_thn <| c_seq <| c_region <| ja rfl rfl <| j_nil <| p_thn <| c_seq <| c_seq <| c_region <| jm rfl rfl <| jlen rfl rfl <| jm rfl rfl <| j_nil <| p_thn <| c_block <| c_lp (X := Nat) (fun k => k ≤ hs.length) (fun k => hs.length - k) (fun k => [(10, vi (k : Int)), (5, vi ((hs.take k).foldl (hAdd i) 0))]) [9, 8, 4, 1] 0 ?_ (sub_c rfl <| sub_c rfl <| sub_c rfl <| sub_c rfl <| sub_c rfl <| sub_c rfl <| sub_n) ?_
  · exact Nat.zero_le _
  · intro k hI
    refine c_seq <| c_region <| jlss rfl rfl rfl <| j_nil <| p_thn <| c_seq <| c_cond rfl (fun hb1 => ?_) (fun hb1 => ?_)
    · have phb1 := hb1; try simp at phb1
      refine c_skip <| p_thn <| c_seq <| c_block <| c_seq <| c_region <| ji rfl rfl rfl (by omega) (by omega) (hS.adr (i := k) (by omega)) <| jlq rfl hS (ix_get (z := hZ) (i := k) (by omega)) (fun c h => h) rfl rfl <| jalloc rfl fun B2 => jstw 0 rfl rfl rfl rfl (len_hold _) (one_hold _) (len_hold _) <| j_nil <| p_thn <| c_seq <| c_region <| jfa rfl rfl rfl <| jld1 0 rfl rfl rfl rfl <| jm rfl rfl <| jeql rfl rfl rfl <| jm rfl rfl <| jgs rfl rfl (fun hb3 => ?_) (fun hb3 => ?_)
      · have phb3 := hb3; try simp at phb3
        refine jg rfl rfl hb3 <| jfa rfl rfl rfl <| jg rfl rfl hb3 <| jld1 0 rfl rfl rfl rfl <| jg rfl rfl hb3 <| jeql rfl rfl rfl <| jpick_t rfl rfl hb3 rfl <| j_nil <| p_thn <| c_cond rfl (fun hb4 => ?_) (fun hb4 => ?_)
        · have phb4 := hb4; try simp at phb4
          refine c_region <| jm rfl rfl <| jfa rfl rfl rfl <| jld1 0 rfl rfl rfl rfl <| jadd rfl rfl rfl rfl <| jmin rfl rfl rfl <| ja rfl rfl <| j_nil <| p_inb <| p_thn <| c_region <| jadd rfl rfl rfl (by first | exact wr (by omega) (by omega) | rfl) <| jm rfl rfl <| j_nil <| jp_tk (ap_0) <| ?_
          refine p_lp (k + 1) ?_ ?_ (sub_c rfl <| sub_c (sub_v rfl (by rw [← foldl_take (z := hZ) (by omega)]; simp [hAdd, *])) <| sub_c rfl <| sub_c rfl <| sub_c rfl <| sub_c rfl <| sub_n) rfl rfl
          · omega
          · omega
        · have phb4 := hb4; try simp at phb4
          refine c_skip <| p_inb <| p_thn <| c_region <| jadd rfl rfl rfl (by first | exact wr (by omega) (by omega) | rfl) <| jm rfl rfl <| j_nil <| jp_tk (ap_0) <| ?_
          refine p_lp (k + 1) ?_ ?_ (sub_c rfl <| sub_c (sub_v rfl (by rw [← foldl_take (z := hZ) (by omega)]; simp [hAdd, *])) <| sub_c rfl <| sub_c rfl <| sub_c rfl <| sub_c rfl <| sub_n) rfl rfl
          · omega
          · omega
      · have phb3 := hb3; try simp at phb3
        refine jg_off rfl rfl rfl hb3 <| jg_off rfl rfl rfl hb3 <| jg_off rfl rfl rfl hb3 <| jpick_f rfl rfl hb3 rfl <| j_nil <| p_thn <| c_cond_kf rfl rfl <| c_skip <| p_inb <| p_thn <| c_region <| jadd rfl rfl rfl (by first | exact wr (by omega) (by omega) | rfl) <| jm rfl rfl <| j_nil <| jp_tk (ap_0) <| ?_
        refine p_lp (k + 1) ?_ ?_ (sub_c rfl <| sub_c (sub_v rfl (by rw [← foldl_take (z := hZ) (by omega)]; simp [hAdd, *])) <| sub_c rfl <| sub_c rfl <| sub_c rfl <| sub_c rfl <| sub_n) rfl rfl
        · omega
        · omega
    · have phb1 := hb1; try simp at phb1
      refine c_exit <| p_thn_exit <| p_lp_exit <| p_inb_exit <| p_thn <| c_seq <| c_region <| jm rfl rfl <| ja rfl rfl <| j_nil <| p_thn <| c_ret <| ?_
      refine p_ret0 rfl rfl (.tmp rfl <| .nil) ?_
      show vi _ = vi _
      unfold hSum
      rw [List.take_of_length_le (by omega)]
theorem clone_Hold (hs : List Hold) (A : Option Addr) (cap : Nat) (hl : hs.length ≤ 100000) (M : Mem) (hS : SlR rHold M A cap hs) : Ctr Tryz.prog 85 [.slice A hs.length cap] M [] (fun r _ L' => L' = [.row r 129 5 hs.length (hs.flatMap encHold)]) := by
  refine ctr Tryz.func85 rfl Tryz.ntmps85 rfl fun w => ?_
  refine c_seq <| c_region <| ja rfl rfl <| j_nil <| p_thn <| c_seq <| c_seq <| c_region <| jm rfl rfl <| jsnil rfl rfl rfl <| j_nil <| p_thn <| c_cond rfl (fun hb1 => ?_) (fun hb1 => ?_)
  · have phb1 := hb1; try simp at phb1
    refine c_seq <| c_region <| ja rfl rfl <| j_nil <| p_thn <| c_ret <| p_thn_ret <| ?_
    refine jp_nilrow none 129 5 <| jp_tk (L1 := [_]) (ap_s <| ap_0) <| p_retL rfl rfl (.tmp rfl <| .nil) ?_
    have he : hs = [] := by
      cases hs with
      | nil => rfl
      | cons a l => obtain ⟨b, o, e⟩ := hS.adr (i := 0) (by simp); rw [e] at hb1; cases hb1
    subst he; rfl
  · have phb1 := hb1; try simp at phb1
    refine c_skip <| p_thn <| c_seq <| c_region <| jbs0 rfl fun B2 => jm rfl rfl <| ?_
    obtain ⟨cs, hsrc, hrows⟩ := hS.srcs
    have hcs := Rows.flat_eq (f := encHold) (fun _ _ h => h) hrows
    refine j_nilrow (some ⟨B2, 0, none⟩) 129 5 <| japp rfl rfl rfl (fun w ho => hsrc _) hrows.one rfl (by decide) (by omega) (by omega) fun vB4 => ja rfl rfl <| j_nil <| p_thn <| c_ret <| ?_
    refine p_retK (ap_s <| ap_0) rfl rfl (.tmp rfl <| .nil) ?_
    subst hcs
    show [_] = [_]
    rw [Nat.zero_add]; rfl
theorem find_some {α : Type} {z : α} {xs : List α} {p : α → Bool} {k : Nat} (hk : k < xs.length) (hp : p (ix z xs k) = true) (hb : ∀ j, j < k → p (ix z xs j) = false) : xs.findIdx? p = some k := by
  rw [List.findIdx?_eq_some_iff_getElem]
  exact ⟨hk, by rw [← ix_eq (z := z) hk]; exact hp, fun j hj => by rw [← ix_eq (z := z) (by omega)]; simp [hb j hj]⟩
theorem find_none {α : Type} {z : α} {xs : List α} {p : α → Bool} (hb : ∀ j, j < xs.length → p (ix z xs j) = false) : xs.findIdx? p = none := by
  rw [List.findIdx?_eq_none_iff]
  intro x hx
  obtain ⟨i, hi, rfl⟩ := List.getElem_of_mem hx
  rw [← ix_eq (z := z) hi]; exact hb i hi
theorem lFind_lt {α : Type} {hs : List α} {p : α → Bool} (h : 0 ≤ lFind hs p) : (lFind hs p).toNat < hs.length := by
  unfold lFind at h ⊢
  cases e : hs.findIdx? p with
  | none => rw [e] at h; simp at h
  | some i => rw [List.findIdx?_eq_some_iff_getElem] at e; exact e.1
theorem lFind_ge {α : Type} {hs : List α} {p : α → Bool} : -1 ≤ lFind hs p := by
  unfold lFind
  cases e : hs.findIdx? p <;> simp <;> omega
def hIs (i n : Int) (h : Hold) : Bool := decide (h.replica = i) && decide (h.number = n)
def hPlace (hs : List Hold) (i n : Int) : Int := lFind hs (hIs i n)
def hEnd (hs : List Hold) (i n s : Int) : List Hold × Int × Int :=
  if hRights hs = true ∧ (s = 2 ∨ s = 3) then
    if hPlace hs i n < 0 then ([], 0, 10) else if (ix hZ hs (hPlace hs i n).toNat).state ≠ 1 then ([], 0, 12)
    else (hs.set (hPlace hs i n).toNat { ix hZ hs (hPlace hs i n).toNat with state := s }, (ix hZ hs (hPlace hs i n).toNat).amount, 0)
  else ([], 0, 1)
def hDue (r d : Int) (h : Hold) : Bool := decide (h.replica = r) && decide (h.state = 1) && decide (h.due < d)
def hExp (r d : Int) (h : Hold) : Hold := if hDue r d h then { h with state := 3 } else h
def hExpire (hs : List Hold) (r d : Int) : List Hold × Int := if hRights hs then (hs.map (hExp r d), ((hs.filter (hDue r d)).length : Int)) else (hs, 0)
attribute [irreducible] lFind hDue
theorem set_amount {hs : List Hold} {k j : Nat} {s : Int} (hk : k < hs.length) (hj : j < hs.length) : (ix hZ (hs.set k { ix hZ hs k with state := s }) j).amount = (ix hZ hs j).amount := by
  rw [ix_eq (by simpa using hj), ix_eq hj, List.getElem_set]
  split
  · rename_i e; subst e; show (ix hZ hs k).amount = _; rw [ix_eq hk]
  · rfl
theorem exp_succ {hs : List Hold} {r d : Int} {k : Nat} (hk : k < hs.length) (h : hDue r d (ix hZ hs k) = true) :
    ((hs.take k).map (hExp r d) ++ hs.drop k).set k { ix hZ ((hs.take k).map (hExp r d) ++ hs.drop k) k with state := 3 } = (hs.take (k + 1)).map (hExp r d) ++ hs.drop (k + 1) := by
  have e0 : ix hZ ((hs.take k).map (hExp r d) ++ hs.drop k) k = ix hZ hs k := by
    rw [ix_eq (by simp; omega), ix_eq hk, List.getElem_append_right (by simp; omega)]; simp [Nat.min_eq_left (Nat.le_of_lt hk)]
  rw [e0, List.set_append_right _ _ (by simp; omega), List.take_add_one, ix_get (z := hZ) hk, List.map_append, List.append_assoc]
  congr 1
  rw [List.length_map, List.length_take, Nat.min_eq_left (by omega), Nat.sub_self, List.drop_eq_getElem_cons hk, List.set_cons_zero]
  show _ = [hExp r d (ix hZ hs k)] ++ _
  rw [hExp, if_pos h]; rfl
theorem exp_same {hs : List Hold} {r d : Int} {k : Nat} (hk : k < hs.length) (h : hDue r d (ix hZ hs k) = false) :
    (hs.take k).map (hExp r d) ++ hs.drop k = (hs.take (k + 1)).map (hExp r d) ++ hs.drop (k + 1) := by
  rw [List.take_add_one, ix_get (z := hZ) hk, List.map_append, List.append_assoc, List.drop_eq_getElem_cons hk, ← ix_eq (z := hZ) hk]
  show _ = _ ++ ([hExp r d (ix hZ hs k)] ++ _)
  rw [hExp, h]; rfl
theorem exp_at {hs : List Hold} {r d : Int} {k : Nat} (hk : k < hs.length) : ix hZ ((hs.take k).map (hExp r d) ++ hs.drop k) k = ix hZ hs k := by
  rw [ix_eq (by simp; omega), ix_eq hk, List.getElem_append_right (by simp; omega)]; simp [Nat.min_eq_left (Nat.le_of_lt hk)]
theorem due_succ {hs : List Hold} {r d : Int} {k : Nat} (hk : k < hs.length) : ((hs.take (k + 1)).filter (hDue r d)).length = ((hs.take k).filter (hDue r d)).length + (if hDue r d (ix hZ hs k) then 1 else 0) := by
  rw [List.take_add_one, ix_get (z := hZ) hk, List.filter_append, List.length_append]
  congr 1
  cases e : hDue r d (ix hZ hs k) <;> simp [e]

theorem indexFunc_Hold {f : Nat} {ca : List Value} [FnI Tryz.prog f] {Lt : List Ent} (hs : List Hold) (A : Option Addr) (cap : Nat) (p : Hold → Bool) (hl : hs.length ≤ 100000) (M : Mem) (hS : SlR rHold M A cap hs) (hp : ∀ h, Ctr Tryz.prog f ([.agg (encHold h).toArray] ++ ca) M Lt (fun v _ L' => v = .bool (p h) ∧ L' = Lt)) : Ctr Tryz.prog 129 [.slice A hs.length cap, .func (.func f) #[] ca.toArray] M Lt (fun v _ L' => v = vi (lFind hs p) ∧ L' = Lt) := by
  refine ctr Tryz.func129 rfl Tryz.ntmps129 rfl fun w => ?_
  refine c_seq <| c_region <| ja rfl rfl <| j_nil <| p_thn <| c_seq <| c_seq <| c_region <| jm rfl rfl <| jlen rfl rfl <| jm rfl rfl <| j_nil <| p_thn <| c_block <| c_lp (X := Nat) (fun k => k ≤ hs.length ∧ ∀ j, j < k → p (ix hZ hs j) = false) (fun k => hs.length - k) (fun k => [(8, vi (k : Int))]) [7, 1, 0] 0 ?_ (sub_c rfl <| sub_c rfl <| sub_c rfl <| sub_c rfl <| sub_n) ?_
  · exact ⟨Nat.zero_le _, fun j hj => absurd hj (Nat.not_lt_zero j)⟩
  · intro k hI
    obtain ⟨hk, hall⟩ := hI
    refine c_seq <| c_region <| jlss rfl rfl rfl <| j_nil <| p_thn <| c_seq <| c_cond rfl (fun hb1 => ?_) (fun hb1 => ?_)
    · have phb1 := hb1; try simp at phb1
      refine c_skip <| p_thn <| c_seq <| c_block <| c_seq <| c_region <| jm rfl rfl <| ja rfl rfl <| j_nil <| p_thn <| c_seq <| c_region <| jm rfl rfl <| jm rfl rfl <| jm rfl rfl <| ji rfl rfl rfl (by omega) (by omega) (hS.adr (i := k) (by omega)) <| jlq rfl hS (ix_get (z := hZ) (i := k) (by omega)) (fun c h => h) rfl rfl <| jcallo rfl rfl rfl (ap_0) (hp _) (ap_0) <| j_nil <| p_thn <| c_cond rfl (fun hb2 => ?_) (fun hb2 => ?_)
      · have phb2 := hb2; try simp at phb2
        refine c_seq <| c_region <| jm rfl rfl <| ja rfl rfl <| j_nil <| p_thn <| c_ret <| p_inb_ret <| p_thn_ret <| p_lp_ret <| p_inb_ret <| p_thn_ret <| ?_
        refine p_retD (ap_0) rfl rfl (.tmp rfl <| .nil) ?_
        refine ⟨?_, rfl⟩
        show vi _ = vi _
        congr 1
        unfold lFind
        rw [find_some (z := hZ) (k := k) (by omega) (by assumption) hall]
      · have phb2 := hb2; try simp at phb2
        refine c_skip <| p_inb <| p_thn <| c_region <| jadd rfl rfl rfl (by first | exact wr (by omega) (by omega) | rfl) <| jm rfl rfl <| j_nil <| ?_
        refine p_lp (k + 1) ?_ ?_ (sub_c rfl <| sub_c rfl <| sub_c rfl <| sub_c rfl <| sub_n) rfl rfl
        · refine ⟨by omega, fun j hj => ?_⟩
          rcases Nat.lt_succ_iff_lt_or_eq.1 hj with h | rfl
          · exact hall j h
          · assumption
        · omega
    · have phb1 := hb1; try simp at phb1
      refine c_exit <| p_thn_exit <| p_lp_exit <| p_inb_exit <| p_thn <| c_seq <| c_region <| ja rfl rfl <| j_nil <| p_thn <| c_ret <| ?_
      refine p_retD (ap_0) rfl rfl (.tmp rfl <| .nil) ?_
      refine ⟨?_, rfl⟩
      obtain rfl : k = hs.length := by omega
      show vi _ = vi _
      congr 1
      unfold lFind
      rw [find_none (z := hZ) hall]
theorem hold_place1 (h : Hold) (i n : Int) {X1 X2 : Nat} (M : Mem) : Ctr Tryz.prog 161 [.agg (encHold h).toArray, .pointer (some ⟨X1, 0, none⟩), .pointer (some ⟨X2, 0, none⟩)] M [.blk X1 3 [vi i], .blk X2 3 [vi n]] (fun v _ L' => v = .bool (hIs i n h) ∧ L' = [.blk X1 3 [vi i], .blk X2 3 [vi n]]) := by
  refine ctr Tryz.func161 rfl Tryz.ntmps161 rfl fun w => ?_
  refine c_seq <| c_region <| jbox rfl rfl rfl fun B1 => ja rfl rfl <| j_nil <| p_thn <| c_seq <| c_region <| jfa rfl rfl rfl <| jld1 0 rfl rfl rfl rfl <| jld1 1 rfl rfl rfl rfl <| jeql rfl rfl rfl <| jm rfl rfl <| jgs rfl rfl (fun hb2 => ?_) (fun hb2 => ?_)
  · have phb2 := hb2; try simp at phb2
    refine jg rfl rfl hb2 <| jfa rfl rfl rfl <| jg rfl rfl hb2 <| jld1 0 rfl rfl rfl rfl <| jg rfl rfl hb2 <| jld1 2 rfl rfl rfl rfl <| jg rfl rfl hb2 <| jeql rfl rfl rfl <| jpick_t rfl rfl hb2 rfl <| ja rfl rfl <| j_nil <| p_thn <| c_ret <| ?_
    refine jp_perm (fr_s <| fr_s <| fr_0) <| jp_perm (fr_s <| fr_s <| fr_0) <| ?_
    refine p_retK (ap_s <| ap_s <| ap_0) rfl rfl (.tmp rfl <| .nil) ?_
    refine ⟨?_, rfl⟩
    show Value.bool _ = _
    congr 1; symm
    simp [hIs, *]
  · have phb2 := hb2; try simp at phb2
    refine jg_off rfl rfl rfl hb2 <| jg_off rfl rfl rfl hb2 <| jg_off rfl rfl rfl hb2 <| jg_off rfl rfl rfl hb2 <| jpick_f rfl rfl hb2 rfl <| ja rfl rfl <| j_nil <| p_thn <| c_ret <| ?_
    refine jp_perm (fr_s <| fr_s <| fr_0) <| jp_perm (fr_s <| fr_s <| fr_0) <| ?_
    refine p_retK (ap_s <| ap_s <| ap_0) rfl rfl (.tmp rfl <| .nil) ?_
    refine ⟨?_, rfl⟩
    show Value.bool _ = _
    congr 1; symm
    simp [hIs, *]
theorem hold_place (hs : List Hold) (A : Option Addr) (cap : Nat) (hl : hs.length ≤ 100000) (i n : Int) (M : Mem) (hS : SlR rHold M A cap hs) : Ctr Tryz.prog 119 [.slice A hs.length cap, vi i, vi n] M [] (fun r _ _ => r = vi (hPlace hs i n)) := by
  refine ctr Tryz.func119 rfl Tryz.ntmps119 rfl fun w => ?_
  refine c_seq <| c_region <| jbox rfl rfl rfl fun B1 => jbox rfl rfl rfl fun B2 => ja rfl rfl <| j_nil <| p_thn <| c_seq <| c_region <| jm rfl rfl <| jfunc rfl rfl rfl <| j_perm (fr_s <| fr_0) <| jcallb rfl rfl rfl (ap_s <| ap_s <| ap_0) (indexFunc_Hold _ _ _ (hIs i n) hl _ hS (fun h => hold_place1 h _ _ _)) (ap_s <| ap_s <| ap_0) <| ja rfl rfl <| j_nil <| p_thn <| c_ret <| ?_
  refine p_ret0 rfl rfl (.tmp rfl <| .nil) ?_
  rfl
end Go.Proofs.YtihgpbpcbbgdiaaGreat
