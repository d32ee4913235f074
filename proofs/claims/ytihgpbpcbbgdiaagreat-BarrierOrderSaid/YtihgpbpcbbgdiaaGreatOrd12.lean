/- Several texts in one. -/
import Derived.Test.YtihgpbpcbbgdiaaGreatOrd11
/- What the functions of package lock tell. -/
namespace Go.Proofs.YtihgpbpcbbgdiaaGreat
open Go.RowKit
set_option linter.unusedVariables false
set_option linter.unusedSimpArgs false
abbrev pL (p : Lock × Int) : Value := .tuple #[.agg (encLock p.1).toArray, vi p.2]
def lCmp (a b : Lock) : Int :=
  if a.seq ≠ b.seq then (if a.seq > b.seq then 1 else -1) else if a.ver ≠ b.ver then (if a.ver > b.ver then 1 else -1)
  else if a.holder ≠ b.holder then (if a.holder > b.holder then 1 else -1) else if a.value ≠ b.value then (if a.value > b.value then 1 else -1) else 0
def lJoin (a b : Lock) : Lock := if lCmp a b < 0 then b else a
def lNew (k n : Int) : Lock × Int := if isR k then (if isN n then (⟨0, 0, k, n⟩, 0) else (lZ, 2)) else (lZ, 1)
def lPass (l : Lock) (i k : Int) : Lock × Int :=
  if i ≠ l.holder then (lZ, 9) else if isR k then (if (nAdd l.seq 1).2 = 0 then (⟨(nAdd l.seq 1).1, 0, k, l.value⟩, 0) else (lZ, (nAdd l.seq 1).2)) else (lZ, 1)
def lWrite (l : Lock) (i n : Int) : Lock × Int :=
  if i ≠ l.holder then (lZ, 9) else if (nAdd l.ver 1).2 = 0 ∧ isN n = true then (⟨l.seq, (nAdd l.ver 1).1, l.holder, n⟩, 0) else (lZ, 2)
def cnt (n : Int) : Bool := decide (0 ≤ n) && isN n
def lRight (l : Lock) : Bool := cnt l.seq && cnt l.ver && isR l.holder && isN l.value
instance : ZeI Tryz.prog 174 [vi 0, vi 0] := ⟨by kernel_rfl⟩
instance : ZeI Tryz.prog 199 [vi 0, vi 0, vi 0, vi 0, vi 0, vi 0, vi 0, vi 0] := ⟨by kernel_rfl⟩
theorem fill4 {z0 z1 z2 z3 z4 z5 z6 z7 a b c d e f g h : Value} : Instr.fill (fun i => some (i * 2, 2)) [z0, z1, z2, z3, z4, z5, z6, z7].toArray [(0, .agg [a, b].toArray), (1, .agg [c, d].toArray), (2, .agg [e, f].toArray), (3, .agg [g, h].toArray)] = some [a, b, c, d, e, f, g, h].toArray :=
  fill_put (c := [a, b]) (X' := [a, b, z2, z3, z4, z5, z6, z7]) rfl rfl rfl (by simp) rfl <| fill_put (c := [c, d]) (X' := [a, b, c, d, z4, z5, z6, z7]) rfl rfl rfl (by simp) rfl <|
  fill_put (c := [e, f]) (X' := [a, b, c, d, e, f, z6, z7]) rfl rfl rfl (by simp) rfl <| fill_put (c := [g, h]) (X' := [a, b, c, d, e, f, g, h]) rfl rfl rfl (by simp) rfl fill_end
theorem fillp {z0 z1 : Value} {a b : Int} : Instr.fill (fun i => some (i * 1, 1)) [z0, z1].toArray [(0, vi a), (1, vi b)] = some [vi a, vi b].toArray :=
  fill_put (c := [vi a]) (X' := [vi a, z1]) rfl rfl rfl (by simp) rfl <| fill_put (c := [vi b]) (X' := [vi a, vi b]) rfl rfl rfl (by simp) rfl fill_end
theorem fill2 {z0 z1 z2 z3 a b c d : Value} : Instr.fill (fun i => some (i * 2, 2)) [z0, z1, z2, z3].toArray [(0, .agg [a, b].toArray), (1, .agg [c, d].toArray)] = some [a, b, c, d].toArray :=
  fill_put (c := [a, b]) (X' := [a, b, z2, z3]) rfl rfl rfl (by simp) rfl <| fill_put (c := [c, d]) (X' := [a, b, c, d]) rfl rfl rfl (by simp) rfl fill_end
section
variable {l : Lock} {h : Hold} {n : Int}
theorem uL_seq : (encLock l).take 0 ++ [vi n] ++ (encLock l).drop (0 + 1) = encLock { l with seq := n } := rfl
theorem uL_ver : (encLock l).take 1 ++ [vi n] ++ (encLock l).drop (1 + 1) = encLock { l with ver := n } := rfl
theorem uL_holder : (encLock l).take 2 ++ [vi n] ++ (encLock l).drop (2 + 1) = encLock { l with holder := n } := rfl
theorem uL_value : (encLock l).take 3 ++ [vi n] ++ (encLock l).drop (3 + 1) = encLock { l with value := n } := rfl
theorem uH_state : (encHold h).take 4 ++ [vi n] ++ (encHold h).drop (4 + 1) = encHold { h with state := n } := rfl
end
attribute [irreducible] lCmp lNew lPass lWrite cnt lRight

theorem lock_is (i : Int) (M : Mem) : Ctr Tryz.prog 151 [vi i] M [] (fun r _ _ => r = .bool (isR i)) := by
  refine ctr Tryz.func151 rfl Tryz.ntmps151 rfl fun w => ?_
  refine c_seq <| c_region <| ja rfl rfl <| j_nil <| p_thn <| c_seq <| c_region <| jm rfl rfl <| jgeq rfl rfl rfl <| jm rfl rfl <| jgs rfl rfl (fun hb1 => ?_) (fun hb1 => ?_)
  · have phb1 := hb1; try simp at phb1
    refine jg rfl rfl hb1 <| jm rfl rfl <| jg rfl rfl hb1 <| jlss rfl rfl rfl <| jpick_t rfl rfl hb1 rfl <| ja rfl rfl <| j_nil <| p_thn <| c_ret <| ?_
    refine p_ret0 rfl rfl (.tmp rfl <| .nil) ?_
    show Value.bool _ = _
    congr 1; symm
    simp [isR, *]
  · have phb1 := hb1; try simp at phb1
    refine jg_off rfl rfl rfl hb1 <| jg_off rfl rfl rfl hb1 <| jpick_f rfl rfl hb1 rfl <| ja rfl rfl <| j_nil <| p_thn <| c_ret <| ?_
    refine p_ret0 rfl rfl (.tmp rfl <| .nil) ?_
    show Value.bool _ = _
    congr 1; symm
    simp [isR, *]
theorem lock_Right1 (i : Int) (M : Mem) : Ctr Tryz.prog 150 [vi i] M [] (fun r _ _ => r = .bool (cnt i)) := by
  refine ctr Tryz.func150 rfl Tryz.ntmps150 rfl fun w => ?_
  refine c_seq <| c_region <| ja rfl rfl <| j_nil <| p_thn <| c_seq <| c_region <| jm rfl rfl <| jgeq rfl rfl rfl <| jm rfl rfl <| jgs rfl rfl (fun hb1 => ?_) (fun hb1 => ?_)
  · have phb1 := hb1; try simp at phb1
    refine jg rfl rfl hb1 <| jm rfl rfl <| jg rfl rfl hb1 <| jcallv rfl rfl rfl (num_Is _ _) <| jpick_t rfl rfl hb1 rfl <| ja rfl rfl <| j_nil <| p_thn <| c_ret <| ?_
    refine p_ret0 rfl rfl (.tmp rfl <| .nil) ?_
    show Value.bool _ = _
    congr 1; symm
    simp [cnt, *]
  · have phb1 := hb1; try simp at phb1
    refine jg_off rfl rfl rfl hb1 <| jg_off rfl rfl rfl hb1 <| jpick_f rfl rfl hb1 rfl <| ja rfl rfl <| j_nil <| p_thn <| c_ret <| ?_
    refine p_ret0 rfl rfl (.tmp rfl <| .nil) ?_
    show Value.bool _ = _
    congr 1; symm
    simp [cnt, *]
theorem lock_Right (l : Lock) (M : Mem) : Ctr Tryz.prog 107 [.agg (encLock l).toArray] M [] (fun r _ _ => r = .bool (lRight l)) := by
  refine ctr Tryz.func107 rfl Tryz.ntmps107 rfl fun w => ?_
  refine c_seq <| c_region <| jbox rfl rfl rfl fun B1 => ja rfl rfl <| j_nil <| p_thn <| c_seq <| c_region <| ja rfl rfl <| j_nil <| p_thn <| c_seq <| c_region <| jm rfl rfl <| jfa rfl rfl rfl <| jld1 0 rfl rfl rfl rfl <| jcallv rfl rfl rfl (lock_Right1 _ _) <| jm rfl rfl <| jgs rfl rfl (fun hb2 => ?_) (fun hb2 => ?_)
  · have phb2 := hb2; try simp at phb2
    refine jg rfl rfl hb2 <| jm rfl rfl <| jg rfl rfl hb2 <| jfa rfl rfl rfl <| jg rfl rfl hb2 <| jld1 0 rfl rfl rfl rfl <| jg rfl rfl hb2 <| jcallv rfl rfl rfl (lock_Right1 _ _) <| jpick_t rfl rfl hb2 rfl <| jm rfl rfl <| jgs rfl rfl (fun hb3 => ?_) (fun hb3 => ?_)
    · have phb3 := hb3; try simp at phb3
      refine jg rfl rfl hb3 <| jfa rfl rfl rfl <| jg rfl rfl hb3 <| jld1 0 rfl rfl rfl rfl <| jg rfl rfl hb3 <| jcallv rfl rfl rfl (lock_is _ _) <| jpick_t rfl rfl hb3 rfl <| jm rfl rfl <| jgs rfl rfl (fun hb4 => ?_) (fun hb4 => ?_)
      · have phb4 := hb4; try simp at phb4
        refine jg rfl rfl hb4 <| jfa rfl rfl rfl <| jg rfl rfl hb4 <| jld1 0 rfl rfl rfl rfl <| jg rfl rfl hb4 <| jcallv rfl rfl rfl (num_Is _ _) <| jpick_t rfl rfl hb4 rfl <| ja rfl rfl <| j_nil <| p_thn <| c_ret <| ?_
        refine p_ret0 rfl rfl (.tmp rfl <| .nil) ?_
        show Value.bool _ = _
        congr 1; symm
        simp [lRight, *]
      · have phb4 := hb4; try simp at phb4
        refine jg_off rfl rfl rfl hb4 <| jg_off rfl rfl rfl hb4 <| jg_off rfl rfl rfl hb4 <| jpick_f rfl rfl hb4 rfl <| ja rfl rfl <| j_nil <| p_thn <| c_ret <| ?_
        refine p_ret0 rfl rfl (.tmp rfl <| .nil) ?_
        show Value.bool _ = _
        congr 1; symm
        simp [lRight, *]
    · have phb3 := hb3; try simp at phb3
      refine jg_off rfl rfl rfl hb3 <| jg_off rfl rfl rfl hb3 <| jg_off rfl rfl rfl hb3 <| jpick_f rfl rfl hb3 rfl <| jm rfl rfl <| jg_off rfl rfl rfl rfl <| jg_off rfl rfl rfl rfl <| jg_off rfl rfl rfl rfl <| jpick_f rfl rfl rfl rfl <| ja rfl rfl <| j_nil <| p_thn <| c_ret <| ?_
      refine p_ret0 rfl rfl (.tmp rfl <| .nil) ?_
      show Value.bool _ = _
      congr 1; symm
      simp [lRight, *]
  · have phb2 := hb2; try simp at phb2
    refine jg_off rfl rfl rfl hb2 <| jg_off rfl rfl rfl hb2 <| jg_off rfl rfl rfl hb2 <| jg_off rfl rfl rfl hb2 <| jpick_f rfl rfl hb2 rfl <| jm rfl rfl <| jg_off rfl rfl rfl rfl <| jg_off rfl rfl rfl rfl <| jg_off rfl rfl rfl rfl <| jpick_f rfl rfl rfl rfl <| jm rfl rfl <| jg_off rfl rfl rfl rfl <| jg_off rfl rfl rfl rfl <| jg_off rfl rfl rfl rfl <| jpick_f rfl rfl rfl rfl <| ja rfl rfl <| j_nil <| p_thn <| c_ret <| ?_
    refine p_ret0 rfl rfl (.tmp rfl <| .nil) ?_
    show Value.bool _ = _
    congr 1; symm
    simp [lRight, *]
theorem lock_Compare (a b : Lock) (M : Mem) : Ctr Tryz.prog 134 [.agg (encLock a).toArray, .agg (encLock b).toArray] M [] (fun r _ _ => r = vi (lCmp a b)) := by
  refine ctr Tryz.func134 rfl Tryz.ntmps134 rfl fun w => ?_
  refine c_seq <| c_region <| jbox rfl rfl rfl fun B1 => jbox rfl rfl rfl fun B2 => ja rfl rfl <| j_nil <| p_thn <| c_seq <| c_seq <| c_region <| jfa rfl rfl rfl <| jld1 1 rfl rfl rfl rfl <| jfa rfl rfl rfl <| jld1 0 rfl rfl rfl rfl <| jbua (zc := [vi 0, vi 0]) (c := [vi a.seq, vi b.seq]) rfl rfl fillp <| jfa rfl rfl rfl <| jld1 1 rfl rfl rfl rfl <| jfa rfl rfl rfl <| jld1 0 rfl rfl rfl rfl <| jbua (zc := [vi 0, vi 0]) (c := [vi a.ver, vi b.ver]) rfl rfl fillp <| jfa rfl rfl rfl <| jld1 1 rfl rfl rfl rfl <| jfa rfl rfl rfl <| jld1 0 rfl rfl rfl rfl <| jbua (zc := [vi 0, vi 0]) (c := [vi a.holder, vi b.holder]) rfl rfl fillp <| jfa rfl rfl rfl <| jld1 1 rfl rfl rfl rfl <| jfa rfl rfl rfl <| jld1 0 rfl rfl rfl rfl <| jbua (zc := [vi 0, vi 0]) (c := [vi a.value, vi b.value]) rfl rfl fillp <| jbua (zc := [vi 0, vi 0, vi 0, vi 0, vi 0, vi 0, vi 0, vi 0]) (c := [vi a.seq, vi b.seq, vi a.ver, vi b.ver, vi a.holder, vi b.holder, vi a.value, vi b.value]) rfl rfl fill4 <| jm rfl rfl <| j_nil <| p_thn <| c_block <| c_unr 4 <| c_seq <| c_region <| jlss rfl rfl rfl <| j_nil <| p_thn <| c_seq <| c_cond_kt rfl rfl <| c_skip <| p_thn <| c_seq <| c_block <| c_seq <| c_region <| jidx (sz := 2) (r := [vi a.seq, vi b.seq]) rfl rfl rfl (by decide) (by decide) rfl <| jalloc (c := [vi 0, vi 0]) rfl fun B3 => jstw 0 rfl rfl rfl rfl rfl rfl rfl <| j_nil <| p_thn <| c_seq <| c_region <| jia rfl rfl rfl (by decide) (by decide) <| jld1 0 rfl rfl rfl (id rfl) <| jia rfl rfl rfl (by decide) (by decide) <| jld1 0 rfl rfl rfl (id rfl) <| jneq rfl rfl rfl <| j_nil <| p_thn <| c_cond rfl (fun hb4 => ?_) (fun hb4 => ?_)
  · have phb4 := hb4; try simp at phb4
    refine c_seq <| c_seq <| c_region <| jia rfl rfl rfl (by decide) (by decide) <| jld1 0 rfl rfl rfl (id rfl) <| jia rfl rfl rfl (by decide) (by decide) <| jld1 0 rfl rfl rfl (id rfl) <| jgtr rfl rfl rfl <| j_nil <| p_thn <| c_cond rfl (fun hb5 => ?_) (fun hb5 => ?_)
    · have phb5 := hb5; try simp at phb5
      refine c_seq <| c_region <| ja rfl rfl <| j_nil <| p_thn <| c_ret <| p_thn_ret <| p_inb_ret <| p_thn_ret <| p_rq_ret <| p_inb_ret <| p_thn_ret <| ?_
      refine p_ret0 rfl rfl (.tmp rfl <| .nil) ?_
      show vi _ = vi _
      congr 1
      simp [lCmp, *]
    · have phb5 := hb5; try simp at phb5
      refine c_skip <| p_thn <| c_seq <| c_region <| ja rfl rfl <| j_nil <| p_thn <| c_ret <| p_inb_ret <| p_thn_ret <| p_rq_ret <| p_inb_ret <| p_thn_ret <| ?_
      refine p_ret0 rfl rfl (.tmp rfl <| .nil) ?_
      show vi _ = vi _
      congr 1
      simp [lCmp, *]
  · have phb4 := hb4; try simp at phb4
    refine c_skip <| p_inb <| p_thn <| c_region <| jadd rfl rfl rfl (by first | exact wr (by omega) (by omega) | rfl) <| jm rfl rfl <| j_nil <| p_rq <| c_seq <| c_region <| jlss rfl rfl rfl <| j_nil <| p_thn <| c_seq <| c_cond_kt rfl rfl <| c_skip <| p_thn <| c_seq <| c_block <| c_seq <| c_region <| jidx (sz := 2) (r := [vi a.ver, vi b.ver]) rfl rfl rfl (by decide) (by decide) rfl <| jalloc (c := [vi 0, vi 0]) rfl fun B6 => jstw 0 rfl rfl rfl rfl rfl rfl rfl <| j_nil <| p_thn <| c_seq <| c_region <| jia rfl rfl rfl (by decide) (by decide) <| jld1 0 rfl rfl rfl (id rfl) <| jia rfl rfl rfl (by decide) (by decide) <| jld1 0 rfl rfl rfl (id rfl) <| jneq rfl rfl rfl <| j_nil <| p_thn <| c_cond rfl (fun hb7 => ?_) (fun hb7 => ?_)
    · have phb7 := hb7; try simp at phb7
      refine c_seq <| c_seq <| c_region <| jia rfl rfl rfl (by decide) (by decide) <| jld1 0 rfl rfl rfl (id rfl) <| jia rfl rfl rfl (by decide) (by decide) <| jld1 0 rfl rfl rfl (id rfl) <| jgtr rfl rfl rfl <| j_nil <| p_thn <| c_cond rfl (fun hb8 => ?_) (fun hb8 => ?_)
      · have phb8 := hb8; try simp at phb8
        refine c_seq <| c_region <| ja rfl rfl <| j_nil <| p_thn <| c_ret <| p_thn_ret <| p_inb_ret <| p_thn_ret <| p_rq_ret <| p_inb_ret <| p_thn_ret <| ?_
        refine p_ret0 rfl rfl (.tmp rfl <| .nil) ?_
        show vi _ = vi _
        congr 1
        simp [lCmp, *]
      · have phb8 := hb8; try simp at phb8
        refine c_skip <| p_thn <| c_seq <| c_region <| ja rfl rfl <| j_nil <| p_thn <| c_ret <| p_inb_ret <| p_thn_ret <| p_rq_ret <| p_inb_ret <| p_thn_ret <| ?_
        refine p_ret0 rfl rfl (.tmp rfl <| .nil) ?_
        show vi _ = vi _
        congr 1
        simp [lCmp, *]
    · have phb7 := hb7; try simp at phb7
      refine c_skip <| p_inb <| p_thn <| c_region <| jadd rfl rfl rfl (by first | exact wr (by omega) (by omega) | rfl) <| jm rfl rfl <| j_nil <| p_rq <| c_seq <| c_region <| jlss rfl rfl rfl <| j_nil <| p_thn <| c_seq <| c_cond_kt rfl rfl <| c_skip <| p_thn <| c_seq <| c_block <| c_seq <| c_region <| jidx (sz := 2) (r := [vi a.holder, vi b.holder]) rfl rfl rfl (by decide) (by decide) rfl <| jalloc (c := [vi 0, vi 0]) rfl fun B9 => jstw 0 rfl rfl rfl rfl rfl rfl rfl <| j_nil <| p_thn <| c_seq <| c_region <| jia rfl rfl rfl (by decide) (by decide) <| jld1 0 rfl rfl rfl (id rfl) <| jia rfl rfl rfl (by decide) (by decide) <| jld1 0 rfl rfl rfl (id rfl) <| jneq rfl rfl rfl <| j_nil <| p_thn <| c_cond rfl (fun hb10 => ?_) (fun hb10 => ?_)
      · have phb10 := hb10; try simp at phb10
        refine c_seq <| c_seq <| c_region <| jia rfl rfl rfl (by decide) (by decide) <| jld1 0 rfl rfl rfl (id rfl) <| jia rfl rfl rfl (by decide) (by decide) <| jld1 0 rfl rfl rfl (id rfl) <| jgtr rfl rfl rfl <| j_nil <| p_thn <| c_cond rfl (fun hb11 => ?_) (fun hb11 => ?_)
        · have phb11 := hb11; try simp at phb11
          refine c_seq <| c_region <| ja rfl rfl <| j_nil <| p_thn <| c_ret <| p_thn_ret <| p_inb_ret <| p_thn_ret <| p_rq_ret <| p_inb_ret <| p_thn_ret <| ?_
          refine p_ret0 rfl rfl (.tmp rfl <| .nil) ?_
          show vi _ = vi _
          congr 1
          simp [lCmp, *]
        · have phb11 := hb11; try simp at phb11
          refine c_skip <| p_thn <| c_seq <| c_region <| ja rfl rfl <| j_nil <| p_thn <| c_ret <| p_inb_ret <| p_thn_ret <| p_rq_ret <| p_inb_ret <| p_thn_ret <| ?_
          refine p_ret0 rfl rfl (.tmp rfl <| .nil) ?_
          show vi _ = vi _
          congr 1
          simp [lCmp, *]
      · have phb10 := hb10; try simp at phb10
        refine c_skip <| p_inb <| p_thn <| c_region <| jadd rfl rfl rfl (by first | exact wr (by omega) (by omega) | rfl) <| jm rfl rfl <| j_nil <| p_rq <| c_seq <| c_region <| jlss rfl rfl rfl <| j_nil <| p_thn <| c_seq <| c_cond_kt rfl rfl <| c_skip <| p_thn <| c_seq <| c_block <| c_seq <| c_region <| jidx (sz := 2) (r := [vi a.value, vi b.value]) rfl rfl rfl (by decide) (by decide) rfl <| jalloc (c := [vi 0, vi 0]) rfl fun B12 => jstw 0 rfl rfl rfl rfl rfl rfl rfl <| j_nil <| p_thn <| c_seq <| c_region <| jia rfl rfl rfl (by decide) (by decide) <| jld1 0 rfl rfl rfl (id rfl) <| jia rfl rfl rfl (by decide) (by decide) <| jld1 0 rfl rfl rfl (id rfl) <| jneq rfl rfl rfl <| j_nil <| p_thn <| c_cond rfl (fun hb13 => ?_) (fun hb13 => ?_)
        · have phb13 := hb13; try simp at phb13
          refine c_seq <| c_seq <| c_region <| jia rfl rfl rfl (by decide) (by decide) <| jld1 0 rfl rfl rfl (id rfl) <| jia rfl rfl rfl (by decide) (by decide) <| jld1 0 rfl rfl rfl (id rfl) <| jgtr rfl rfl rfl <| j_nil <| p_thn <| c_cond rfl (fun hb14 => ?_) (fun hb14 => ?_)
          · have phb14 := hb14; try simp at phb14
            refine c_seq <| c_region <| ja rfl rfl <| j_nil <| p_thn <| c_ret <| p_thn_ret <| p_inb_ret <| p_thn_ret <| p_rq_ret <| p_inb_ret <| p_thn_ret <| ?_
            refine p_ret0 rfl rfl (.tmp rfl <| .nil) ?_
            show vi _ = vi _
            congr 1
            simp [lCmp, *]
          · have phb14 := hb14; try simp at phb14
            refine c_skip <| p_thn <| c_seq <| c_region <| ja rfl rfl <| j_nil <| p_thn <| c_ret <| p_inb_ret <| p_thn_ret <| p_rq_ret <| p_inb_ret <| p_thn_ret <| ?_
            refine p_ret0 rfl rfl (.tmp rfl <| .nil) ?_
            show vi _ = vi _
            congr 1
            simp [lCmp, *]
        · have phb13 := hb13; try simp at phb13
          refine c_skip <| p_inb <| p_thn <| c_region <| jadd rfl rfl rfl (by first | exact wr (by omega) (by omega) | rfl) <| jm rfl rfl <| j_nil <| p_rq <| c_seq <| c_region <| jlss rfl rfl rfl <| j_nil <| p_thn <| c_seq <| c_cond_kf rfl rfl <| c_exit <| p_thn_exit <| p_rq_exit <| p_inb_exit <| p_thn <| c_seq <| c_region <| ja rfl rfl <| j_nil <| p_thn <| c_ret <| ?_
          refine p_ret0 rfl rfl (.tmp rfl <| .nil) ?_
          show vi _ = vi _
          congr 1
          simp [lCmp, *]
theorem lock_Join (a b : Lock) (M : Mem) : Ctr Tryz.prog 92 [.agg (encLock a).toArray, .agg (encLock b).toArray] M [] (fun r _ _ => r = .agg (encLock (lJoin a b)).toArray) := by
  refine ctr Tryz.func92 rfl Tryz.ntmps92 rfl fun w => ?_
  refine c_seq <| c_region <| jbox rfl rfl rfl fun B1 => jbox rfl rfl rfl fun B2 => jalloc rfl fun B3 => j_nil <| p_thn <| c_seq <| c_seq <| c_region <| jldw 2 rfl rfl rfl (len_lock _) <| jldw 1 rfl rfl rfl (len_lock _) <| jcallv rfl rfl rfl (lock_Compare _ _ _) <| jlss rfl rfl rfl <| j_nil <| p_thn <| c_cond rfl (fun hb4 => ?_) (fun hb4 => ?_)
  · have phb4 := hb4; try simp at phb4
    refine c_seq <| c_region <| jldw 1 rfl rfl rfl (len_lock _) <| jstw 0 rfl rfl rfl rfl (len_lock _) (one_lock _) (len_lock _) <| j_nil <| p_thn <| c_ret <| p_thn_ret <| ?_
    refine p_ret0 rfl rfl (.agg 0 inferInstance rfl rfl (len_lock _) <| .nil) ?_
    show Value.agg _ = _
    unfold lJoin
    rw [if_pos phb4]
  · have phb4 := hb4; try simp at phb4
    refine c_skip <| p_thn <| c_seq <| c_region <| jldw 2 rfl rfl rfl (len_lock _) <| jstw 0 rfl rfl rfl rfl (len_lock _) (one_lock _) (len_lock _) <| j_nil <| p_thn <| c_ret <| ?_
    refine p_ret0 rfl rfl (.agg 0 inferInstance rfl rfl (len_lock _) <| .nil) ?_
    show Value.agg _ = _
    unfold lJoin
    rw [if_neg (by omega)]
theorem lock_New (k n : Int) (M : Mem) : Ctr Tryz.prog 137 [vi k, vi n] M [] (fun r _ _ => r = pL (lNew k n)) := by
  refine ctr Tryz.func137 rfl Tryz.ntmps137 rfl fun w => ?_
  refine c_seq <| c_region <| jalloc rfl fun B1 => ja rfl rfl <| j_nil <| p_thn <| c_seq <| c_block <| c_seq <| c_region <| jm rfl rfl <| jcallv rfl rfl rfl (lock_is _ _) <| jnot rfl rfl <| ja rfl rfl <| j_nil <| p_thn <| c_cond rfl (fun hb2 => ?_) (fun hb2 => ?_)
  · have phb2 := hb2; try simp at phb2
    refine c_seq <| c_region <| jbu0 rfl <| jstw 0 rfl rfl rfl rfl (len_lock _) (one_lock _) (len_lock _) <| ja rfl rfl <| j_nil <| p_thn <| c_ret <| p_inb_ret <| p_thn_ret <| ?_
    refine p_ret0 rfl rfl (.agg 0 inferInstance rfl rfl (len_lock _) <| .tmp rfl <| .nil) ?_
    show pL (_, _) = pL _
    unfold lNew
    simp [*, lZ]
  · have phb2 := hb2; try simp at phb2
    refine c_seq <| c_region <| jm rfl rfl <| jcallv rfl rfl rfl (num_Is _ _) <| jnot rfl rfl <| ja rfl rfl <| j_nil <| p_thn <| c_cond rfl (fun hb3 => ?_) (fun hb3 => ?_)
    · have phb3 := hb3; try simp at phb3
      refine c_seq <| c_region <| jbu0 rfl <| jstw 0 rfl rfl rfl rfl (len_lock _) (one_lock _) (len_lock _) <| ja rfl rfl <| j_nil <| p_thn <| c_ret <| p_inb_ret <| p_thn_ret <| ?_
      refine p_ret0 rfl rfl (.agg 0 inferInstance rfl rfl (len_lock _) <| .tmp rfl <| .nil) ?_
      show pL (_, _) = pL _
      unfold lNew
      simp [*, lZ]
    · have phb3 := hb3; try simp at phb3
      refine c_skip <| p_inb <| p_thn <| c_seq <| c_region <| jm rfl rfl <| jm rfl rfl <| jbu (zc := encLock lZ) (c := encLock ⟨0, 0, k, n⟩) rfl rfl rfl <| jstw 0 rfl rfl rfl rfl (len_lock _) (one_lock _) (len_lock _) <| ja rfl rfl <| j_nil <| p_thn <| c_ret <| ?_
      refine p_ret0 rfl rfl (.agg 0 inferInstance rfl rfl (len_lock _) <| .tmp rfl <| .nil) ?_
      show pL (_, _) = pL _
      unfold lNew
      simp [*, lZ]
theorem lock_Pass (l : Lock) (i k : Int) (M : Mem) : Ctr Tryz.prog 114 [.agg (encLock l).toArray, vi i, vi k] M [] (fun r _ _ => r = pL (lPass l i k)) := by
  refine ctr Tryz.func114 rfl Tryz.ntmps114 rfl fun w => ?_
  refine c_seq <| c_region <| jbox rfl rfl rfl fun B1 => jalloc rfl fun B2 => ja rfl rfl <| j_nil <| p_thn <| c_seq <| c_block <| c_seq <| c_region <| jm rfl rfl <| jfa rfl rfl rfl <| jld1 1 rfl rfl rfl rfl <| jneq rfl rfl rfl <| ja rfl rfl <| j_nil <| p_thn <| c_cond rfl (fun hb3 => ?_) (fun hb3 => ?_)
  · have phb3 := hb3; try simp at phb3
    refine c_seq <| c_region <| jbu0 rfl <| jstw 0 rfl rfl rfl rfl (len_lock _) (one_lock _) (len_lock _) <| ja rfl rfl <| j_nil <| p_thn <| c_ret <| p_inb_ret <| p_thn_ret <| ?_
    refine p_ret0 rfl rfl (.agg 0 inferInstance rfl rfl (len_lock _) <| .tmp rfl <| .nil) ?_
    show pL (_, _) = pL _
    unfold lPass
    simp [*, lZ]
  · have phb3 := hb3; try simp at phb3
    refine c_seq <| c_region <| jm rfl rfl <| jcallv rfl rfl rfl (lock_is _ _) <| jnot rfl rfl <| ja rfl rfl <| j_nil <| p_thn <| c_cond rfl (fun hb4 => ?_) (fun hb4 => ?_)
    · have phb4 := hb4; try simp at phb4
      refine c_seq <| c_region <| jbu0 rfl <| jstw 0 rfl rfl rfl rfl (len_lock _) (one_lock _) (len_lock _) <| ja rfl rfl <| j_nil <| p_thn <| c_ret <| p_inb_ret <| p_thn_ret <| ?_
      refine p_ret0 rfl rfl (.agg 0 inferInstance rfl rfl (len_lock _) <| .tmp rfl <| .nil) ?_
      show pL (_, _) = pL _
      unfold lPass
      simp [*, lZ]
    · have phb4 := hb4; try simp at phb4
      refine c_skip <| p_inb <| p_thn <| c_seq <| c_region <| jfa rfl rfl rfl <| jld1 1 rfl rfl rfl rfl <| jcallv rfl rfl rfl (num_Add _ _ _) <| jm rfl rfl <| jext rfl rfl rfl <| jext rfl rfl rfl <| ja rfl rfl <| ja rfl rfl <| j_nil <| p_thn <| c_seq <| c_seq <| c_region <| jm rfl rfl <| jneq rfl rfl rfl <| j_nil <| p_thn <| c_cond rfl (fun hb5 => ?_) (fun hb5 => ?_)
      · have phb5 := hb5; try simp at phb5
        refine c_seq <| c_region <| jbu0 rfl <| jm rfl rfl <| jstw 0 rfl rfl rfl rfl (len_lock _) (one_lock _) (len_lock _) <| ja rfl rfl <| j_nil <| p_thn <| c_ret <| p_thn_ret <| ?_
        refine p_ret0 rfl rfl (.agg 0 inferInstance rfl rfl (len_lock _) <| .tmp rfl <| .nil) ?_
        show pL (_, _) = pL _
        unfold lPass
        simp [*, lZ]
      · have phb5 := hb5; try simp at phb5
        refine c_skip <| p_thn <| c_seq <| c_region <| jm rfl rfl <| jm rfl rfl <| jfa rfl rfl rfl <| jst 1 rfl rfl rfl rfl rfl rfl (by rw [len_lock]; exact Nat.le_of_ble_eq_true rfl) uL_seq <| jfa rfl rfl rfl <| jst 1 rfl rfl rfl rfl rfl rfl (by rw [len_lock]; exact Nat.le_of_ble_eq_true rfl) uL_ver <| jfa rfl rfl rfl <| jst 1 rfl rfl rfl rfl rfl rfl (by rw [len_lock]; exact Nat.le_of_ble_eq_true rfl) uL_holder <| j_nil <| p_thn <| c_seq <| c_region <| jldw 1 rfl rfl rfl (len_lock _) <| jstw 0 rfl rfl rfl rfl (len_lock _) (one_lock _) (len_lock _) <| ja rfl rfl <| j_nil <| p_thn <| c_ret <| ?_
        refine p_ret0 rfl rfl (.agg 0 inferInstance rfl rfl (len_lock _) <| .tmp rfl <| .nil) ?_
        show pL (_, _) = pL _
        unfold lPass
        simp [*, lZ]
theorem lock_Write (l : Lock) (i n : Int) (M : Mem) : Ctr Tryz.prog 112 [.agg (encLock l).toArray, vi i, vi n] M [] (fun r _ _ => r = pL (lWrite l i n)) := by
  refine ctr Tryz.func112 rfl Tryz.ntmps112 rfl fun w => ?_
  refine c_seq <| c_region <| jbox rfl rfl rfl fun B1 => jalloc rfl fun B2 => ja rfl rfl <| j_nil <| p_thn <| c_seq <| c_seq <| c_region <| jm rfl rfl <| jfa rfl rfl rfl <| jld1 1 rfl rfl rfl rfl <| jneq rfl rfl rfl <| j_nil <| p_thn <| c_cond rfl (fun hb3 => ?_) (fun hb3 => ?_)
  · have phb3 := hb3; try simp at phb3
    refine c_seq <| c_region <| jbu0 rfl <| jstw 0 rfl rfl rfl rfl (len_lock _) (one_lock _) (len_lock _) <| ja rfl rfl <| j_nil <| p_thn <| c_ret <| p_thn_ret <| ?_
    refine p_ret0 rfl rfl (.agg 0 inferInstance rfl rfl (len_lock _) <| .tmp rfl <| .nil) ?_
    show pL (_, _) = pL _
    unfold lWrite
    simp [*, lZ]
  · have phb3 := hb3; try simp at phb3
    refine c_skip <| p_thn <| c_seq <| c_region <| jfa rfl rfl rfl <| jld1 1 rfl rfl rfl rfl <| jcallv rfl rfl rfl (num_Add _ _ _) <| jm rfl rfl <| jext rfl rfl rfl <| jext rfl rfl rfl <| ja rfl rfl <| ja rfl rfl <| j_nil <| p_thn <| c_seq <| c_seq <| c_region <| jm rfl rfl <| jneq rfl rfl rfl <| jm rfl rfl <| jgs rfl rfl (fun hb4 => ?_) (fun hb4 => ?_)
    · have phb4 := hb4; try simp at phb4
      refine jg_off rfl rfl rfl hb4 <| jg_off rfl rfl rfl hb4 <| jg_off rfl rfl rfl hb4 <| jpick_t rfl rfl hb4 rfl <| j_nil <| p_thn <| c_cond_kt rfl rfl <| c_seq <| c_region <| jbu0 rfl <| jstw 0 rfl rfl rfl rfl (len_lock _) (one_lock _) (len_lock _) <| ja rfl rfl <| j_nil <| p_thn <| c_ret <| p_thn_ret <| ?_
      refine p_ret0 rfl rfl (.agg 0 inferInstance rfl rfl (len_lock _) <| .tmp rfl <| .nil) ?_
      show pL (_, _) = pL _
      unfold lWrite
      simp [*, lZ]
    · have phb4 := hb4; try simp at phb4
      refine jg rfl rfl hb4 <| jm rfl rfl <| jg rfl rfl hb4 <| jcallv rfl rfl rfl (num_Is _ _) <| jg rfl rfl hb4 <| jnot rfl rfl <| jpick_f rfl rfl hb4 rfl <| j_nil <| p_thn <| c_cond rfl (fun hb5 => ?_) (fun hb5 => ?_)
      · have phb5 := hb5; try simp at phb5
        refine c_seq <| c_region <| jbu0 rfl <| jstw 0 rfl rfl rfl rfl (len_lock _) (one_lock _) (len_lock _) <| ja rfl rfl <| j_nil <| p_thn <| c_ret <| p_thn_ret <| ?_
        refine p_ret0 rfl rfl (.agg 0 inferInstance rfl rfl (len_lock _) <| .tmp rfl <| .nil) ?_
        show pL (_, _) = pL _
        unfold lWrite
        simp [*, lZ]
      · have phb5 := hb5; try simp at phb5
        refine c_skip <| p_thn <| c_seq <| c_region <| jm rfl rfl <| jm rfl rfl <| jfa rfl rfl rfl <| jst 1 rfl rfl rfl rfl rfl rfl (by rw [len_lock]; exact Nat.le_of_ble_eq_true rfl) uL_ver <| jfa rfl rfl rfl <| jst 1 rfl rfl rfl rfl rfl rfl (by rw [len_lock]; exact Nat.le_of_ble_eq_true rfl) uL_value <| j_nil <| p_thn <| c_seq <| c_region <| jldw 1 rfl rfl rfl (len_lock _) <| jstw 0 rfl rfl rfl rfl (len_lock _) (one_lock _) (len_lock _) <| ja rfl rfl <| j_nil <| p_thn <| c_ret <| ?_
        refine p_ret0 rfl rfl (.agg 0 inferInstance rfl rfl (len_lock _) <| .tmp rfl <| .nil) ?_
        show pL (_, _) = pL _
        unfold lWrite
        simp [*, lZ]
end Go.Proofs.YtihgpbpcbbgdiaaGreat
