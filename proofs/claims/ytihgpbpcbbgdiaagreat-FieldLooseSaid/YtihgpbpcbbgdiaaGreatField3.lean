/- What field.Name and field.Counter tell. -/
import Derived.Test.YtihgpbpcbbgdiaaGreatField2
namespace Go.Proofs.YtihgpbpcbbgdiaaGreat
open Go.RowKit
set_option linter.unusedVariables false
set_option linter.unusedSimpArgs false
section
variable {cx : Cx} {Q : Post} {E : Env} {M : Mem} {L : List Ent} {ops : Array Oper} {d T : Nat} {pos : String} {af : Array Edge} {rest : List Oper} {x y z : Operand} {v u : Value}
theorem yixs {t : Nat} {s : ByteArray} {k : IntKind} {i : Int} {b : UInt8} (hu : cx.P.underlying t = some .string) (hx : ev E x = some (.string s)) (hy : ev E y = some (.int k i)) (h0 : 0 ≤ i) (hb : s[i.toNat]? = some b) : Y cx ⟨some d, .index t x y, T, pos, af, none⟩ E M L (.int .u8 b.toNat) := fun a w hs ho => by
  simp only [execOp, hs.ev hx, hs.ev hy, Instr.index, asIntOf, Sem.run_bind, Sem.run_pure, run_underlying hu, Result.andThen_ok, h0, if_true, hb]
theorem jixs {t : Nat} {s : ByteArray} {k : IntKind} {i : Int} {b : UInt8} (hn : Nat.blt d cx.n = true) (hu : cx.P.underlying t = some .string) (hx : ev E x = some (.string s)) (hy : ev E y = some (.int k i)) (h0 : 0 ≤ i) (hb : s[i.toNat]? = some b) (hk : J cx ops Q rest ((d, .int .u8 b.toNat) :: E) M L) :
    J cx ops Q (⟨some d, .index t x y, T, pos, af, none⟩ :: rest) E M L := j_y hn (yixs hu hx hy h0 hb) hk
end
theorem fillF {s : ByteArray} {c : Counter} : Instr.fill ([(0, 1), (1, 1), (2, 1), (3, 579), (582, 4), (586, 1)].toArray[·]?) (encF fZ none 0).toArray [(0, .string s), (1, vi 1), (3, .agg (encCounter c).toArray)] = some (encF { fZ with name := s, kind := 1, counter := c } none 0).toArray :=
  fill_put (c := [.string s]) rfl rfl rfl (by rw [len_F]; decide) (X' := encF { fZ with name := s } none 0) rfl <|
  fill_put (c := [vi 1]) rfl rfl rfl (by rw [len_F]; decide) (X' := encF { fZ with name := s, kind := 1 } none 0) rfl <|
  fill_put (c := encCounter c) rfl rfl (len_counter _) (by rw [len_F]; decide) (X' := encF { fZ with name := s, kind := 1, counter := c } none 0) (uF_counter _ _ _ _) fill_end
@[irreducible] def bAt (s : ByteArray) (i : Nat) : UInt8 := s.data.getD i 0
theorem bAt_get {s : ByteArray} {i : Nat} (h : i < s.size) : s[i]? = some (bAt s i) := by
  have h1 : s[i]? = some s[i] := by rw [getElem?_pos s i h]
  rw [h1]; unfold bAt
  congr 1
  have h2 : i < s.data.size := h
  rw [Array.getD, dif_pos h2]; rfl
def okB (s : ByteArray) (i : Nat) : Bool := decide (33 ≤ ((bAt s i).toNat : Int)) && decide (((bAt s i).toNat : Int) ≤ 126)
def nameOk (s : ByteArray) : Bool := (List.range s.size).all (okB s) && decide (1 ≤ s.size) && decide (s.size ≤ 8)

theorem field_Name (s : ByteArray) (hs : s.size ≤ 100000) (M : Mem) : Ctr Tryz.prog 61 [.string s] M [] (fun r _ _ => r = .bool (nameOk s)) := by
  refine ctr Tryz.func61 rfl Tryz.ntmps61 rfl fun w => ?_
  refine c_seq <| c_region <| ja rfl rfl <| j_nil <| p_thn <| c_seq <| c_seq <| c_region <| jm rfl rfl <| jslen rfl rfl Tryz.underlying9 <| jm rfl rfl <| j_nil <| p_thn <| c_block <| c_lp (X := Nat) (fun k => k ≤ s.size ∧ (List.range k).all (okB s) = true) (fun k => s.size - k) (fun k => [(6, vi (k : Int))]) [5, 0] 0 ?_ (sub_c rfl <| sub_c rfl <| sub_c rfl <| sub_n) ?_
  · exact ⟨Nat.zero_le _, rfl⟩
  · intro k hI
    obtain ⟨hk, hall⟩ := hI
    refine c_seq <| c_region <| jlss rfl rfl rfl <| j_nil <| p_thn <| c_seq <| c_cond rfl (fun hb1 => ?_) (fun hb1 => ?_)
    · have phb1 := hb1; try simp at phb1
      refine c_skip <| p_thn <| c_seq <| c_block <| c_seq <| c_region <| jm rfl rfl <| ja rfl rfl <| j_nil <| p_thn <| c_seq <| c_region <| jm rfl rfl <| jm rfl rfl <| jixs rfl Tryz.underlying9 rfl rfl (by omega) (bAt_get (i := k) (by omega)) <| jlss rfl rfl rfl <| jm rfl rfl <| jgs rfl rfl (fun hb2 => ?_) (fun hb2 => ?_)
      · have phb2 := hb2; try simp at phb2
        refine jg_off rfl rfl rfl hb2 <| jg_off rfl rfl rfl hb2 <| jg_off rfl rfl rfl hb2 <| jg_off rfl rfl rfl hb2 <| jpick_t rfl rfl hb2 rfl <| j_nil <| p_thn <| c_cond_kt rfl rfl <| c_seq <| c_region <| ja rfl rfl <| j_nil <| p_thn <| c_ret <| p_inb_ret <| p_thn_ret <| p_lp_ret <| p_inb_ret <| p_thn_ret <| ?_
        refine p_ret0 rfl rfl (.tmp rfl <| .nil) ?_
        show Value.bool _ = _
        congr 1; symm
        unfold nameOk
        rw [range_not (k := k) (by omega) (by simp [okB] <;> omega), Bool.false_and, Bool.false_and]
      · have phb2 := hb2; try simp at phb2
        refine jg rfl rfl hb2 <| jm rfl rfl <| jg rfl rfl hb2 <| jm rfl rfl <| jg rfl rfl hb2 <| jixs rfl Tryz.underlying9 rfl rfl (by omega) (bAt_get (i := k) (by omega)) <| jg rfl rfl hb2 <| jgtr rfl rfl rfl <| jpick_f rfl rfl hb2 rfl <| j_nil <| p_thn <| c_cond rfl (fun hb3 => ?_) (fun hb3 => ?_)
        · have phb3 := hb3; try simp at phb3
          refine c_seq <| c_region <| ja rfl rfl <| j_nil <| p_thn <| c_ret <| p_inb_ret <| p_thn_ret <| p_lp_ret <| p_inb_ret <| p_thn_ret <| ?_
          refine p_ret0 rfl rfl (.tmp rfl <| .nil) ?_
          show Value.bool _ = _
          congr 1; symm
          unfold nameOk
          rw [range_not (k := k) (by omega) (by simp [okB] <;> omega), Bool.false_and, Bool.false_and]
        · have phb3 := hb3; try simp at phb3
          refine c_skip <| p_inb <| p_thn <| c_region <| jadd rfl rfl rfl (by first | exact wr (by omega) (by omega) | rfl) <| jm rfl rfl <| j_nil <| ?_
          refine p_lp (k + 1) ?_ ?_ (sub_c rfl <| sub_c rfl <| sub_c rfl <| sub_n) rfl rfl
          · exact ⟨by omega, range_all hall (by simp [okB, *])⟩
          · omega
    · have phb1 := hb1; try simp at phb1
      refine c_exit <| p_thn_exit <| p_lp_exit <| p_inb_exit <| p_thn <| c_seq <| c_region <| jm rfl rfl <| jslen rfl rfl Tryz.underlying9 <| jgeq rfl rfl rfl <| jm rfl rfl <| jgs rfl rfl (fun hb4 => ?_) (fun hb4 => ?_)
      · have phb4 := hb4; try simp at phb4
        refine jg rfl rfl hb4 <| jm rfl rfl <| jg rfl rfl hb4 <| jslen rfl rfl Tryz.underlying9 <| jg rfl rfl hb4 <| jleq rfl rfl rfl <| jpick_t rfl rfl hb4 rfl <| ja rfl rfl <| j_nil <| p_thn <| c_ret <| ?_
        refine p_ret0 rfl rfl (.tmp rfl <| .nil) ?_
        show Value.bool _ = _
        congr 1; symm
        obtain rfl : k = s.size := by omega
        unfold nameOk
        rw [hall, Bool.true_and, decide_eq_true (show 1 ≤ s.size by omega), Bool.true_and]
        exact decide_eq_decide.2 (by omega)
      · have phb4 := hb4; try simp at phb4
        refine jg_off rfl rfl rfl hb4 <| jg_off rfl rfl rfl hb4 <| jg_off rfl rfl rfl hb4 <| jpick_f rfl rfl hb4 rfl <| ja rfl rfl <| j_nil <| p_thn <| c_ret <| ?_
        refine p_ret0 rfl rfl (.tmp rfl <| .nil) ?_
        show Value.bool _ = _
        congr 1; symm
        obtain rfl : k = s.size := by omega
        unfold nameOk
        rw [hall]; simp <;> omega
def fCounter (s : ByteArray) (i l h : Int) : Field × Int := fDone { fZ with name := s, kind := 1, counter := (cNew i l h).1 } (if nameOk s then (cNew i l h).2 else 1)
attribute [local irreducible] fDone nameOk

theorem field_Counter (s : ByteArray) (hs : s.size ≤ 100000) (i l h : Int) (M : Mem) : Ctr Tryz.prog 22 [.string s, vi i, vi l, vi h] M [] (fun v M' _ => FV M' v (fCounter s i l h)) := by
  refine ctr Tryz.func22 rfl Tryz.ntmps22 rfl fun w => ?_
  refine c_seq <| c_region <| jalloc rfl fun B1 => ja rfl rfl <| j_nil <| p_thn <| c_seq <| c_region <| jm rfl rfl <| jm rfl rfl <| jm rfl rfl <| jcallv rfl rfl rfl (counter_New _ _ _ _) <| jm rfl rfl <| jext rfl rfl rfl <| jext rfl rfl rfl <| jalloc rfl fun B2 => jstw 0 rfl rfl rfl rfl (len_counter _) (one_counter _) (len_counter _) <| ja rfl rfl <| j_nil <| p_thn <| c_seq <| c_seq <| c_region <| jm rfl rfl <| jcallv rfl rfl rfl (field_Name _ hs _) <| jnot rfl rfl <| j_nil <| p_thn <| c_cond rfl (fun hb3 => ?_) (fun hb3 => ?_)
  · have phb3 := hb3; try simp at phb3
    refine c_region <| ja rfl rfl <| j_nil <| p_thn <| c_seq <| c_region <| jm rfl rfl <| jldw 0 rfl rfl rfl (len_counter _) <| jbu (zc := encF fZ none 0) rfl rfl fillF <| jm rfl rfl <| jcalls rfl rfl rfl (field_done { fZ with name := s, kind := 1, counter := (cNew i l h).1 } _ _ (Nat.zero_le _) _ _ SlR.nil) fun A1c cap1c M1c hM1c hS1c => jext rfl rfl rfl <| jext rfl rfl rfl <| jstw 1 rfl rfl rfl rfl (len_F _ _ _) (one_F _ _ _) (len_F _ _ _) <| ja rfl rfl <| j_nil <| p_thn <| c_ret <| ?_
    refine p_ret0 rfl rfl (.agg 1 inferInstance rfl rfl (len_F _ _ _) <| .tmp rfl <| .nil) ?_
    unfold fCounter
    rw [if_neg (by simp [*])]
    exact ⟨A1c, cap1c, hS1c, rfl⟩
  · have phb3 := hb3; try simp at phb3
    refine c_skip <| p_thn <| c_seq <| c_region <| jm rfl rfl <| jldw 0 rfl rfl rfl (len_counter _) <| jbu (zc := encF fZ none 0) rfl rfl fillF <| jm rfl rfl <| jcalls rfl rfl rfl (field_done { fZ with name := s, kind := 1, counter := (cNew i l h).1 } _ _ (Nat.zero_le _) _ _ SlR.nil) fun A2c cap2c M2c hM2c hS2c => jext rfl rfl rfl <| jext rfl rfl rfl <| jstw 1 rfl rfl rfl rfl (len_F _ _ _) (one_F _ _ _) (len_F _ _ _) <| ja rfl rfl <| j_nil <| p_thn <| c_ret <| ?_
    refine p_ret0 rfl rfl (.agg 1 inferInstance rfl rfl (len_F _ _ _) <| .tmp rfl <| .nil) ?_
    unfold fCounter
    rw [if_pos (by simp [*])]
    exact ⟨A2c, cap2c, hS2c, rfl⟩
end Go.Proofs.YtihgpbpcbbgdiaaGreat
