/- Several texts in one. -/
import Derived.Test.YtihgpbpcbbgdiaaGreatOrd23
/- plan.made, plan.change. -/
namespace Go.Proofs.YtihgpbpcbbgdiaaGreat
open Go.RowKit
set_option linter.unusedVariables false
set_option linter.unusedSimpArgs false
abbrev w64 (n : Int) : Int := IntKind.i64.wrap n
def plMade (s : ByteArray) (ep v lo hi : Int) : Field × Int :=
  if isN ep && isN v && isN lo && isN hi && isN (w64 (hi - lo)) then (if (cNew v lo hi).2 ≠ 0 then (fZ, 14) else ({ fZ with name := s, kind := 1, epoch := ep, counter := (cNew v lo hi).1 }, 0)) else (fZ, 2)
theorem fillFm {s : ByteArray} {ep : Int} {c : Counter} : Instr.fill ([(0, 1), (1, 1), (2, 1), (3, 579), (582, 4), (586, 1)].toArray[·]?) (encF fZ none 0).toArray [(0, .string s), (1, vi 1), (2, vi ep), (3, .agg (encCounter c).toArray)] = some (encF { fZ with name := s, kind := 1, epoch := ep, counter := c } none 0).toArray :=
  fill_put (c := [.string s]) rfl rfl rfl (by rw [len_F]; decide) (X' := encF { fZ with name := s } none 0) rfl <|
  fill_put (c := [vi 1]) rfl rfl rfl (by rw [len_F]; decide) (X' := encF { fZ with name := s, kind := 1 } none 0) rfl <|
  fill_put (c := [vi ep]) rfl rfl rfl (by rw [len_F]; decide) (X' := encF { fZ with name := s, kind := 1, epoch := ep } none 0) rfl <|
  fill_put (c := encCounter c) rfl rfl (len_counter _) (by rw [len_F]; decide) (X' := encF { fZ with name := s, kind := 1, epoch := ep, counter := c } none 0) (uF_counter _ _ _ _) fill_end
theorem fillFl {s : ByteArray} {ep : Int} {k : Lock} : Instr.fill ([(0, 1), (1, 1), (2, 1), (3, 579), (582, 4), (586, 1)].toArray[·]?) (encF fZ none 0).toArray [(0, .string s), (1, vi 2), (2, vi ep), (4, .agg (encLock k).toArray)] = some (encF { fZ with name := s, kind := 2, epoch := ep, lock := k } none 0).toArray :=
  fill_put (c := [.string s]) rfl rfl rfl (by rw [len_F]; decide) (X' := encF { fZ with name := s } none 0) rfl <|
  fill_put (c := [vi 2]) rfl rfl rfl (by rw [len_F]; decide) (X' := encF { fZ with name := s, kind := 2 } none 0) rfl <|
  fill_put (c := [vi ep]) rfl rfl rfl (by rw [len_F]; decide) (X' := encF { fZ with name := s, kind := 2, epoch := ep } none 0) rfl <|
  fill_put (c := encLock k) rfl rfl (len_lock _) (by rw [len_F]; decide) (X' := encF { fZ with name := s, kind := 2, epoch := ep, lock := k } none 0) (uF_lock _ _ _ _) fill_end
abbrev bare (f : Field) : FS := ⟨f, none, 0⟩
def plChange (f g : Field) (p : Plan) : List Field × Int :=
  if (fView f).2 ≠ 0 ∨ ((fView g).2 ≠ 0 ∧ p.kind = 6) then ([], 2) else
  if p.kind = 1 then ([(plMade f.name (w64 (f.epoch + 1)) (fView f).1 (w64 (f.counter.low + p.a)) (w64 (f.counter.high - p.b))).1], (plMade f.name (w64 (f.epoch + 1)) (fView f).1 (w64 (f.counter.low + p.a)) (w64 (f.counter.high - p.b))).2) else
  if p.kind = 2 then ([(plMade f.name (w64 (f.epoch + 1)) (fView f).1 (w64 (f.counter.low - p.a)) (w64 (f.counter.high + p.b))).1], (plMade f.name (w64 (f.epoch + 1)) (fView f).1 (w64 (f.counter.low - p.a)) (w64 (f.counter.high + p.b))).2) else
  if p.kind = 4 then ([(plMade f.name (w64 (f.epoch + 1)) (fView f).1 p.a p.b).1], (plMade f.name (w64 (f.epoch + 1)) (fView f).1 p.a p.b).2) else
  if p.kind = 6 then ([(plMade f.name (w64 (max f.epoch g.epoch + 1)) (w64 ((fView f).1 + (fView g).1)) (w64 (f.counter.low + g.counter.low)) (w64 (f.counter.high + g.counter.high))).1], (plMade f.name (w64 (max f.epoch g.epoch + 1)) (w64 ((fView f).1 + (fView g).1)) (w64 (f.counter.low + g.counter.low)) (w64 (f.counter.high + g.counter.high))).2) else
  if p.kind = 5 then
    (if (plMade p.other (w64 (f.epoch + 1)) (max 0 (w64 ((fView f).1 - w64 (f.counter.high - p.a)))) 0 p.a).2 ≠ 0 then ([], (plMade p.other (w64 (f.epoch + 1)) (max 0 (w64 ((fView f).1 - w64 (f.counter.high - p.a)))) 0 p.a).2)
     else ([(plMade f.name (w64 (f.epoch + 1)) (w64 ((fView f).1 - max 0 (w64 ((fView f).1 - w64 (f.counter.high - p.a))))) f.counter.low (w64 (f.counter.high - p.a))).1, (plMade p.other (w64 (f.epoch + 1)) (max 0 (w64 ((fView f).1 - w64 (f.counter.high - p.a)))) 0 p.a).1],
       (plMade f.name (w64 (f.epoch + 1)) (w64 ((fView f).1 - max 0 (w64 ((fView f).1 - w64 (f.counter.high - p.a))))) f.counter.low (w64 (f.counter.high - p.a))).2)) else
  if (lNew 0 (fView f).1).2 ≠ 0 ∨ isN (w64 (f.epoch + 1)) = false then ([], 2) else ([{ fZ with name := f.name, kind := 2, epoch := w64 (f.epoch + 1), lock := (lNew 0 (fView f).1).1 }], 0)

theorem plan_made (s : ByteArray) (ep v lo hi : Int) (M : Mem) : Ctr Tryz.prog 136 [.string s, vi ep, vi v, vi lo, vi hi] M [] (fun r _ _ => r = .tuple #[.agg (encF (plMade s ep v lo hi).1 none 0).toArray, vi (plMade s ep v lo hi).2]) := by
  refine ctr Tryz.func136 rfl Tryz.ntmps136 rfl fun w => ?_
  refine c_seq <| c_region <| jalloc rfl fun B1 => ja rfl rfl <| j_nil <| p_thn <| c_seq <| c_seq <| c_region <| jm rfl rfl <| jm rfl rfl <| jm rfl rfl <| jm rfl rfl <| jm rfl rfl <| jm rfl rfl <| jsub rfl rfl rfl rfl <| jbsl (vs := [_, _, _, _, _]) [_, _, _, _, _] rfl rfl rfl (by simp) rfl rfl (by decide) (by decide) fun B2 => jlen rfl rfl <| jm rfl rfl <| j_nil <| p_thn <| c_block <| c_unr 5 <| c_seq <| c_region <| jlss rfl rfl rfl <| j_nil <| p_thn <| c_seq <| c_cond_kt rfl rfl <| c_skip <| p_thn <| c_seq <| c_block <| c_seq <| c_region <| jis rfl rfl rfl (by decide) (by decide) <| jld1 0 rfl rfl rfl rfl <| ja rfl rfl <| j_nil <| p_thn <| c_seq <| c_region <| jm rfl rfl <| jcallv rfl rfl rfl (num_Is _ _) <| jnot rfl rfl <| j_nil <| p_thn <| c_cond rfl (fun hb3 => ?_) (fun hb3 => ?_)
  · have phb3 := hb3; try simp at phb3
    refine c_seq <| c_region <| jbu0 rfl <| jstw 1 rfl rfl rfl rfl (len_F _ _ _) (one_F _ _ _) (len_F _ _ _) <| ja rfl rfl <| j_nil <| p_thn <| c_ret <| p_inb_ret <| p_thn_ret <| p_rq_ret <| p_inb_ret <| p_thn_ret <| ?_
    refine p_ret0 rfl rfl (.agg 1 inferInstance rfl rfl (len_F _ _ _) <| .tmp rfl <| .nil) ?_
    show Value.tuple #[_, _] = _
    unfold plMade
    simp [*]
  · have phb3 := hb3; try simp at phb3
    refine c_skip <| p_inb <| p_thn <| c_region <| jadd rfl rfl rfl rfl <| jm rfl rfl <| j_nil <| p_rq <| c_seq <| c_region <| jlss rfl rfl rfl <| j_nil <| p_thn <| c_seq <| c_cond_kt rfl rfl <| c_skip <| p_thn <| c_seq <| c_block <| c_seq <| c_region <| jis rfl rfl rfl (by decide) (by decide) <| jld1 0 rfl rfl rfl rfl <| ja rfl rfl <| j_nil <| p_thn <| c_seq <| c_region <| jm rfl rfl <| jcallv rfl rfl rfl (num_Is _ _) <| jnot rfl rfl <| j_nil <| p_thn <| c_cond rfl (fun hb4 => ?_) (fun hb4 => ?_)
    · have phb4 := hb4; try simp at phb4
      refine c_seq <| c_region <| jbu0 rfl <| jstw 1 rfl rfl rfl rfl (len_F _ _ _) (one_F _ _ _) (len_F _ _ _) <| ja rfl rfl <| j_nil <| p_thn <| c_ret <| p_inb_ret <| p_thn_ret <| p_rq_ret <| p_inb_ret <| p_thn_ret <| ?_
      refine p_ret0 rfl rfl (.agg 1 inferInstance rfl rfl (len_F _ _ _) <| .tmp rfl <| .nil) ?_
      show Value.tuple #[_, _] = _
      unfold plMade
      simp [*]
    · have phb4 := hb4; try simp at phb4
      refine c_skip <| p_inb <| p_thn <| c_region <| jadd rfl rfl rfl rfl <| jm rfl rfl <| j_nil <| p_rq <| c_seq <| c_region <| jlss rfl rfl rfl <| j_nil <| p_thn <| c_seq <| c_cond_kt rfl rfl <| c_skip <| p_thn <| c_seq <| c_block <| c_seq <| c_region <| jis rfl rfl rfl (by decide) (by decide) <| jld1 0 rfl rfl rfl rfl <| ja rfl rfl <| j_nil <| p_thn <| c_seq <| c_region <| jm rfl rfl <| jcallv rfl rfl rfl (num_Is _ _) <| jnot rfl rfl <| j_nil <| p_thn <| c_cond rfl (fun hb5 => ?_) (fun hb5 => ?_)
      · have phb5 := hb5; try simp at phb5
        refine c_seq <| c_region <| jbu0 rfl <| jstw 1 rfl rfl rfl rfl (len_F _ _ _) (one_F _ _ _) (len_F _ _ _) <| ja rfl rfl <| j_nil <| p_thn <| c_ret <| p_inb_ret <| p_thn_ret <| p_rq_ret <| p_inb_ret <| p_thn_ret <| ?_
        refine p_ret0 rfl rfl (.agg 1 inferInstance rfl rfl (len_F _ _ _) <| .tmp rfl <| .nil) ?_
        show Value.tuple #[_, _] = _
        unfold plMade
        simp [*]
      · have phb5 := hb5; try simp at phb5
        refine c_skip <| p_inb <| p_thn <| c_region <| jadd rfl rfl rfl rfl <| jm rfl rfl <| j_nil <| p_rq <| c_seq <| c_region <| jlss rfl rfl rfl <| j_nil <| p_thn <| c_seq <| c_cond_kt rfl rfl <| c_skip <| p_thn <| c_seq <| c_block <| c_seq <| c_region <| jis rfl rfl rfl (by decide) (by decide) <| jld1 0 rfl rfl rfl rfl <| ja rfl rfl <| j_nil <| p_thn <| c_seq <| c_region <| jm rfl rfl <| jcallv rfl rfl rfl (num_Is _ _) <| jnot rfl rfl <| j_nil <| p_thn <| c_cond rfl (fun hb6 => ?_) (fun hb6 => ?_)
        · have phb6 := hb6; try simp at phb6
          refine c_seq <| c_region <| jbu0 rfl <| jstw 1 rfl rfl rfl rfl (len_F _ _ _) (one_F _ _ _) (len_F _ _ _) <| ja rfl rfl <| j_nil <| p_thn <| c_ret <| p_inb_ret <| p_thn_ret <| p_rq_ret <| p_inb_ret <| p_thn_ret <| ?_
          refine p_ret0 rfl rfl (.agg 1 inferInstance rfl rfl (len_F _ _ _) <| .tmp rfl <| .nil) ?_
          show Value.tuple #[_, _] = _
          unfold plMade
          simp [*]
        · have phb6 := hb6; try simp at phb6
          refine c_skip <| p_inb <| p_thn <| c_region <| jadd rfl rfl rfl rfl <| jm rfl rfl <| j_nil <| p_rq <| c_seq <| c_region <| jlss rfl rfl rfl <| j_nil <| p_thn <| c_seq <| c_cond_kt rfl rfl <| c_skip <| p_thn <| c_seq <| c_block <| c_seq <| c_region <| jis rfl rfl rfl (by decide) (by decide) <| jld1 0 rfl rfl rfl rfl <| ja rfl rfl <| j_nil <| p_thn <| c_seq <| c_region <| jm rfl rfl <| jcallv rfl rfl rfl (num_Is _ _) <| jnot rfl rfl <| j_nil <| p_thn <| c_cond rfl (fun hb7 => ?_) (fun hb7 => ?_)
          · have phb7 := hb7; try simp at phb7
            refine c_seq <| c_region <| jbu0 rfl <| jstw 1 rfl rfl rfl rfl (len_F _ _ _) (one_F _ _ _) (len_F _ _ _) <| ja rfl rfl <| j_nil <| p_thn <| c_ret <| p_inb_ret <| p_thn_ret <| p_rq_ret <| p_inb_ret <| p_thn_ret <| ?_
            refine p_ret0 rfl rfl (.agg 1 inferInstance rfl rfl (len_F _ _ _) <| .tmp rfl <| .nil) ?_
            show Value.tuple #[_, _] = _
            unfold plMade
            simp [*]
          · have phb7 := hb7; try simp at phb7
            refine c_skip <| p_inb <| p_thn <| c_region <| jadd rfl rfl rfl rfl <| jm rfl rfl <| j_nil <| p_rq <| c_seq <| c_region <| jlss rfl rfl rfl <| j_nil <| p_thn <| c_seq <| c_cond_kf rfl rfl <| c_exit <| p_thn_exit <| p_rq_exit <| p_inb_exit <| p_thn <| c_seq <| c_region <| jm rfl rfl <| jm rfl rfl <| jm rfl rfl <| jcallv rfl rfl rfl (counter_New _ _ _ _) <| jm rfl rfl <| jext rfl rfl rfl <| jext rfl rfl rfl <| jalloc rfl fun B8 => jstw 0 rfl rfl rfl rfl (len_counter _) (one_counter _) (len_counter _) <| ja rfl rfl <| j_nil <| p_thn <| c_seq <| c_seq <| c_region <| jm rfl rfl <| jneq rfl rfl rfl <| j_nil <| p_thn <| c_cond rfl (fun hb9 => ?_) (fun hb9 => ?_)
            · have phb9 := hb9; try simp at phb9
              refine c_seq <| c_region <| jbu0 rfl <| jstw 2 rfl rfl rfl rfl (len_F _ _ _) (one_F _ _ _) (len_F _ _ _) <| ja rfl rfl <| j_nil <| p_thn <| c_ret <| p_thn_ret <| ?_
              refine p_ret0 rfl rfl (.agg 2 inferInstance rfl rfl (len_F _ _ _) <| .tmp rfl <| .nil) ?_
              show Value.tuple #[_, _] = _
              unfold plMade
              simp [*]
            · have phb9 := hb9; try simp at phb9
              refine c_skip <| p_thn <| c_seq <| c_region <| jm rfl rfl <| jm rfl rfl <| jldw 0 rfl rfl rfl (len_counter _) <| jbu (zc := encF fZ none 0) rfl rfl fillFm <| jstw 2 rfl rfl rfl rfl (len_F _ _ _) (one_F _ _ _) (len_F _ _ _) <| ja rfl rfl <| j_nil <| p_thn <| c_ret <| ?_
              refine p_ret0 rfl rfl (.agg 2 inferInstance rfl rfl (len_F _ _ _) <| .tmp rfl <| .nil) ?_
              show Value.tuple #[_, _] = _
              unfold plMade
              simp [*]
theorem jp_blkrow {cx : Cx} {Q : Post} {E : Env} {M : Mem} {L : List Ent} {e : Exit} {B T sz n : Nat} {c : List Value} (hc : c.length = n * sz) (h0 : 0 < n) (hk : JP cx Q e E M (.row (.slice (some ⟨B, 0, none⟩) n n) T sz n c :: L)) : JP cx Q e E M (.blk B T c :: L) := fun a w hs ho => by
  have key : JC cx .skip (fun e' a w => e' = .normal → Q e a w) E M (.blk B T c :: L) := jc_blkrow hc h0 (c_skip fun a w hs ho _ => hk a w hs ho)
  have hB : w.heap[B]? = some (.cells c.toArray T (0, 0)) := ho.at' (i := 0) rfl
  exact hk a w hs (ho.alter (by simp [Ent.bs]; omega) ⟨hc, .inr ⟨B, n, [], rfl, h0, Nat.le_refl _, by simp, by simpa using hB⟩⟩)
theorem chg_ret {f g : Field} {p : Plan} {xs : List Field} {e e' : Int} {u : Value} {n : Nat} {c : List Value} (h : plChange f g p = (xs, e)) (he : e' = e) (hn : n = xs.length) (hc : c = (xs.map bare).flatMap encS) :
    ∃ u' : Value, True ∧ Value.tuple #[u, vi e'] = .tuple #[u', vi (plChange f g p).2] ∧ [Ent.row u 49 587 n c] = [.row u' 49 587 (plChange f g p).1.length (((plChange f g p).1.map bare).flatMap encS)] := by
  rw [h]; subst he hn hc; exact ⟨u, trivial, rfl, rfl⟩
attribute [local irreducible] plMade fView

theorem plan_change1 (f : Field) (A : Option Addr) (cap : Nat) (ep v lo hi : Int) {X Y : Nat} (M : Mem) : Ctr Tryz.prog 135 [vi v, vi lo, vi hi, .pointer (some ⟨X, 0, none⟩), .pointer (some ⟨Y, 0, none⟩)] M [.blk X 49 (encF f A cap), .blk Y 3 [vi ep]] (fun r _ L' => ∃ B : Nat, True ∧ r = .tuple #[.slice (some ⟨B, 0, none⟩) 1 1, vi (plMade f.name ep v lo hi).2] ∧ L' = [.blk B 49 (encF (plMade f.name ep v lo hi).1 none 0), .blk X 49 (encF f A cap), .blk Y 3 [vi ep]]) := by
  refine ctr Tryz.func135 rfl Tryz.ntmps135 rfl fun w => ?_
  refine c_seq <| c_region <| ja rfl rfl <| ja rfl rfl <| j_nil <| p_thn <| c_seq <| c_region <| jfa rfl rfl rfl <| jld1 0 rfl rfl rfl rfl <| jld1 1 rfl rfl rfl rfl <| jm rfl rfl <| jm rfl rfl <| jm rfl rfl <| jcallv rfl rfl rfl (plan_made _ _ _ _ _ _) <| jm rfl rfl <| jext rfl rfl rfl <| jext rfl rfl rfl <| jalloc rfl fun B1 => jstw 0 rfl rfl rfl rfl (len_F _ _ _) (one_F _ _ _) (len_F _ _ _) <| ja rfl rfl <| j_nil <| p_thn <| c_seq <| c_region <| jldw 0 rfl rfl rfl (len_F _ _ _) <| jbsl (vs := [_]) [_] rfl rfl rfl (by simp [len_F]) rfl (len_F _ _ _) (by decide) (by decide) fun B2 => jm rfl rfl <| ja rfl rfl <| ja rfl rfl <| j_nil <| p_thn <| c_ret <| ?_
  refine jp_perm (fr_s <| fr_s <| fr_s <| fr_0) <| jp_perm (fr_s <| fr_s <| fr_s <| fr_0) <| jp_perm (fr_s <| fr_s <| fr_0) <| ?_
  refine p_retK (ap_s <| ap_s <| ap_s <| ap_0) rfl rfl (.tmp rfl <| .tmp rfl <| .nil) ?_
  exact ⟨_, trivial, rfl, by simp⟩
theorem plan_change (f g : Field) (A : Option Addr) (cap : Nat) (A2 : Option Addr) (cap2 : Nat) (p : Plan) (M : Mem) : Ctr Tryz.prog 93 [.agg (encF f A cap).toArray, .agg (encF g A2 cap2).toArray, .agg (encPlan p).toArray] M [] (fun r _ L' => ∃ u : Value, True ∧ r = .tuple #[u, vi (plChange f g p).2] ∧ L' = [.row u 49 587 (plChange f g p).1.length (((plChange f g p).1.map bare).flatMap encS)]) := by
  refine ctr Tryz.func93 rfl Tryz.ntmps93 rfl fun w => ?_
  refine c_seq <| c_region <| jbox rfl rfl rfl fun B1 => jbox rfl rfl rfl fun B2 => jbox rfl rfl rfl fun B3 => ja rfl rfl <| ja rfl rfl <| j_nil <| p_thn <| c_seq <| c_region <| jldw 2 rfl rfl rfl (len_F _ _ _) <| jcallv rfl rfl rfl (field_View _ _ _ _) <| jm rfl rfl <| jext rfl rfl rfl <| jext rfl rfl rfl <| ja rfl rfl <| ja rfl rfl <| j_nil <| p_thn <| c_seq <| c_region <| jldw 1 rfl rfl rfl (len_F _ _ _) <| jcallv rfl rfl rfl (field_View _ _ _ _) <| jm rfl rfl <| jext rfl rfl rfl <| jext rfl rfl rfl <| ja rfl rfl <| ja rfl rfl <| j_nil <| p_thn <| c_seq <| c_seq <| c_region <| jm rfl rfl <| jneq rfl rfl rfl <| jm rfl rfl <| jgs rfl rfl (fun hb4 => ?_) (fun hb4 => ?_)
  · have phb4 := hb4; try simp at phb4
    refine jg_off rfl rfl rfl hb4 <| jg_off rfl rfl rfl hb4 <| jg_off rfl rfl rfl hb4 <| jg_u rfl rfl rfl <| jg_u rfl rfl rfl <| jg_u rfl rfl rfl <| jg_off rfl rfl rfl hb4 <| jpick_t rfl rfl hb4 rfl <| j_nil <| p_thn <| c_cond_kt rfl rfl <| c_seq <| c_region <| ja rfl rfl <| ja rfl rfl <| j_nil <| p_thn <| c_ret <| p_thn_ret <| ?_
    refine jp_nilrow none 49 587 <| ?_
    refine p_retK (ap_s <| ap_0) rfl rfl (.tmp rfl <| .tmp rfl <| .nil) ?_
    exact chg_ret (xs := []) (by unfold plChange; simp [*]) rfl rfl (by simp)
  · have phb4 := hb4; try simp at phb4
    refine jg rfl rfl hb4 <| jm rfl rfl <| jg rfl rfl hb4 <| jneq rfl rfl rfl <| jg rfl rfl hb4 <| jm rfl rfl <| jgs rfl rfl (fun hb5 => ?_) (fun hb5 => ?_)
    · have phb5 := hb5; try simp at phb5
      refine jg rfl rfl hb5 <| jfa rfl rfl rfl <| jg rfl rfl hb5 <| jld1 0 rfl rfl rfl rfl <| jg rfl rfl hb5 <| jeql rfl rfl rfl <| jg rfl rfl hb4 <| jpick_t rfl rfl hb5 rfl <| jpick_f rfl rfl hb4 rfl <| j_nil <| p_thn <| c_cond rfl (fun hb6 => ?_) (fun hb6 => ?_)
      · have phb6 := hb6; try simp at phb6
        refine c_seq <| c_region <| ja rfl rfl <| ja rfl rfl <| j_nil <| p_thn <| c_ret <| p_thn_ret <| ?_
        refine jp_nilrow none 49 587 <| ?_
        refine p_retK (ap_s <| ap_0) rfl rfl (.tmp rfl <| .tmp rfl <| .nil) ?_
        exact chg_ret (xs := []) (by unfold plChange; simp [*]) rfl rfl (by simp)
      · have phb6 := hb6; try simp at phb6
        refine c_skip <| p_thn <| c_seq <| c_draw [2, 5, 7, 8] (by kernel_rfl) <| jd_z (i := 0) rfl rfl (by kernel_rfl) (by kernel_rfl) (by kernel_rfl) (by kernel_rfl) rfl (zfa rfl rfl) <| jd_z (i := 1) rfl rfl (by kernel_rfl) (by kernel_rfl) (by kernel_rfl) (by kernel_rfl) rfl (zfa rfl rfl) <| jd_first (i := 2) rfl rfl (by kernel_rfl) (by kernel_rfl) (by kernel_rfl) (by kernel_rfl) (by kernel_rfl) rfl (fun _ h => h) (yld1 2 rfl rfl (pF_low _ _ _)) <| jd_z (i := 3) rfl rfl (by kernel_rfl) (by kernel_rfl) (by kernel_rfl) (by kernel_rfl) rfl (zfa rfl rfl) <| jd_z (i := 4) rfl rfl (by kernel_rfl) (by kernel_rfl) (by kernel_rfl) (by kernel_rfl) rfl (zfa rfl rfl) <| jd_first (i := 5) rfl rfl (by kernel_rfl) (by kernel_rfl) (by kernel_rfl) (by kernel_rfl) (by kernel_rfl) rfl (fun _ h => h) (yld1 2 rfl rfl (pF_high _ _ _)) <| jd_z (i := 6) rfl rfl (by kernel_rfl) (by kernel_rfl) (by kernel_rfl) (by kernel_rfl) rfl (zfa rfl rfl) <| jd_first (i := 7) rfl rfl (by kernel_rfl) (by kernel_rfl) (by kernel_rfl) (by kernel_rfl) (by kernel_rfl) rfl (fun _ h => h) (yld1 2 rfl rfl rfl) <| jd_first (i := 8) rfl rfl (by kernel_rfl) (by kernel_rfl) (by kernel_rfl) (by kernel_rfl) (by kernel_rfl) rfl (fun _ h => h) (yadd rfl rfl rfl) <| jd_one (i := 9) (by kernel_rfl) rfl <| jalloc (c := [vi 0]) rfl fun B7 => j_nil <| p_jd rfl (.inr (fun _ h => (h.drop (L := [_])))) <| jd_z (i := 10) rfl rfl (by kernel_rfl) (by kernel_rfl) (by kernel_rfl) (by kernel_rfl) rfl (za rfl) <| jd_z (i := 11) rfl rfl (by kernel_rfl) (by kernel_rfl) (by kernel_rfl) (by kernel_rfl) rfl (za rfl) <| jd_one (i := 12) (by kernel_rfl) rfl <| jstw 0 rfl rfl rfl rfl rfl rfl rfl <| j_nil <| p_jd rfl (.inl (by kernel_rfl)) <| jd_done (by kernel_rfl) <| p_thn <| c_seq <| c_region <| jfunc rfl rfl rfl <| ja rfl rfl <| j_nil <| p_thn <| c_seq <| c_seq <| c_region <| jfa rfl rfl rfl <| jld1 1 rfl rfl rfl rfl <| j_nil <| p_thn <| c_block <| c_seq <| c_region <| jeql rfl rfl rfl <| ja rfl rfl <| j_nil <| p_thn <| c_cond rfl (fun hb8 => ?_) (fun hb8 => ?_)
        · have phb8 := hb8; try simp at phb8
          refine c_seq <| c_region <| jm rfl rfl <| jm rfl rfl <| jm rfl rfl <| jfa rfl rfl rfl <| jld1 1 rfl rfl rfl rfl <| jadd rfl rfl rfl rfl <| jm rfl rfl <| jfa rfl rfl rfl <| jld1 1 rfl rfl rfl rfl <| jsub rfl rfl rfl rfl <| j_perm (fr_s <| fr_s <| fr_s <| fr_0) <| jcallx rfl rfl rfl (ap_s <| ap_s <| ap_0) (plan_change1 _ _ _ _ _ _ _ _) (fun _ => ap_s <| ap_s <| ap_s <| ap_0) fun B9 _ => jext rfl rfl rfl <| jext rfl rfl rfl <| ja rfl rfl <| ja rfl rfl <| j_nil <| p_thn <| c_ret <| p_inb_ret <| p_thn_ret <| ?_
          refine jp_blkrow (sz := 587) (n := 1) (by simp [len_vec, len_rights, len_counter, len_lock, len_hold, len_plan, len_F]) (by decide) <| ?_
          refine p_retK (ap_s <| ap_0) rfl rfl (.tmp rfl <| .tmp rfl <| .nil) ?_
          exact chg_ret (xs := [(plMade f.name (w64 (f.epoch + 1)) (fView f).1 (w64 (f.counter.low + p.a)) (w64 (f.counter.high - p.b))).1]) (by unfold plChange; simp [*]) rfl rfl (by simp)
        · have phb8 := hb8; try simp at phb8
          refine c_seq <| c_region <| jeql rfl rfl rfl <| ja rfl rfl <| j_nil <| p_thn <| c_cond rfl (fun hb10 => ?_) (fun hb10 => ?_)
          · have phb10 := hb10; try simp at phb10
            refine c_seq <| c_region <| jm rfl rfl <| jm rfl rfl <| jm rfl rfl <| jfa rfl rfl rfl <| jld1 1 rfl rfl rfl rfl <| jsub rfl rfl rfl rfl <| jm rfl rfl <| jfa rfl rfl rfl <| jld1 1 rfl rfl rfl rfl <| jadd rfl rfl rfl rfl <| j_perm (fr_s <| fr_s <| fr_s <| fr_0) <| jcallx rfl rfl rfl (ap_s <| ap_s <| ap_0) (plan_change1 _ _ _ _ _ _ _ _) (fun _ => ap_s <| ap_s <| ap_s <| ap_0) fun B11 _ => jext rfl rfl rfl <| jext rfl rfl rfl <| ja rfl rfl <| ja rfl rfl <| j_nil <| p_thn <| c_ret <| p_inb_ret <| p_thn_ret <| ?_
            refine jp_blkrow (sz := 587) (n := 1) (by simp [len_vec, len_rights, len_counter, len_lock, len_hold, len_plan, len_F]) (by decide) <| ?_
            refine p_retK (ap_s <| ap_0) rfl rfl (.tmp rfl <| .tmp rfl <| .nil) ?_
            exact chg_ret (xs := [(plMade f.name (w64 (f.epoch + 1)) (fView f).1 (w64 (f.counter.low - p.a)) (w64 (f.counter.high + p.b))).1]) (by unfold plChange; simp [*]) rfl rfl (by simp)
          · have phb10 := hb10; try simp at phb10
            refine c_seq <| c_region <| jeql rfl rfl rfl <| ja rfl rfl <| j_nil <| p_thn <| c_cond rfl (fun hb12 => ?_) (fun hb12 => ?_)
            · have phb12 := hb12; try simp at phb12
              refine c_seq <| c_region <| jm rfl rfl <| jm rfl rfl <| jfa rfl rfl rfl <| jld1 1 rfl rfl rfl rfl <| jfa rfl rfl rfl <| jld1 1 rfl rfl rfl rfl <| j_perm (fr_s <| fr_s <| fr_s <| fr_0) <| jcallx rfl rfl rfl (ap_s <| ap_s <| ap_0) (plan_change1 _ _ _ _ _ _ _ _) (fun _ => ap_s <| ap_s <| ap_s <| ap_0) fun B13 _ => jext rfl rfl rfl <| jext rfl rfl rfl <| ja rfl rfl <| ja rfl rfl <| j_nil <| p_thn <| c_ret <| p_inb_ret <| p_thn_ret <| ?_
              refine jp_blkrow (sz := 587) (n := 1) (by simp [len_vec, len_rights, len_counter, len_lock, len_hold, len_plan, len_F]) (by decide) <| ?_
              refine p_retK (ap_s <| ap_0) rfl rfl (.tmp rfl <| .tmp rfl <| .nil) ?_
              exact chg_ret (xs := [(plMade f.name (w64 (f.epoch + 1)) (fView f).1 p.a p.b).1]) (by unfold plChange; simp [*]) rfl rfl (by simp)
            · have phb12 := hb12; try simp at phb12
              refine c_seq <| c_region <| jeql rfl rfl rfl <| ja rfl rfl <| j_nil <| p_thn <| c_cond rfl (fun hb14 => ?_) (fun hb14 => ?_)
              · have phb14 := hb14; try simp at phb14
                refine c_seq <| c_region <| jfa rfl rfl rfl <| jld1 3 rfl rfl rfl rfl <| jfa rfl rfl rfl <| jld1 2 rfl rfl rfl rfl <| jmax rfl rfl rfl <| jadd rfl rfl rfl rfl <| jstw 0 rfl rfl rfl rfl rfl rfl rfl <| j_nil <| p_thn <| c_seq <| c_region <| jm rfl rfl <| jm rfl rfl <| jm rfl rfl <| jadd rfl rfl rfl rfl <| jm rfl rfl <| jfa rfl rfl rfl <| jfa rfl rfl rfl <| jld1 2 rfl rfl rfl (pF_low _ _ _) <| jadd rfl rfl rfl rfl <| jm rfl rfl <| jfa rfl rfl rfl <| jfa rfl rfl rfl <| jld1 2 rfl rfl rfl (pF_high _ _ _) <| jadd rfl rfl rfl rfl <| j_perm (fr_s <| fr_s <| fr_s <| fr_0) <| jcallx rfl rfl rfl (ap_s <| ap_s <| ap_0) (plan_change1 _ _ _ _ _ _ _ _) (fun _ => ap_s <| ap_s <| ap_s <| ap_0) fun B15 _ => jext rfl rfl rfl <| jext rfl rfl rfl <| ja rfl rfl <| ja rfl rfl <| j_nil <| p_thn <| c_ret <| p_inb_ret <| p_thn_ret <| ?_
                refine jp_blkrow (sz := 587) (n := 1) (by simp [len_vec, len_rights, len_counter, len_lock, len_hold, len_plan, len_F]) (by decide) <| ?_
                refine p_retK (ap_s <| ap_0) rfl rfl (.tmp rfl <| .tmp rfl <| .nil) ?_
                exact absurd phb14 phb6
              · have phb14 := hb14; try simp at phb14
                refine c_seq <| c_region <| jeql rfl rfl rfl <| ja rfl rfl <| j_nil <| p_thn <| c_cond rfl (fun hb16 => ?_) (fun hb16 => ?_)
                · have phb16 := hb16; try simp at phb16
                  refine c_seq <| c_region <| jm rfl rfl <| jm rfl rfl <| jfa rfl rfl rfl <| jld1 1 rfl rfl rfl rfl <| jsub rfl rfl rfl rfl <| jsub rfl rfl rfl rfl <| jmax rfl rfl rfl <| ja rfl rfl <| j_nil <| p_thn <| c_seq <| c_region <| jfa rfl rfl rfl <| jld1 1 rfl rfl rfl rfl <| jld1 0 rfl rfl rfl rfl <| jm rfl rfl <| jfa rfl rfl rfl <| jld1 1 rfl rfl rfl rfl <| jcallv rfl rfl rfl (plan_made _ _ _ _ _ _) <| jm rfl rfl <| jext rfl rfl rfl <| jext rfl rfl rfl <| jalloc rfl fun B17 => jstw 0 rfl rfl rfl rfl (len_F _ _ _) (one_F _ _ _) (len_F _ _ _) <| ja rfl rfl <| j_nil <| p_thn <| c_seq <| c_seq <| c_region <| jm rfl rfl <| jneq rfl rfl rfl <| j_nil <| p_thn <| c_cond rfl (fun hb18 => ?_) (fun hb18 => ?_)
                  · have phb18 := hb18; try simp at phb18
                    refine c_seq <| c_region <| jm rfl rfl <| ja rfl rfl <| ja rfl rfl <| j_nil <| p_thn <| c_ret <| p_thn_ret <| p_inb_ret <| p_thn_ret <| ?_
                    refine jp_nilrow none 49 587 <| ?_
                    refine p_retK (ap_s <| ap_0) rfl rfl (.tmp rfl <| .tmp rfl <| .nil) ?_
                    exact chg_ret (xs := []) (by unfold plChange; simp [*]) rfl rfl (by simp)
                  · have phb18 := hb18; try simp at phb18
                    refine c_skip <| p_thn <| c_seq <| c_region <| jm rfl rfl <| jm rfl rfl <| jm rfl rfl <| jsub rfl rfl rfl rfl <| jm rfl rfl <| jm rfl rfl <| jfa rfl rfl rfl <| jld1 2 rfl rfl rfl rfl <| jsub rfl rfl rfl rfl <| j_perm (fr_s <| fr_0) <| j_perm (fr_s <| fr_s <| fr_s <| fr_s <| fr_0) <| jcallx rfl rfl rfl (ap_s <| ap_s <| ap_0) (plan_change1 _ _ _ _ _ _ _ _) (fun _ => ap_s <| ap_s <| ap_s <| ap_0) fun B19 _ => jm rfl rfl <| jext rfl rfl rfl <| jext rfl rfl rfl <| ja rfl rfl <| ja rfl rfl <| j_nil <| p_thn <| c_seq <| c_region <| jm rfl rfl <| jldw 3 rfl rfl rfl (len_F _ _ _) <| jbsl (vs := [_]) [_] rfl rfl rfl (by simp [len_F]) rfl (len_F _ _ _) (by decide) (by decide) fun B20 => j_perm (fr_s <| fr_0) <| j_blkrow (sz := 587) (n := 1) (by simp [len_vec, len_rights, len_counter, len_lock, len_hold, len_plan, len_F]) (by decide) <| japp rfl rfl rfl (fun w ho => Src.blk (i := 1) rfl (by simp [len_vec, len_rights, len_counter, len_lock, len_hold, len_plan, len_F])) (by simp [one_vec, one_hold, one_plan, one_F, List.all_append, -List.all_eq_true]) (len_F _ _ _) (by decide) (by omega) (by omega) fun vB21 => jm rfl rfl <| ja rfl rfl <| ja rfl rfl <| j_nil <| p_thn <| c_ret <| p_inb_ret <| p_thn_ret <| ?_
                    refine p_retK (ap_s <| ap_0) rfl rfl (.tmp rfl <| .tmp rfl <| .nil) ?_
                    exact chg_ret (xs := [(plMade f.name (w64 (f.epoch + 1)) (w64 ((fView f).1 - (max 0 (w64 ((fView f).1 - w64 (f.counter.high - p.a)))))) f.counter.low (w64 (f.counter.high - p.a))).1, (plMade p.other (w64 (f.epoch + 1)) (max 0 (w64 ((fView f).1 - w64 (f.counter.high - p.a)))) 0 p.a).1]) (by unfold plChange; simp [*]) rfl rfl (by simp)
                · have phb16 := hb16; try simp at phb16
                  refine c_skip <| p_inb <| p_thn <| c_seq <| c_region <| jm rfl rfl <| jcallv rfl rfl rfl (lock_New _ _ _) <| jm rfl rfl <| jext rfl rfl rfl <| jext rfl rfl rfl <| jalloc rfl fun B22 => jstw 0 rfl rfl rfl rfl (len_lock _) (one_lock _) (len_lock _) <| ja rfl rfl <| j_nil <| p_thn <| c_seq <| c_seq <| c_region <| jm rfl rfl <| jneq rfl rfl rfl <| jm rfl rfl <| jgs rfl rfl (fun hb23 => ?_) (fun hb23 => ?_)
                  · have phb23 := hb23; try simp at phb23
                    refine jg_off rfl rfl rfl hb23 <| jg_off rfl rfl rfl hb23 <| jg_off rfl rfl rfl hb23 <| jpick_t rfl rfl hb23 rfl <| j_nil <| p_thn <| c_cond_kt rfl rfl <| c_seq <| c_region <| ja rfl rfl <| ja rfl rfl <| j_nil <| p_thn <| c_ret <| p_thn_ret <| ?_
                    refine jp_nilrow none 49 587 <| ?_
                    refine p_retK (ap_s <| ap_0) rfl rfl (.tmp rfl <| .tmp rfl <| .nil) ?_
                    exact chg_ret (xs := []) (by unfold plChange; simp [*]) rfl rfl (by simp)
                  · have phb23 := hb23; try simp at phb23
                    refine jg rfl rfl hb23 <| jld1 1 rfl rfl rfl rfl <| jg rfl rfl hb23 <| jcallv rfl rfl rfl (num_Is _ _) <| jg rfl rfl hb23 <| jnot rfl rfl <| jpick_f rfl rfl hb23 rfl <| j_nil <| p_thn <| c_cond rfl (fun hb24 => ?_) (fun hb24 => ?_)
                    · have phb24 := hb24; try simp at phb24
                      refine c_seq <| c_region <| ja rfl rfl <| ja rfl rfl <| j_nil <| p_thn <| c_ret <| p_thn_ret <| ?_
                      refine jp_nilrow none 49 587 <| ?_
                      refine p_retK (ap_s <| ap_0) rfl rfl (.tmp rfl <| .tmp rfl <| .nil) ?_
                      exact chg_ret (xs := []) (by unfold plChange; simp [*]) rfl rfl (by simp)
                    · have phb24 := hb24; try simp at phb24
                      refine c_skip <| p_thn <| c_seq <| c_region <| jfa rfl rfl rfl <| jld1 4 rfl rfl rfl rfl <| jld1 1 rfl rfl rfl rfl <| jldw 0 rfl rfl rfl (len_lock _) <| jbu (zc := encF fZ none 0) rfl rfl fillFl <| jbsl (vs := [_]) [_] rfl rfl rfl (by simp [len_F]) rfl (len_F _ _ _) (by decide) (by decide) fun B25 => ja rfl rfl <| ja rfl rfl <| j_nil <| p_thn <| c_ret <| ?_
                      refine jp_blkrow (sz := 587) (n := 1) (by simp [len_vec, len_rights, len_counter, len_lock, len_hold, len_plan, len_F]) (by decide) <| ?_
                      refine p_retK (ap_s <| ap_0) rfl rfl (.tmp rfl <| .tmp rfl <| .nil) ?_
                      exact chg_ret (xs := [{ fZ with name := f.name, kind := 2, epoch := (w64 (f.epoch + 1)), lock := (lNew 0 (fView f).1).1 }]) (by unfold plChange; simp [*]) rfl rfl (by simp)
    · have phb5 := hb5; try simp at phb5
      refine jg_off rfl rfl rfl hb5 <| jg_off rfl rfl rfl hb5 <| jg_off rfl rfl rfl hb5 <| jg rfl rfl hb4 <| jpick_f rfl rfl hb5 rfl <| jpick_f rfl rfl hb4 rfl <| j_nil <| p_thn <| c_cond_kf rfl rfl <| c_skip <| p_thn <| c_seq <| c_draw [2, 5, 7, 8] (by kernel_rfl) <| jd_z (i := 0) rfl rfl (by kernel_rfl) (by kernel_rfl) (by kernel_rfl) (by kernel_rfl) rfl (zfa rfl rfl) <| jd_z (i := 1) rfl rfl (by kernel_rfl) (by kernel_rfl) (by kernel_rfl) (by kernel_rfl) rfl (zfa rfl rfl) <| jd_first (i := 2) rfl rfl (by kernel_rfl) (by kernel_rfl) (by kernel_rfl) (by kernel_rfl) (by kernel_rfl) rfl (fun _ h => h) (yld1 2 rfl rfl (pF_low _ _ _)) <| jd_z (i := 3) rfl rfl (by kernel_rfl) (by kernel_rfl) (by kernel_rfl) (by kernel_rfl) rfl (zfa rfl rfl) <| jd_z (i := 4) rfl rfl (by kernel_rfl) (by kernel_rfl) (by kernel_rfl) (by kernel_rfl) rfl (zfa rfl rfl) <| jd_first (i := 5) rfl rfl (by kernel_rfl) (by kernel_rfl) (by kernel_rfl) (by kernel_rfl) (by kernel_rfl) rfl (fun _ h => h) (yld1 2 rfl rfl (pF_high _ _ _)) <| jd_z (i := 6) rfl rfl (by kernel_rfl) (by kernel_rfl) (by kernel_rfl) (by kernel_rfl) rfl (zfa rfl rfl) <| jd_first (i := 7) rfl rfl (by kernel_rfl) (by kernel_rfl) (by kernel_rfl) (by kernel_rfl) (by kernel_rfl) rfl (fun _ h => h) (yld1 2 rfl rfl rfl) <| jd_first (i := 8) rfl rfl (by kernel_rfl) (by kernel_rfl) (by kernel_rfl) (by kernel_rfl) (by kernel_rfl) rfl (fun _ h => h) (yadd rfl rfl rfl) <| jd_one (i := 9) (by kernel_rfl) rfl <| jalloc (c := [vi 0]) rfl fun B26 => j_nil <| p_jd rfl (.inr (fun _ h => (h.drop (L := [_])))) <| jd_z (i := 10) rfl rfl (by kernel_rfl) (by kernel_rfl) (by kernel_rfl) (by kernel_rfl) rfl (za rfl) <| jd_z (i := 11) rfl rfl (by kernel_rfl) (by kernel_rfl) (by kernel_rfl) (by kernel_rfl) rfl (za rfl) <| jd_one (i := 12) (by kernel_rfl) rfl <| jstw 0 rfl rfl rfl rfl rfl rfl rfl <| j_nil <| p_jd rfl (.inl (by kernel_rfl)) <| jd_done (by kernel_rfl) <| p_thn <| c_seq <| c_region <| jfunc rfl rfl rfl <| ja rfl rfl <| j_nil <| p_thn <| c_seq <| c_seq <| c_region <| jfa rfl rfl rfl <| jld1 1 rfl rfl rfl rfl <| j_nil <| p_thn <| c_block <| c_seq <| c_region <| jeql rfl rfl rfl <| ja rfl rfl <| j_nil <| p_thn <| c_cond rfl (fun hb27 => ?_) (fun hb27 => ?_)
      · have phb27 := hb27; try simp at phb27
        refine c_seq <| c_region <| jm rfl rfl <| jm rfl rfl <| jm rfl rfl <| jfa rfl rfl rfl <| jld1 1 rfl rfl rfl rfl <| jadd rfl rfl rfl rfl <| jm rfl rfl <| jfa rfl rfl rfl <| jld1 1 rfl rfl rfl rfl <| jsub rfl rfl rfl rfl <| j_perm (fr_s <| fr_s <| fr_s <| fr_0) <| jcallx rfl rfl rfl (ap_s <| ap_s <| ap_0) (plan_change1 _ _ _ _ _ _ _ _) (fun _ => ap_s <| ap_s <| ap_s <| ap_0) fun B28 _ => jext rfl rfl rfl <| jext rfl rfl rfl <| ja rfl rfl <| ja rfl rfl <| j_nil <| p_thn <| c_ret <| p_inb_ret <| p_thn_ret <| ?_
        refine jp_blkrow (sz := 587) (n := 1) (by simp [len_vec, len_rights, len_counter, len_lock, len_hold, len_plan, len_F]) (by decide) <| ?_
        refine p_retK (ap_s <| ap_0) rfl rfl (.tmp rfl <| .tmp rfl <| .nil) ?_
        exact chg_ret (xs := [(plMade f.name (w64 (f.epoch + 1)) (fView f).1 (w64 (f.counter.low + p.a)) (w64 (f.counter.high - p.b))).1]) (by unfold plChange; simp [*]) rfl rfl (by simp)
      · have phb27 := hb27; try simp at phb27
        refine c_seq <| c_region <| jeql rfl rfl rfl <| ja rfl rfl <| j_nil <| p_thn <| c_cond rfl (fun hb29 => ?_) (fun hb29 => ?_)
        · have phb29 := hb29; try simp at phb29
          refine c_seq <| c_region <| jm rfl rfl <| jm rfl rfl <| jm rfl rfl <| jfa rfl rfl rfl <| jld1 1 rfl rfl rfl rfl <| jsub rfl rfl rfl rfl <| jm rfl rfl <| jfa rfl rfl rfl <| jld1 1 rfl rfl rfl rfl <| jadd rfl rfl rfl rfl <| j_perm (fr_s <| fr_s <| fr_s <| fr_0) <| jcallx rfl rfl rfl (ap_s <| ap_s <| ap_0) (plan_change1 _ _ _ _ _ _ _ _) (fun _ => ap_s <| ap_s <| ap_s <| ap_0) fun B30 _ => jext rfl rfl rfl <| jext rfl rfl rfl <| ja rfl rfl <| ja rfl rfl <| j_nil <| p_thn <| c_ret <| p_inb_ret <| p_thn_ret <| ?_
          refine jp_blkrow (sz := 587) (n := 1) (by simp [len_vec, len_rights, len_counter, len_lock, len_hold, len_plan, len_F]) (by decide) <| ?_
          refine p_retK (ap_s <| ap_0) rfl rfl (.tmp rfl <| .tmp rfl <| .nil) ?_
          exact chg_ret (xs := [(plMade f.name (w64 (f.epoch + 1)) (fView f).1 (w64 (f.counter.low - p.a)) (w64 (f.counter.high + p.b))).1]) (by unfold plChange; simp [*]) rfl rfl (by simp)
        · have phb29 := hb29; try simp at phb29
          refine c_seq <| c_region <| jeql rfl rfl rfl <| ja rfl rfl <| j_nil <| p_thn <| c_cond rfl (fun hb31 => ?_) (fun hb31 => ?_)
          · have phb31 := hb31; try simp at phb31
            refine c_seq <| c_region <| jm rfl rfl <| jm rfl rfl <| jfa rfl rfl rfl <| jld1 1 rfl rfl rfl rfl <| jfa rfl rfl rfl <| jld1 1 rfl rfl rfl rfl <| j_perm (fr_s <| fr_s <| fr_s <| fr_0) <| jcallx rfl rfl rfl (ap_s <| ap_s <| ap_0) (plan_change1 _ _ _ _ _ _ _ _) (fun _ => ap_s <| ap_s <| ap_s <| ap_0) fun B32 _ => jext rfl rfl rfl <| jext rfl rfl rfl <| ja rfl rfl <| ja rfl rfl <| j_nil <| p_thn <| c_ret <| p_inb_ret <| p_thn_ret <| ?_
            refine jp_blkrow (sz := 587) (n := 1) (by simp [len_vec, len_rights, len_counter, len_lock, len_hold, len_plan, len_F]) (by decide) <| ?_
            refine p_retK (ap_s <| ap_0) rfl rfl (.tmp rfl <| .tmp rfl <| .nil) ?_
            exact chg_ret (xs := [(plMade f.name (w64 (f.epoch + 1)) (fView f).1 p.a p.b).1]) (by unfold plChange; simp [*]) rfl rfl (by simp)
          · have phb31 := hb31; try simp at phb31
            refine c_seq <| c_region <| jeql rfl rfl rfl <| ja rfl rfl <| j_nil <| p_thn <| c_cond rfl (fun hb33 => ?_) (fun hb33 => ?_)
            · have phb33 := hb33; try simp at phb33
              refine c_seq <| c_region <| jfa rfl rfl rfl <| jld1 3 rfl rfl rfl rfl <| jfa rfl rfl rfl <| jld1 2 rfl rfl rfl rfl <| jmax rfl rfl rfl <| jadd rfl rfl rfl rfl <| jstw 0 rfl rfl rfl rfl rfl rfl rfl <| j_nil <| p_thn <| c_seq <| c_region <| jm rfl rfl <| jm rfl rfl <| jm rfl rfl <| jadd rfl rfl rfl rfl <| jm rfl rfl <| jfa rfl rfl rfl <| jfa rfl rfl rfl <| jld1 2 rfl rfl rfl (pF_low _ _ _) <| jadd rfl rfl rfl rfl <| jm rfl rfl <| jfa rfl rfl rfl <| jfa rfl rfl rfl <| jld1 2 rfl rfl rfl (pF_high _ _ _) <| jadd rfl rfl rfl rfl <| j_perm (fr_s <| fr_s <| fr_s <| fr_0) <| jcallx rfl rfl rfl (ap_s <| ap_s <| ap_0) (plan_change1 _ _ _ _ _ _ _ _) (fun _ => ap_s <| ap_s <| ap_s <| ap_0) fun B34 _ => jext rfl rfl rfl <| jext rfl rfl rfl <| ja rfl rfl <| ja rfl rfl <| j_nil <| p_thn <| c_ret <| p_inb_ret <| p_thn_ret <| ?_
              refine jp_blkrow (sz := 587) (n := 1) (by simp [len_vec, len_rights, len_counter, len_lock, len_hold, len_plan, len_F]) (by decide) <| ?_
              refine p_retK (ap_s <| ap_0) rfl rfl (.tmp rfl <| .tmp rfl <| .nil) ?_
              exact chg_ret (xs := [(plMade f.name (w64 (max f.epoch g.epoch + 1)) (w64 ((fView f).1 + (fView g).1)) (w64 (f.counter.low + g.counter.low)) (w64 (f.counter.high + g.counter.high))).1]) (by unfold plChange; simp [*]) rfl rfl (by simp)
            · have phb33 := hb33; try simp at phb33
              refine c_seq <| c_region <| jeql rfl rfl rfl <| ja rfl rfl <| j_nil <| p_thn <| c_cond rfl (fun hb35 => ?_) (fun hb35 => ?_)
              · have phb35 := hb35; try simp at phb35
                refine c_seq <| c_region <| jm rfl rfl <| jm rfl rfl <| jfa rfl rfl rfl <| jld1 1 rfl rfl rfl rfl <| jsub rfl rfl rfl rfl <| jsub rfl rfl rfl rfl <| jmax rfl rfl rfl <| ja rfl rfl <| j_nil <| p_thn <| c_seq <| c_region <| jfa rfl rfl rfl <| jld1 1 rfl rfl rfl rfl <| jld1 0 rfl rfl rfl rfl <| jm rfl rfl <| jfa rfl rfl rfl <| jld1 1 rfl rfl rfl rfl <| jcallv rfl rfl rfl (plan_made _ _ _ _ _ _) <| jm rfl rfl <| jext rfl rfl rfl <| jext rfl rfl rfl <| jalloc rfl fun B36 => jstw 0 rfl rfl rfl rfl (len_F _ _ _) (one_F _ _ _) (len_F _ _ _) <| ja rfl rfl <| j_nil <| p_thn <| c_seq <| c_seq <| c_region <| jm rfl rfl <| jneq rfl rfl rfl <| j_nil <| p_thn <| c_cond rfl (fun hb37 => ?_) (fun hb37 => ?_)
                · have phb37 := hb37; try simp at phb37
                  refine c_seq <| c_region <| jm rfl rfl <| ja rfl rfl <| ja rfl rfl <| j_nil <| p_thn <| c_ret <| p_thn_ret <| p_inb_ret <| p_thn_ret <| ?_
                  refine jp_nilrow none 49 587 <| ?_
                  refine p_retK (ap_s <| ap_0) rfl rfl (.tmp rfl <| .tmp rfl <| .nil) ?_
                  exact chg_ret (xs := []) (by unfold plChange; simp [*]) rfl rfl (by simp)
                · have phb37 := hb37; try simp at phb37
                  refine c_skip <| p_thn <| c_seq <| c_region <| jm rfl rfl <| jm rfl rfl <| jm rfl rfl <| jsub rfl rfl rfl rfl <| jm rfl rfl <| jm rfl rfl <| jfa rfl rfl rfl <| jld1 2 rfl rfl rfl rfl <| jsub rfl rfl rfl rfl <| j_perm (fr_s <| fr_0) <| j_perm (fr_s <| fr_s <| fr_s <| fr_s <| fr_0) <| jcallx rfl rfl rfl (ap_s <| ap_s <| ap_0) (plan_change1 _ _ _ _ _ _ _ _) (fun _ => ap_s <| ap_s <| ap_s <| ap_0) fun B38 _ => jm rfl rfl <| jext rfl rfl rfl <| jext rfl rfl rfl <| ja rfl rfl <| ja rfl rfl <| j_nil <| p_thn <| c_seq <| c_region <| jm rfl rfl <| jldw 3 rfl rfl rfl (len_F _ _ _) <| jbsl (vs := [_]) [_] rfl rfl rfl (by simp [len_F]) rfl (len_F _ _ _) (by decide) (by decide) fun B39 => j_perm (fr_s <| fr_0) <| j_blkrow (sz := 587) (n := 1) (by simp [len_vec, len_rights, len_counter, len_lock, len_hold, len_plan, len_F]) (by decide) <| japp rfl rfl rfl (fun w ho => Src.blk (i := 1) rfl (by simp [len_vec, len_rights, len_counter, len_lock, len_hold, len_plan, len_F])) (by simp [one_vec, one_hold, one_plan, one_F, List.all_append, -List.all_eq_true]) (len_F _ _ _) (by decide) (by omega) (by omega) fun vB40 => jm rfl rfl <| ja rfl rfl <| ja rfl rfl <| j_nil <| p_thn <| c_ret <| p_inb_ret <| p_thn_ret <| ?_
                  refine p_retK (ap_s <| ap_0) rfl rfl (.tmp rfl <| .tmp rfl <| .nil) ?_
                  exact chg_ret (xs := [(plMade f.name (w64 (f.epoch + 1)) (w64 ((fView f).1 - (max 0 (w64 ((fView f).1 - w64 (f.counter.high - p.a)))))) f.counter.low (w64 (f.counter.high - p.a))).1, (plMade p.other (w64 (f.epoch + 1)) (max 0 (w64 ((fView f).1 - w64 (f.counter.high - p.a)))) 0 p.a).1]) (by unfold plChange; simp [*]) rfl rfl (by simp)
              · have phb35 := hb35; try simp at phb35
                refine c_skip <| p_inb <| p_thn <| c_seq <| c_region <| jm rfl rfl <| jcallv rfl rfl rfl (lock_New _ _ _) <| jm rfl rfl <| jext rfl rfl rfl <| jext rfl rfl rfl <| jalloc rfl fun B41 => jstw 0 rfl rfl rfl rfl (len_lock _) (one_lock _) (len_lock _) <| ja rfl rfl <| j_nil <| p_thn <| c_seq <| c_seq <| c_region <| jm rfl rfl <| jneq rfl rfl rfl <| jm rfl rfl <| jgs rfl rfl (fun hb42 => ?_) (fun hb42 => ?_)
                · have phb42 := hb42; try simp at phb42
                  refine jg_off rfl rfl rfl hb42 <| jg_off rfl rfl rfl hb42 <| jg_off rfl rfl rfl hb42 <| jpick_t rfl rfl hb42 rfl <| j_nil <| p_thn <| c_cond_kt rfl rfl <| c_seq <| c_region <| ja rfl rfl <| ja rfl rfl <| j_nil <| p_thn <| c_ret <| p_thn_ret <| ?_
                  refine jp_nilrow none 49 587 <| ?_
                  refine p_retK (ap_s <| ap_0) rfl rfl (.tmp rfl <| .tmp rfl <| .nil) ?_
                  exact chg_ret (xs := []) (by unfold plChange; simp [*]) rfl rfl (by simp)
                · have phb42 := hb42; try simp at phb42
                  refine jg rfl rfl hb42 <| jld1 1 rfl rfl rfl rfl <| jg rfl rfl hb42 <| jcallv rfl rfl rfl (num_Is _ _) <| jg rfl rfl hb42 <| jnot rfl rfl <| jpick_f rfl rfl hb42 rfl <| j_nil <| p_thn <| c_cond rfl (fun hb43 => ?_) (fun hb43 => ?_)
                  · have phb43 := hb43; try simp at phb43
                    refine c_seq <| c_region <| ja rfl rfl <| ja rfl rfl <| j_nil <| p_thn <| c_ret <| p_thn_ret <| ?_
                    refine jp_nilrow none 49 587 <| ?_
                    refine p_retK (ap_s <| ap_0) rfl rfl (.tmp rfl <| .tmp rfl <| .nil) ?_
                    exact chg_ret (xs := []) (by unfold plChange; simp [*]) rfl rfl (by simp)
                  · have phb43 := hb43; try simp at phb43
                    refine c_skip <| p_thn <| c_seq <| c_region <| jfa rfl rfl rfl <| jld1 4 rfl rfl rfl rfl <| jld1 1 rfl rfl rfl rfl <| jldw 0 rfl rfl rfl (len_lock _) <| jbu (zc := encF fZ none 0) rfl rfl fillFl <| jbsl (vs := [_]) [_] rfl rfl rfl (by simp [len_F]) rfl (len_F _ _ _) (by decide) (by decide) fun B44 => ja rfl rfl <| ja rfl rfl <| j_nil <| p_thn <| c_ret <| ?_
                    refine jp_blkrow (sz := 587) (n := 1) (by simp [len_vec, len_rights, len_counter, len_lock, len_hold, len_plan, len_F]) (by decide) <| ?_
                    refine p_retK (ap_s <| ap_0) rfl rfl (.tmp rfl <| .tmp rfl <| .nil) ?_
                    exact chg_ret (xs := [{ fZ with name := f.name, kind := 2, epoch := (w64 (f.epoch + 1)), lock := (lNew 0 (fView f).1).1 }]) (by unfold plChange; simp [*]) rfl rfl (by simp)
end Go.Proofs.YtihgpbpcbbgdiaaGreat
