/- usufructlaw07.FieldLoose, walked: what it tells. -/
import Derived.Test.YtihgpbpcbbgdiaaGreatAwake7
import Derived.Test.YtihgpbpcbbgdiaaGreatFront
namespace Go.Proofs.YtihgpbpcbbgdiaaGreat
open Go.RowKit
set_option linter.unusedVariables false
set_option linter.unusedSimpArgs false
structure Do7 where
  v : Int
  i : Int
  k : Int
  n : Int
  m : Int
def encD7 (d : Do7) : List Value := [vi d.v, vi d.i, vi d.k, vi d.n, vi d.m]
theorem len_d7 (d : Do7) : (encD7 d).length = 5 := rfl
theorem one_d7 (d : Do7) : (encD7 d).all Value.oneCell' = true := rfl
def rD7 : Rep Do7 := Rep.enc 5 encD7 (fun _ => rfl) (fun _ => rfl)
def d7Z : Do7 := ⟨0, 0, 0, 0, 0⟩
def few7 (d : Do7) : Bool := decide (d.n ≤ 3000) && decide (d.m ≤ 3000) && decide (-3000 ≤ d.n) && decide (-3000 ≤ d.m)
def do7 (fs : List Field) (d : Do7) : List Field := stepF fs d.v d.i d.k d.n d.m
/-- what is told of the field x, of k and an amount -/
def loose7 (x : Field) (k a : Int) : Bool :=
  if (fReserve x k a 9).2.2 ≠ 0 then decide (a < 0) || decide ((fLoose x k).1 < a) || decide (x.holds.length = 16)
  else decide ((fEnd (fReserve x k a 9).1 k (fReserve x k a 9).2.1 3).2 = 0) && decide ((fEnd (fReserve x k a 9).1 k (fReserve x k a 9).2.1 2).2 = 0)
    && decide ((fLoose (fReserve x k a 9).1 k).1 = IntKind.i64.wrap ((fLoose x k).1 - a)) && decide ((fLoose (fReserve x k a 9).1 k).2 = (fLoose x k).2)
    && decide ((fLoose (fEnd (fReserve x k a 9).1 k (fReserve x k a 9).2.1 3).1 k).1 = (fLoose x k).1)
    && decide ((fView (fEnd (fReserve x k a 9).1 k (fReserve x k a 9).2.1 2).1).1 = IntKind.i64.wrap ((fView x).1 - a))
    && decide ((fLoose (fEnd (fReserve x k a 9).1 k (fReserve x k a 9).2.1 2).1 k).1 = IntKind.i64.wrap ((fLoose x k).1 - a))
def law7 (init low high : Int) (l : List Do7) (k a : Int) : Bool :=
  if (fCounter aN init low high).2 ≠ 0 ∨ low < -1000 ∨ 1000 < high ∨ 60 < l.length ∨ k < 0 ∨ 15 < k then true
  else if l.all few7 then loose7 (ix fZ (l.foldl do7 (List.replicate 16 (fCounter aN init low high).1)) k.toNat) k a else true
theorem ZeI.of {P : Program} {t : TypeId} {cs : Array Value} (w : World) (h : (zeroValue t).run P w = .ok (.agg cs) w) : ZeI P t cs.toList := by
  constructor
  cases hi : P.info? t with
  | none => simp [zeroValue, typeInfo, hi] at h
  | some i =>
    cases hz : i.zero with
    | none => simp [zeroValue, typeInfo, hi, hz] at h
    | some z =>
      simp [zeroValue, typeInfo, hi, hz] at h
      subst h
      simp [hz, Value.cells]
noncomputable def z16 : List Value := Tryz.zeroCells70.toList
theorem z16_len : z16.length = 9392 := by unfold z16; rw [Array.length_toList]; exact Tryz.zeroCells70_size
instance : ZeI Tryz.prog 70 z16 := ZeI.of default (Tryz.zeroValue70 default)
instance : ZeI Tryz.prog 72 (encD7 d7Z) := ⟨by kernel_rfl⟩
attribute [irreducible] z16
noncomputable def fillX (s : FS) (j : Nat) : List Value := (List.replicate j s).flatMap encS ++ z16.drop (j * 587)
theorem fillX_0 {s : FS} : fillX s 0 = z16 := by unfold fillX; simp
theorem fillX_16 {s : FS} : fillX s 16 = (List.replicate 16 s).flatMap encS := by
  unfold fillX; rw [List.drop_of_length_le (by rw [z16_len]; omega), List.append_nil]
theorem fillX_len {s : FS} {j : Nat} (h : j ≤ 16) : (fillX s j).length = 9392 := by
  unfold fillX; rw [List.length_append, flatk_len len_S, List.length_drop, z16_len, List.length_replicate]; omega
theorem fillX_put {s : FS} {j : Nat} (h : j < 16) : (fillX s j).take (0 + (j : Int).toNat * 587) ++ encF s.f s.A s.cap ++ (fillX s j).drop (0 + (j : Int).toNat * 587 + 587) = fillX s (j + 1) := by
  have e : (j : Int).toNat = j := by simp
  have hl : ((List.replicate j s).flatMap encS).length = j * 587 := by rw [flatk_len len_S, List.length_replicate]
  rw [e, Nat.zero_add]
  unfold fillX
  rw [take_app hl, drop_drop_app hl, List.drop_drop, List.replicate_succ', List.flatMap_append]
  simp only [List.flatMap_cons, List.flatMap_nil, List.append_nil, List.append_assoc]
  rw [show j * 587 + 587 = (j + 1) * 587 by omega]
section
variable {cx : Cx} {Q : Post} {E : Env} {M : Mem} {L : List Ent} {ops : Array Oper} {d T : Nat} {pos : String} {af : Array Edge} {rest : List Oper} {x y z : Operand} {v u : Value}
theorem jstep7 {args tys : Array _} {X : Nat} {xs : List FS} {Lr : List Ent} (hP : cx.P = Tryz.prog) (hn : Nat.blt d cx.n = true) {D : Do7}
    (hx : ev E x = some (.func (.func 24) #[] #[])) (ha : evL E args.toList = some [.pointer (some ⟨X, 0, none⟩), .agg (encD7 D).toArray]) (hL : L = .blk X 70 (xs.flatMap encS) :: Lr) (hxs : FSs M xs)
    (hk : ∀ v M' ys, MLe M M' → ys.map FS.f = do7 (xs.map FS.f) D → FSs M' ys → J cx ops Q rest ((d, v) :: E) M' (.blk X 70 (ys.flatMap encS) :: Lr)) : J cx ops Q (⟨some d, .call ⟨.value x, args, tys⟩, T, pos, af, none⟩ :: rest) E M L := by
  haveI : FnI cx.P 24 := by rw [hP]; exact inferInstance
  refine jcall (fi := []) (ca := []) (Lb := [.blk X 70 (xs.flatMap encS)]) (Lr := Lr) hn hx ha hL (by rw [hP]; exact law7_Step xs D.v D.i D.k D.n D.m M hxs) ?_
  rintro v M' L' hm ⟨ys, h1, h2, rfl⟩
  exact hk v M' ys hm h1 h2
end
theorem fCounter_len (s : ByteArray) (i l h : Int) : (fCounter s i l h).1.holds.length ≤ 16 := by
  unfold fCounter; exact Nat.le_trans (fDone_len _ _) (Nat.zero_le _)
theorem take_all {α : Type} {p : α → Bool} {z : α} {xs : List α} {k : Nat} (h : k < xs.length) (h1 : (xs.take k).all p = true) (h2 : p (ix z xs k) = true) : (xs.take (k + 1)).all p = true := by
  rw [List.take_add_one, ix_get (z := z) h, List.all_append, h1]; simpa using h2
theorem all_not {α : Type} {p : α → Bool} {z : α} {xs : List α} {k : Nat} (h : k < xs.length) (h2 : p (ix z xs k) = false) : xs.all p = false := by
  rw [List.all_eq_false]
  exact ⟨ix z xs k, by rw [ix_eq h]; exact List.getElem_mem _, by rw [h2]; decide⟩
theorem law7_out {init low high : Int} {l : List Do7} {k a : Int} (h : (fCounter aN init low high).2 ≠ 0 ∨ low < -1000 ∨ 1000 < high ∨ 60 < l.length ∨ k < 0 ∨ 15 < k) : law7 init low high l k a = true := by
  unfold law7; rw [if_pos h]
theorem law7_few {init low high : Int} {l : List Do7} {k a : Int} {j : Nat} (h : j < l.length) (h2 : few7 (ix d7Z l j) = false) : law7 init low high l k a = true := by
  unfold law7; split
  · rfl
  · rw [all_not h h2]; rfl
theorem law7_in {init low high : Int} {l : List Do7} {k a : Int} {xs : List FS} (h : ¬((fCounter aN init low high).2 ≠ 0 ∨ low < -1000 ∨ 1000 < high ∨ 60 < l.length ∨ k < 0 ∨ 15 < k)) (ha : l.all few7 = true)
    (hf : xs.map FS.f = l.foldl do7 (List.replicate 16 (fCounter aN init low high).1)) (hl : xs.length = 16) : law7 init low high l k a = loose7 (ix sZ xs k.toNat).f k a := by
  unfold law7; rw [if_neg h, if_pos ha, ← hf, ix_map (z := sZ) (by omega)]
attribute [local irreducible] law7
attribute [local irreducible] fCounter fReserve fAdd fEnd fView fRight1 fLoose fillX

theorem law7_FieldLoose (init low high : Int) (l : List Do7) (A : Option Addr) (cap : Nat) (k a : Int) (M : Mem) (hS : SlR rD7 M A cap l) : Ctr Tryz.prog 7 [vi init, vi low, vi high, .slice A l.length cap, vi k, vi a] M [] (fun v _ _ => v = .bool (law7 init low high l k a)) := by
  refine ctr Tryz.func7 rfl Tryz.ntmps7 rfl fun w => ?_
  refine c_seq <| c_region <| ja rfl rfl <| j_nil <| p_thn <| c_seq <| c_region <| jm rfl rfl <| jm rfl rfl <| jm rfl rfl <| jcalls rfl rfl rfl (field_Counter aN (by decide) _ _ _ _) fun A1c cap1c M1c hM1c hS1c => jm rfl rfl <| jext rfl rfl rfl <| jext rfl rfl rfl <| jalloc rfl fun B1 => jstw 0 rfl rfl rfl rfl (len_F _ _ _) (one_F _ _ _) (len_F _ _ _) <| ja rfl rfl <| j_nil <| p_thn <| c_seq <| c_seq <| c_region <| jm rfl rfl <| jneq rfl rfl rfl <| jm rfl rfl <| jgs rfl rfl (fun hb2 => ?_) (fun hb2 => ?_)
  · have phb2 := hb2; try simp at phb2
    refine jg_off rfl rfl rfl hb2 <| jg_off rfl rfl rfl hb2 <| jpick_t rfl rfl hb2 rfl <| jm rfl rfl <| jg_off rfl rfl rfl rfl <| jg_off rfl rfl rfl rfl <| jpick_t rfl rfl rfl rfl <| jm rfl rfl <| jg_off rfl rfl rfl rfl <| jg_off rfl rfl rfl rfl <| jg_off rfl rfl rfl rfl <| jpick_t rfl rfl rfl rfl <| jm rfl rfl <| jg_off rfl rfl rfl rfl <| jg_off rfl rfl rfl rfl <| jpick_t rfl rfl rfl rfl <| jm rfl rfl <| jg_off rfl rfl rfl rfl <| jg_off rfl rfl rfl rfl <| jpick_t rfl rfl rfl rfl <| j_nil <| p_thn <| c_cond_kt rfl rfl <| c_seq <| c_region <| jcallv rfl rfl rfl (law7_awake _) <| ja rfl rfl <| j_nil <| p_thn <| c_ret <| p_thn_ret <| ?_
    refine p_ret0 rfl rfl (.tmp rfl <| .nil) ?_
    rw [law7_out (by omega)]; rfl
  · have phb2 := hb2; try simp at phb2
    refine jg rfl rfl hb2 <| jm rfl rfl <| jg rfl rfl hb2 <| jlss rfl rfl rfl <| jpick_f rfl rfl hb2 rfl <| jm rfl rfl <| jgs rfl rfl (fun hb3 => ?_) (fun hb3 => ?_)
    · have phb3 := hb3; try simp at phb3
      refine jg_off rfl rfl rfl hb3 <| jg_off rfl rfl rfl hb3 <| jpick_t rfl rfl hb3 rfl <| jm rfl rfl <| jg_off rfl rfl rfl rfl <| jg_off rfl rfl rfl rfl <| jg_off rfl rfl rfl rfl <| jpick_t rfl rfl rfl rfl <| jm rfl rfl <| jg_off rfl rfl rfl rfl <| jg_off rfl rfl rfl rfl <| jpick_t rfl rfl rfl rfl <| jm rfl rfl <| jg_off rfl rfl rfl rfl <| jg_off rfl rfl rfl rfl <| jpick_t rfl rfl rfl rfl <| j_nil <| p_thn <| c_cond_kt rfl rfl <| c_seq <| c_region <| jcallv rfl rfl rfl (law7_awake _) <| ja rfl rfl <| j_nil <| p_thn <| c_ret <| p_thn_ret <| ?_
      refine p_ret0 rfl rfl (.tmp rfl <| .nil) ?_
      rw [law7_out (by omega)]; rfl
    · have phb3 := hb3; try simp at phb3
      refine jg rfl rfl hb3 <| jm rfl rfl <| jg rfl rfl hb3 <| jgtr rfl rfl rfl <| jpick_f rfl rfl hb3 rfl <| jm rfl rfl <| jgs rfl rfl (fun hb4 => ?_) (fun hb4 => ?_)
      · have phb4 := hb4; try simp at phb4
        refine jg_off rfl rfl rfl hb4 <| jg_off rfl rfl rfl hb4 <| jg_off rfl rfl rfl hb4 <| jpick_t rfl rfl hb4 rfl <| jm rfl rfl <| jg_off rfl rfl rfl rfl <| jg_off rfl rfl rfl rfl <| jpick_t rfl rfl rfl rfl <| jm rfl rfl <| jg_off rfl rfl rfl rfl <| jg_off rfl rfl rfl rfl <| jpick_t rfl rfl rfl rfl <| j_nil <| p_thn <| c_cond_kt rfl rfl <| c_seq <| c_region <| jcallv rfl rfl rfl (law7_awake _) <| ja rfl rfl <| j_nil <| p_thn <| c_ret <| p_thn_ret <| ?_
        refine p_ret0 rfl rfl (.tmp rfl <| .nil) ?_
        rw [law7_out (by omega)]; rfl
      · have phb4 := hb4; try simp at phb4
        refine jg rfl rfl hb4 <| jm rfl rfl <| jg rfl rfl hb4 <| jlen rfl rfl <| jg rfl rfl hb4 <| jgtr rfl rfl rfl <| jpick_f rfl rfl hb4 rfl <| jm rfl rfl <| jgs rfl rfl (fun hb5 => ?_) (fun hb5 => ?_)
        · have phb5 := hb5; try simp at phb5
          refine jg_off rfl rfl rfl hb5 <| jg_off rfl rfl rfl hb5 <| jpick_t rfl rfl hb5 rfl <| jm rfl rfl <| jg_off rfl rfl rfl rfl <| jg_off rfl rfl rfl rfl <| jpick_t rfl rfl rfl rfl <| j_nil <| p_thn <| c_cond_kt rfl rfl <| c_seq <| c_region <| jcallv rfl rfl rfl (law7_awake _) <| ja rfl rfl <| j_nil <| p_thn <| c_ret <| p_thn_ret <| ?_
          refine p_ret0 rfl rfl (.tmp rfl <| .nil) ?_
          rw [law7_out (by omega)]; rfl
        · have phb5 := hb5; try simp at phb5
          refine jg rfl rfl hb5 <| jm rfl rfl <| jg rfl rfl hb5 <| jlss rfl rfl rfl <| jpick_f rfl rfl hb5 rfl <| jm rfl rfl <| jgs rfl rfl (fun hb6 => ?_) (fun hb6 => ?_)
          · have phb6 := hb6; try simp at phb6
            refine jg_off rfl rfl rfl hb6 <| jg_off rfl rfl rfl hb6 <| jpick_t rfl rfl hb6 rfl <| j_nil <| p_thn <| c_cond_kt rfl rfl <| c_seq <| c_region <| jcallv rfl rfl rfl (law7_awake _) <| ja rfl rfl <| j_nil <| p_thn <| c_ret <| p_thn_ret <| ?_
            refine p_ret0 rfl rfl (.tmp rfl <| .nil) ?_
            rw [law7_out (by omega)]; rfl
          · have phb6 := hb6; try simp at phb6
            refine jg rfl rfl hb6 <| jm rfl rfl <| jg rfl rfl hb6 <| jgtr rfl rfl rfl <| jpick_f rfl rfl hb6 rfl <| j_nil <| p_thn <| c_cond rfl (fun hb7 => ?_) (fun hb7 => ?_)
            · have phb7 := hb7; try simp at phb7
              refine c_seq <| c_region <| jcallv rfl rfl rfl (law7_awake _) <| ja rfl rfl <| j_nil <| p_thn <| c_ret <| p_thn_ret <| ?_
              refine p_ret0 rfl rfl (.tmp rfl <| .nil) ?_
              rw [law7_out (by omega)]; rfl
            · have phb7 := hb7; try simp at phb7
              refine c_skip <| p_thn <| c_seq <| c_region <| jalloc rfl fun B8 => j_nil <| p_thn <| c_seq <| c_seq <| c_region <| jm rfl rfl <| j_nil <| p_thn <| c_block <| c_lpL (X := Nat) (fun j => j ≤ 16) (fun j => 16 - j) (fun j => [(69, vi (j : Int))]) [15, 14, 13, 12, 5, 4, 3] (fun j => [.blk B8 70 (fillX ⟨(fCounter aN init low high).1, A1c, cap1c⟩ j), .blk B1 49 (encS ⟨(fCounter aN init low high).1, A1c, cap1c⟩)]) 0 ?_ (sub_c rfl <| sub_c rfl <| sub_c rfl <| sub_c rfl <| sub_c rfl <| sub_c rfl <| sub_c rfl <| sub_c rfl <| sub_n) (by rw [fillX_0]; rfl) ?_
              · omega
              · intro j hI
                refine c_seq <| c_region <| jlss rfl rfl rfl <| j_nil <| p_thn <| c_seq <| c_cond rfl (fun hb9 => ?_) (fun hb9 => ?_)
                · have phb9 := hb9; try simp at phb9
                  refine c_skip <| p_thn <| c_seq <| c_block <| c_seq <| c_region <| jm rfl rfl <| ja rfl rfl <| j_nil <| p_thn <| c_region <| jm rfl rfl <| jldw 1 rfl rfl rfl (len_F _ _ _) <| jia rfl rfl rfl (by omega) (by omega) <| jst 0 rfl rfl rfl rfl (len_F _ _ _) (one_F _ _ _) (by rw [fillX_len (by omega)]; omega) (fillX_put (by omega)) <| j_nil <| p_inb <| p_thn <| c_region <| jadd rfl rfl rfl (by first | exact wr (by omega) (by omega) | rfl) <| jm rfl rfl <| j_nil <| ?_
                  refine p_lp (j + 1) ?_ ?_ (sub_c rfl <| sub_c rfl <| sub_c rfl <| sub_c rfl <| sub_c rfl <| sub_c rfl <| sub_c rfl <| sub_c rfl <| sub_n) rfl rfl
                  · omega
                  · omega
                · have phb9 := hb9; try simp at phb9
                  obtain rfl : j = 16 := by omega
                  refine c_exit <| p_thn_exit <| p_lp_exit <| p_inb_exit <| p_thn <| c_seq <| c_seq <| c_region <| jm rfl rfl <| jlen rfl rfl <| jm rfl rfl <| j_nil <| p_thn <| c_block <| c_lpML (X := Nat × Mem × List FS) (fun q => q.1 ≤ l.length ∧ MLe M q.2.1 ∧ FSs q.2.1 q.2.2 ∧ q.2.2.map FS.f = (l.take q.1).foldl do7 (List.replicate 16 (fCounter aN init low high).1) ∧ (l.take q.1).all few7 = true) (fun q => l.length - q.1) (fun q => [(78, vi (q.1 : Int))]) [77, 76, 15, 14, 5, 4] (fun q => q.2.1) (fun q => [.blk B8 70 (q.2.2.flatMap encS), .blk B1 49 (encS ⟨(fCounter aN init low high).1, A1c, cap1c⟩)]) (0, M1c, List.replicate 16 ⟨(fCounter aN init low high).1, A1c, cap1c⟩) ?_ (sub_c rfl <| sub_c rfl <| sub_c rfl <| sub_c rfl <| sub_c rfl <| sub_c rfl <| sub_c rfl <| sub_n) rfl (by rw [fillX_16]) ?_
                  · exact ⟨Nat.zero_le _, hM1c, ⟨by simp, fun s hs => by rw [List.eq_of_mem_replicate hs]; exact ⟨hS1c, fCounter_len _ _ _ _⟩⟩, by rw [List.map_replicate]; rfl, rfl⟩
                  · intro q hI
                    obtain ⟨hql, hqm, hqs, hqf, hqa⟩ := hI
                    refine c_seq <| c_region <| jlss rfl rfl rfl <| j_nil <| p_thn <| c_seq <| c_cond rfl (fun hb10 => ?_) (fun hb10 => ?_)
                    · have phb10 := hb10; try simp at phb10
                      refine c_skip <| p_thn <| c_seq <| c_block <| c_seq <| c_region <| ji rfl rfl rfl (by omega) (by omega) ((hS.mono hqm).adr (i := q.1) (by omega)) <| jlq rfl (hS.mono hqm) (ix_get (z := d7Z) (i := q.1) (by omega)) (fun c h => h) rfl rfl <| jalloc rfl fun B11 => jstw 0 rfl rfl rfl rfl (len_d7 _) (one_d7 _) (len_d7 _) <| j_nil <| p_thn <| c_seq <| c_seq <| c_region <| jfa rfl rfl rfl <| jld1 0 rfl rfl rfl rfl <| jleq rfl rfl rfl <| jm rfl rfl <| jgs rfl rfl (fun hb12 => ?_) (fun hb12 => ?_)
                      · have phb12 := hb12; try simp at phb12
                        refine jg rfl rfl hb12 <| jfa rfl rfl rfl <| jg rfl rfl hb12 <| jld1 0 rfl rfl rfl rfl <| jg rfl rfl hb12 <| jleq rfl rfl rfl <| jpick_t rfl rfl hb12 rfl <| jm rfl rfl <| jgs rfl rfl (fun hb13 => ?_) (fun hb13 => ?_)
                        · have phb13 := hb13; try simp at phb13
                          refine jg rfl rfl hb13 <| jfa rfl rfl rfl <| jg rfl rfl hb13 <| jld1 0 rfl rfl rfl rfl <| jg rfl rfl hb13 <| jgeq rfl rfl rfl <| jpick_t rfl rfl hb13 rfl <| jm rfl rfl <| jgs rfl rfl (fun hb14 => ?_) (fun hb14 => ?_)
                          · have phb14 := hb14; try simp at phb14
                            refine jg rfl rfl hb14 <| jfa rfl rfl rfl <| jg rfl rfl hb14 <| jld1 0 rfl rfl rfl rfl <| jg rfl rfl hb14 <| jgeq rfl rfl rfl <| jpick_t rfl rfl hb14 rfl <| jnot rfl rfl <| j_nil <| p_thn <| c_cond rfl (fun hb15 => ?_) (fun hb15 => ?_)
                            · have phb15 := hb15; try simp at phb15
                              refine c_seq <| c_region <| jcallv rfl rfl rfl (law7_awake _) <| ja rfl rfl <| j_nil <| p_thn <| c_ret <| p_thn_ret <| p_inb_ret <| p_thn_ret <| p_lp_ret <| p_inb_ret <| p_thn_ret <| ?_
                              refine p_ret0 rfl rfl (.tmp rfl <| .nil) ?_
                              rw [law7_few (j := q.1) (by omega) (by unfold few7; simp [*] <;> omega)]; rfl
                            · have phb15 := hb15; try simp at phb15
                              refine c_skip <| p_thn <| c_region <| jldw 0 rfl rfl rfl (len_d7 _) <| j_perm (fr_s <| fr_0) <| jstep7 rfl rfl rfl rfl rfl hqs fun _ M3 ys hM3 hys hys2 => j_nil <| p_inb <| p_thn <| c_region <| jadd rfl rfl rfl (by first | exact wr (by omega) (by omega) | rfl) <| jm rfl rfl <| j_nil <| jp_perm (fr_s <| fr_s <| fr_0) <| jp_perm (fr_s <| fr_0) <| jp_tk (ap_s <| ap_s <| ap_0) <| ?_
                              refine p_lp ((q.1 + 1, M3, ys)) ?_ ?_ (sub_c rfl <| sub_c rfl <| sub_c rfl <| sub_c rfl <| sub_c rfl <| sub_c rfl <| sub_c rfl <| sub_n) rfl rfl
                              · exact ⟨by omega, hqm.trans hM3, hys2, by rw [hys, hqf]; exact foldl_take (by omega), take_all (z := d7Z) (by omega) hqa (by simp [few7, *])⟩
                              · omega
                          · have phb14 := hb14; try simp at phb14
                            refine jg_off rfl rfl rfl hb14 <| jg_off rfl rfl rfl hb14 <| jg_off rfl rfl rfl hb14 <| jpick_f rfl rfl hb14 rfl <| jnot rfl rfl <| j_nil <| p_thn <| c_cond_kt rfl rfl <| c_seq <| c_region <| jcallv rfl rfl rfl (law7_awake _) <| ja rfl rfl <| j_nil <| p_thn <| c_ret <| p_thn_ret <| p_inb_ret <| p_thn_ret <| p_lp_ret <| p_inb_ret <| p_thn_ret <| ?_
                            refine p_ret0 rfl rfl (.tmp rfl <| .nil) ?_
                            rw [law7_few (j := q.1) (by omega) (by unfold few7; simp [*] <;> omega)]; rfl
                        · have phb13 := hb13; try simp at phb13
                          refine jg_off rfl rfl rfl hb13 <| jg_off rfl rfl rfl hb13 <| jg_off rfl rfl rfl hb13 <| jpick_f rfl rfl hb13 rfl <| jm rfl rfl <| jg_off rfl rfl rfl rfl <| jg_off rfl rfl rfl rfl <| jg_off rfl rfl rfl rfl <| jpick_f rfl rfl rfl rfl <| jnot rfl rfl <| j_nil <| p_thn <| c_cond_kt rfl rfl <| c_seq <| c_region <| jcallv rfl rfl rfl (law7_awake _) <| ja rfl rfl <| j_nil <| p_thn <| c_ret <| p_thn_ret <| p_inb_ret <| p_thn_ret <| p_lp_ret <| p_inb_ret <| p_thn_ret <| ?_
                          refine p_ret0 rfl rfl (.tmp rfl <| .nil) ?_
                          rw [law7_few (j := q.1) (by omega) (by unfold few7; simp [*] <;> omega)]; rfl
                      · have phb12 := hb12; try simp at phb12
                        refine jg_off rfl rfl rfl hb12 <| jg_off rfl rfl rfl hb12 <| jg_off rfl rfl rfl hb12 <| jpick_f rfl rfl hb12 rfl <| jm rfl rfl <| jg_off rfl rfl rfl rfl <| jg_off rfl rfl rfl rfl <| jg_off rfl rfl rfl rfl <| jpick_f rfl rfl rfl rfl <| jm rfl rfl <| jg_off rfl rfl rfl rfl <| jg_off rfl rfl rfl rfl <| jg_off rfl rfl rfl rfl <| jpick_f rfl rfl rfl rfl <| jnot rfl rfl <| j_nil <| p_thn <| c_cond_kt rfl rfl <| c_seq <| c_region <| jcallv rfl rfl rfl (law7_awake _) <| ja rfl rfl <| j_nil <| p_thn <| c_ret <| p_thn_ret <| p_inb_ret <| p_thn_ret <| p_lp_ret <| p_inb_ret <| p_thn_ret <| ?_
                        refine p_ret0 rfl rfl (.tmp rfl <| .nil) ?_
                        rw [law7_few (j := q.1) (by omega) (by unfold few7; simp [*] <;> omega)]; rfl
                    · have phb10 := hb10; try simp at phb10
                      obtain hqe : q.1 = l.length := by omega
                      rw [hqe, List.take_length] at hqf hqa
                      have hX := hqs.at (j := k.toNat) (by omega)
                      have hx7 := law7_in (k := k) (a := a) (by omega) hqa hqf hqs.1
                      refine c_exit <| p_thn_exit <| p_lp_exit <| p_inb_exit <| p_thn <| c_seq <| c_region <| jm rfl rfl <| jia rfl rfl rfl (by omega) (by omega) <| jld 0 rfl rfl rfl (gS hqs.1 (by omega) (by omega)) (len_F _ _ _) <| jalloc rfl fun B16 => jstw 0 rfl rfl rfl rfl (len_F _ _ _) (one_F _ _ _) (len_F _ _ _) <| j_nil <| p_thn <| c_seq <| c_region <| jldw 0 rfl rfl rfl (len_F _ _ _) <| jm rfl rfl <| jcallv rfl rfl rfl (field_Loose _ _ _ (Nat.le_trans hX.2 (by decide)) _ _ hX.1) <| jm rfl rfl <| jext rfl rfl rfl <| jext rfl rfl rfl <| ja rfl rfl <| ja rfl rfl <| j_nil <| p_thn <| c_seq <| c_region <| jldw 0 rfl rfl rfl (len_F _ _ _) <| jm rfl rfl <| jm rfl rfl <| jcalls rfl rfl rfl (field_Reserve _ _ _ (Nat.le_trans hX.2 (by decide)) _ _ _ _ hX.1) fun A2c cap2c M2c hM2c hS2c => jm rfl rfl <| jext rfl rfl rfl <| jext rfl rfl rfl <| jext rfl rfl rfl <| jalloc rfl fun B17 => jstw 0 rfl rfl rfl rfl (len_F _ _ _) (one_F _ _ _) (len_F _ _ _) <| ja rfl rfl <| ja rfl rfl <| j_nil <| p_thn <| c_seq <| c_seq <| c_region <| jm rfl rfl <| jneq rfl rfl rfl <| j_nil <| p_thn <| c_cond rfl (fun hb18 => ?_) (fun hb18 => ?_)
                      · have phb18 := hb18; try simp at phb18
                        refine c_seq <| c_region <| jm rfl rfl <| jlss rfl rfl rfl <| jm rfl rfl <| jgs rfl rfl (fun hb19 => ?_) (fun hb19 => ?_)
                        · have phb19 := hb19; try simp at phb19
                          refine jg_off rfl rfl rfl hb19 <| jg_off rfl rfl rfl hb19 <| jg_off rfl rfl rfl hb19 <| jpick_t rfl rfl hb19 rfl <| jm rfl rfl <| jg_off rfl rfl rfl rfl <| jg_off rfl rfl rfl rfl <| jg_off rfl rfl rfl rfl <| jg_off rfl rfl rfl rfl <| jpick_t rfl rfl rfl rfl <| jm rfl rfl <| jg rfl rfl rfl <| jcallv rfl rfl rfl (law7_awake _) <| jpick_t rfl rfl rfl rfl <| ja rfl rfl <| j_nil <| p_thn <| c_ret <| p_thn_ret <| ?_
                          refine p_ret0 rfl rfl (.tmp rfl <| .nil) ?_
                          show Value.bool _ = _
                          rw [hx7]; congr 1; symm; unfold loose7
                          rw [if_pos (by omega)]; simp [*] <;> omega
                        · have phb19 := hb19; try simp at phb19
                          refine jg rfl rfl hb19 <| jm rfl rfl <| jg rfl rfl hb19 <| jm rfl rfl <| jg rfl rfl hb19 <| jgtr rfl rfl rfl <| jpick_f rfl rfl hb19 rfl <| jm rfl rfl <| jgs rfl rfl (fun hb20 => ?_) (fun hb20 => ?_)
                          · have phb20 := hb20; try simp at phb20
                            refine jg_off rfl rfl rfl hb20 <| jg_off rfl rfl rfl hb20 <| jg_off rfl rfl rfl hb20 <| jg_off rfl rfl rfl hb20 <| jpick_t rfl rfl hb20 rfl <| jm rfl rfl <| jg rfl rfl rfl <| jcallv rfl rfl rfl (law7_awake _) <| jpick_t rfl rfl rfl rfl <| ja rfl rfl <| j_nil <| p_thn <| c_ret <| p_thn_ret <| ?_
                            refine p_ret0 rfl rfl (.tmp rfl <| .nil) ?_
                            show Value.bool _ = _
                            rw [hx7]; congr 1; symm; unfold loose7
                            rw [if_pos (by omega)]; simp [*] <;> omega
                          · have phb20 := hb20; try simp at phb20
                            refine jg rfl rfl hb20 <| jfa rfl rfl rfl <| jg rfl rfl hb20 <| jld1 1 rfl rfl rfl (pF_holds _ _ _) <| jg rfl rfl hb20 <| jlen rfl rfl <| jg rfl rfl hb20 <| jeql rfl rfl rfl <| jpick_f rfl rfl hb20 rfl <| jm rfl rfl <| jgs rfl rfl (fun hb21 => ?_) (fun hb21 => ?_)
                            · have phb21 := hb21; try simp at phb21
                              refine jg rfl rfl hb21 <| jcallv rfl rfl rfl (law7_awake _) <| jpick_t rfl rfl hb21 rfl <| ja rfl rfl <| j_nil <| p_thn <| c_ret <| p_thn_ret <| ?_
                              refine p_ret0 rfl rfl (.tmp rfl <| .nil) ?_
                              show Value.bool _ = _
                              rw [hx7]; congr 1; symm; unfold loose7
                              rw [if_pos (by omega)]; simp [*] <;> omega
                            · have phb21 := hb21; try simp at phb21
                              refine jg_off rfl rfl rfl hb21 <| jpick_f rfl rfl hb21 rfl <| ja rfl rfl <| j_nil <| p_thn <| c_ret <| p_thn_ret <| ?_
                              refine p_ret0 rfl rfl (.tmp rfl <| .nil) ?_
                              show Value.bool _ = _
                              rw [hx7]; congr 1; symm; unfold loose7
                              rw [if_pos (by omega)]; simp [*] <;> omega
                      · have phb18 := hb18; try simp at phb18
                        refine c_skip <| p_thn <| c_seq <| c_region <| jldw 0 rfl rfl rfl (len_F _ _ _) <| jm rfl rfl <| jcallv rfl rfl rfl (field_Loose _ _ _ (Nat.le_trans (fReserve_len _ _ _ _) (by decide)) _ _ hS2c) <| jm rfl rfl <| jext rfl rfl rfl <| jext rfl rfl rfl <| ja rfl rfl <| ja rfl rfl <| j_nil <| p_thn <| c_seq <| c_region <| jldw 0 rfl rfl rfl (len_F _ _ _) <| jm rfl rfl <| jm rfl rfl <| jcalls rfl rfl rfl (field_End _ _ _ (Nat.le_trans (fReserve_len _ _ _ _) (by decide)) _ _ _ _ hS2c) fun A3c cap3c M3c hM3c hS3c => jm rfl rfl <| jext rfl rfl rfl <| jext rfl rfl rfl <| jalloc rfl fun B22 => jstw 0 rfl rfl rfl rfl (len_F _ _ _) (one_F _ _ _) (len_F _ _ _) <| ja rfl rfl <| j_nil <| p_thn <| c_seq <| c_region <| jldw 1 rfl rfl rfl (len_F _ _ _) <| jm rfl rfl <| jm rfl rfl <| jcalls rfl rfl rfl (field_End _ _ _ (Nat.le_trans (fReserve_len _ _ _ _) (by decide)) _ _ _ _ (hS2c.mono hM3c)) fun A4c cap4c M4c hM4c hS4c => jm rfl rfl <| jext rfl rfl rfl <| jext rfl rfl rfl <| jalloc rfl fun B23 => jstw 0 rfl rfl rfl rfl (len_F _ _ _) (one_F _ _ _) (len_F _ _ _) <| ja rfl rfl <| j_nil <| p_thn <| c_seq <| c_region <| jldw 1 rfl rfl rfl (len_F _ _ _) <| jm rfl rfl <| jcallv rfl rfl rfl (field_Loose _ _ _ (Nat.le_trans (fEnd_len _ _ _ _) (Nat.le_trans (fReserve_len _ _ _ _) (by decide))) _ _ (hS3c.mono hM4c)) <| jm rfl rfl <| jext rfl rfl rfl <| jext rfl rfl rfl <| ja rfl rfl <| ja rfl rfl <| j_nil <| p_thn <| c_seq <| c_region <| jldw 3 rfl rfl rfl (len_F _ _ _) <| jcallv rfl rfl rfl (field_View _ _ _ _) <| jm rfl rfl <| jext rfl rfl rfl <| jext rfl rfl rfl <| ja rfl rfl <| ja rfl rfl <| j_nil <| p_thn <| c_seq <| c_region <| jldw 0 rfl rfl rfl (len_F _ _ _) <| jcallv rfl rfl rfl (field_View _ _ _ _) <| jm rfl rfl <| jext rfl rfl rfl <| jext rfl rfl rfl <| ja rfl rfl <| ja rfl rfl <| j_nil <| p_thn <| c_seq <| c_region <| jldw 0 rfl rfl rfl (len_F _ _ _) <| jm rfl rfl <| jcallv rfl rfl rfl (field_Loose _ _ _ (Nat.le_trans (fEnd_len _ _ _ _) (Nat.le_trans (fReserve_len _ _ _ _) (by decide))) _ _ hS4c) <| jm rfl rfl <| jext rfl rfl rfl <| jext rfl rfl rfl <| ja rfl rfl <| ja rfl rfl <| j_nil <| p_thn <| c_seq <| c_region <| jm rfl rfl <| jeql rfl rfl rfl <| jm rfl rfl <| jgs rfl rfl (fun hb24 => ?_) (fun hb24 => ?_)
                        · have phb24 := hb24; try simp at phb24
                          refine jg rfl rfl hb24 <| jm rfl rfl <| jg rfl rfl hb24 <| jeql rfl rfl rfl <| jpick_t rfl rfl hb24 rfl <| jm rfl rfl <| jgs rfl rfl (fun hb25 => ?_) (fun hb25 => ?_)
                          · have phb25 := hb25; try simp at phb25
                            refine jg rfl rfl hb25 <| jm rfl rfl <| jg rfl rfl hb25 <| jm rfl rfl <| jg rfl rfl hb25 <| jm rfl rfl <| jg rfl rfl hb25 <| jsub rfl rfl rfl rfl <| jg rfl rfl hb25 <| jeql rfl rfl rfl <| jpick_t rfl rfl hb25 rfl <| jm rfl rfl <| jgs rfl rfl (fun hb26 => ?_) (fun hb26 => ?_)
                            · have phb26 := hb26; try simp at phb26
                              refine jg rfl rfl hb26 <| jm rfl rfl <| jg rfl rfl hb26 <| jm rfl rfl <| jg rfl rfl hb26 <| jeql rfl rfl rfl <| jpick_t rfl rfl hb26 rfl <| jm rfl rfl <| jgs rfl rfl (fun hb27 => ?_) (fun hb27 => ?_)
                              · have phb27 := hb27; try simp at phb27
                                refine jg rfl rfl hb27 <| jm rfl rfl <| jg rfl rfl hb27 <| jm rfl rfl <| jg rfl rfl hb27 <| jeql rfl rfl rfl <| jpick_t rfl rfl hb27 rfl <| jm rfl rfl <| jgs rfl rfl (fun hb28 => ?_) (fun hb28 => ?_)
                                · have phb28 := hb28; try simp at phb28
                                  refine jg rfl rfl hb28 <| jm rfl rfl <| jg rfl rfl hb28 <| jm rfl rfl <| jg rfl rfl hb28 <| jm rfl rfl <| jg rfl rfl hb28 <| jsub rfl rfl rfl rfl <| jg rfl rfl hb28 <| jeql rfl rfl rfl <| jpick_t rfl rfl hb28 rfl <| jm rfl rfl <| jgs rfl rfl (fun hb29 => ?_) (fun hb29 => ?_)
                                  · have phb29 := hb29; try simp at phb29
                                    refine jg rfl rfl hb29 <| jm rfl rfl <| jg rfl rfl hb29 <| jm rfl rfl <| jg rfl rfl hb29 <| jm rfl rfl <| jg rfl rfl hb29 <| jsub rfl rfl rfl rfl <| jg rfl rfl hb29 <| jeql rfl rfl rfl <| jpick_t rfl rfl hb29 rfl <| jm rfl rfl <| jgs rfl rfl (fun hb30 => ?_) (fun hb30 => ?_)
                                    · have phb30 := hb30; try simp at phb30
                                      refine jg rfl rfl hb30 <| jcallv rfl rfl rfl (law7_awake _) <| jpick_t rfl rfl hb30 rfl <| ja rfl rfl <| j_nil <| p_thn <| c_ret <| ?_
                                      refine p_ret0 rfl rfl (.tmp rfl <| .nil) ?_
                                      show Value.bool _ = _
                                      rw [hx7]; congr 1; symm; unfold loose7
                                      rw [if_neg (by omega)]; simp [*]
                                    · have phb30 := hb30; try simp at phb30
                                      refine jg_off rfl rfl rfl hb30 <| jpick_f rfl rfl hb30 rfl <| ja rfl rfl <| j_nil <| p_thn <| c_ret <| ?_
                                      refine p_ret0 rfl rfl (.tmp rfl <| .nil) ?_
                                      show Value.bool _ = _
                                      rw [hx7]; congr 1; symm; unfold loose7
                                      rw [if_neg (by omega)]; simp [*]
                                  · have phb29 := hb29; try simp at phb29
                                    refine jg_off rfl rfl rfl hb29 <| jg_off rfl rfl rfl hb29 <| jg_off rfl rfl rfl hb29 <| jg_off rfl rfl rfl hb29 <| jg_off rfl rfl rfl hb29 <| jpick_f rfl rfl hb29 rfl <| jm rfl rfl <| jg_off rfl rfl rfl rfl <| jpick_f rfl rfl rfl rfl <| ja rfl rfl <| j_nil <| p_thn <| c_ret <| ?_
                                    refine p_ret0 rfl rfl (.tmp rfl <| .nil) ?_
                                    show Value.bool _ = _
                                    rw [hx7]; congr 1; symm; unfold loose7
                                    rw [if_neg (by omega)]; simp [*]
                                · have phb28 := hb28; try simp at phb28
                                  refine jg_off rfl rfl rfl hb28 <| jg_off rfl rfl rfl hb28 <| jg_off rfl rfl rfl hb28 <| jg_off rfl rfl rfl hb28 <| jg_off rfl rfl rfl hb28 <| jpick_f rfl rfl hb28 rfl <| jm rfl rfl <| jg_off rfl rfl rfl rfl <| jg_off rfl rfl rfl rfl <| jg_off rfl rfl rfl rfl <| jg_off rfl rfl rfl rfl <| jg_off rfl rfl rfl rfl <| jpick_f rfl rfl rfl rfl <| jm rfl rfl <| jg_off rfl rfl rfl rfl <| jpick_f rfl rfl rfl rfl <| ja rfl rfl <| j_nil <| p_thn <| c_ret <| ?_
                                  refine p_ret0 rfl rfl (.tmp rfl <| .nil) ?_
                                  show Value.bool _ = _
                                  rw [hx7]; congr 1; symm; unfold loose7
                                  rw [if_neg (by omega)]; simp [*]
                              · have phb27 := hb27; try simp at phb27
                                refine jg_off rfl rfl rfl hb27 <| jg_off rfl rfl rfl hb27 <| jg_off rfl rfl rfl hb27 <| jpick_f rfl rfl hb27 rfl <| jm rfl rfl <| jg_off rfl rfl rfl rfl <| jg_off rfl rfl rfl rfl <| jg_off rfl rfl rfl rfl <| jg_off rfl rfl rfl rfl <| jg_off rfl rfl rfl rfl <| jpick_f rfl rfl rfl rfl <| jm rfl rfl <| jg_off rfl rfl rfl rfl <| jg_off rfl rfl rfl rfl <| jg_off rfl rfl rfl rfl <| jg_off rfl rfl rfl rfl <| jg_off rfl rfl rfl rfl <| jpick_f rfl rfl rfl rfl <| jm rfl rfl <| jg_off rfl rfl rfl rfl <| jpick_f rfl rfl rfl rfl <| ja rfl rfl <| j_nil <| p_thn <| c_ret <| ?_
                                refine p_ret0 rfl rfl (.tmp rfl <| .nil) ?_
                                show Value.bool _ = _
                                rw [hx7]; congr 1; symm; unfold loose7
                                rw [if_neg (by omega)]; simp [*]
                            · have phb26 := hb26; try simp at phb26
                              refine jg_off rfl rfl rfl hb26 <| jg_off rfl rfl rfl hb26 <| jg_off rfl rfl rfl hb26 <| jpick_f rfl rfl hb26 rfl <| jm rfl rfl <| jg_off rfl rfl rfl rfl <| jg_off rfl rfl rfl rfl <| jg_off rfl rfl rfl rfl <| jpick_f rfl rfl rfl rfl <| jm rfl rfl <| jg_off rfl rfl rfl rfl <| jg_off rfl rfl rfl rfl <| jg_off rfl rfl rfl rfl <| jg_off rfl rfl rfl rfl <| jg_off rfl rfl rfl rfl <| jpick_f rfl rfl rfl rfl <| jm rfl rfl <| jg_off rfl rfl rfl rfl <| jg_off rfl rfl rfl rfl <| jg_off rfl rfl rfl rfl <| jg_off rfl rfl rfl rfl <| jg_off rfl rfl rfl rfl <| jpick_f rfl rfl rfl rfl <| jm rfl rfl <| jg_off rfl rfl rfl rfl <| jpick_f rfl rfl rfl rfl <| ja rfl rfl <| j_nil <| p_thn <| c_ret <| ?_
                              refine p_ret0 rfl rfl (.tmp rfl <| .nil) ?_
                              show Value.bool _ = _
                              rw [hx7]; congr 1; symm; unfold loose7
                              rw [if_neg (by omega)]; simp [*]
                          · have phb25 := hb25; try simp at phb25
                            refine jg_off rfl rfl rfl hb25 <| jg_off rfl rfl rfl hb25 <| jg_off rfl rfl rfl hb25 <| jg_off rfl rfl rfl hb25 <| jg_off rfl rfl rfl hb25 <| jpick_f rfl rfl hb25 rfl <| jm rfl rfl <| jg_off rfl rfl rfl rfl <| jg_off rfl rfl rfl rfl <| jg_off rfl rfl rfl rfl <| jpick_f rfl rfl rfl rfl <| jm rfl rfl <| jg_off rfl rfl rfl rfl <| jg_off rfl rfl rfl rfl <| jg_off rfl rfl rfl rfl <| jpick_f rfl rfl rfl rfl <| jm rfl rfl <| jg_off rfl rfl rfl rfl <| jg_off rfl rfl rfl rfl <| jg_off rfl rfl rfl rfl <| jg_off rfl rfl rfl rfl <| jg_off rfl rfl rfl rfl <| jpick_f rfl rfl rfl rfl <| jm rfl rfl <| jg_off rfl rfl rfl rfl <| jg_off rfl rfl rfl rfl <| jg_off rfl rfl rfl rfl <| jg_off rfl rfl rfl rfl <| jg_off rfl rfl rfl rfl <| jpick_f rfl rfl rfl rfl <| jm rfl rfl <| jg_off rfl rfl rfl rfl <| jpick_f rfl rfl rfl rfl <| ja rfl rfl <| j_nil <| p_thn <| c_ret <| ?_
                            refine p_ret0 rfl rfl (.tmp rfl <| .nil) ?_
                            show Value.bool _ = _
                            rw [hx7]; congr 1; symm; unfold loose7
                            rw [if_neg (by omega)]; simp [*]
                        · have phb24 := hb24; try simp at phb24
                          refine jg_off rfl rfl rfl hb24 <| jg_off rfl rfl rfl hb24 <| jpick_f rfl rfl hb24 rfl <| jm rfl rfl <| jg_off rfl rfl rfl rfl <| jg_off rfl rfl rfl rfl <| jg_off rfl rfl rfl rfl <| jg_off rfl rfl rfl rfl <| jg_off rfl rfl rfl rfl <| jpick_f rfl rfl rfl rfl <| jm rfl rfl <| jg_off rfl rfl rfl rfl <| jg_off rfl rfl rfl rfl <| jg_off rfl rfl rfl rfl <| jpick_f rfl rfl rfl rfl <| jm rfl rfl <| jg_off rfl rfl rfl rfl <| jg_off rfl rfl rfl rfl <| jg_off rfl rfl rfl rfl <| jpick_f rfl rfl rfl rfl <| jm rfl rfl <| jg_off rfl rfl rfl rfl <| jg_off rfl rfl rfl rfl <| jg_off rfl rfl rfl rfl <| jg_off rfl rfl rfl rfl <| jg_off rfl rfl rfl rfl <| jpick_f rfl rfl rfl rfl <| jm rfl rfl <| jg_off rfl rfl rfl rfl <| jg_off rfl rfl rfl rfl <| jg_off rfl rfl rfl rfl <| jg_off rfl rfl rfl rfl <| jg_off rfl rfl rfl rfl <| jpick_f rfl rfl rfl rfl <| jm rfl rfl <| jg_off rfl rfl rfl rfl <| jpick_f rfl rfl rfl rfl <| ja rfl rfl <| j_nil <| p_thn <| c_ret <| ?_
                          refine p_ret0 rfl rfl (.tmp rfl <| .nil) ?_
                          show Value.bool _ = _
                          rw [hx7]; congr 1; symm; unfold loose7
                          rw [if_neg (by omega)]; simp [*]
end Go.Proofs.YtihgpbpcbbgdiaaGreat
