/- Several texts in one. -/
import Derived.Test.YtihgpbpcbbgdiaaGreatOrd27
/- barrier.Ack. -/
namespace Go.Proofs.YtihgpbpcbbgdiaaGreat
open Go.RowKit
set_option linter.unusedVariables false
set_option linter.unusedSimpArgs false
def ackOne (l : List Field) (f : Field) : Field × Int := if plFind l f.name < 0 then (f, 1) else fJoin f (ix fZ l (plFind l f.name).toNat)
def ackErr (l : List Field) (js : List Field) : Int := match js.find? (fun f => decide ((ackOne l f).2 ≠ 0)) with | some f => (ackOne l f).2 | none => 0
def ackAll (l js : List Field) : List Field := js.map fun f => (ackOne l f).1
def setE (e : Int) (f : Field) : Field := { f with epoch := e }
def bAck (b : Bar) (k number : Int) (l : List Field) : Bar × Int :=
  if bOther b k = false then (bZ, 1) else if b.state ≠ 1 ∨ number ≠ b.number then (bZ, 12) else if ackErr l b.joined ≠ 0 then (bZ, ackErr l b.joined) else
  if orI b.acked (shlI 1 k) ≠ bAll b then ({ b with acked := orI b.acked (shlI 1 k), joined := ackAll l b.joined }, 0) else
  if (plApply (ackAll l b.joined) b.plan).2 = 0 then ({ b with acked := orI b.acked (shlI 1 k), joined := ackAll l b.joined, state := 2, made := (plApply (ackAll l b.joined) b.plan).1.map (setE b.epoch) }, 0)
  else ({ b with acked := orI b.acked (shlI 1 k), joined := ackAll l b.joined, state := 3 }, 0)
theorem plApply_len {l : List Field} {p : Plan} : (plApply l p).1.length ≤ l.length + 2 := by
  unfold plApply
  split
  · exact Nat.zero_le _
  · have := (nSort_perm (plOut l p)).length_eq
    show (nSort (plOut l p)).length ≤ _
    rw [this]; unfold plOut plRest
    rw [List.length_append]
    have h1 := plChange_len (plFld l p) (plOth l p) p
    have h2 := List.length_filter_le (fun f => !touched p f.name) l
    omega
theorem ackErr_at {l js : List Field} {k : Nat} (h : k < js.length) (h0 : ∀ f ∈ js.take k, (ackOne l f).2 = 0) (h1 : (ackOne l (ix fZ js k)).2 ≠ 0) : ackErr l js = (ackOne l (ix fZ js k)).2 := by
  unfold ackErr
  have : js.find? (fun f => decide ((ackOne l f).2 ≠ 0)) = some (ix fZ js k) := by
    rw [List.find?_eq_some_iff_append]
    refine ⟨by simp [h1], js.take k, js.drop (k + 1), ?_, fun a ha => by simp [h0 a ha]⟩
    rw [ix_eq h, ← List.drop_eq_getElem_cons h, List.take_append_drop]
  rw [this]
theorem ackErr_0 {l js : List Field} (h0 : ∀ f ∈ js, (ackOne l f).2 = 0) : ackErr l js = 0 := by
  unfold ackErr
  have : js.find? (fun f => decide ((ackOne l f).2 ≠ 0)) = none := List.find?_eq_none.2 fun f hf => by simp [h0 f hf]
  rw [this]
theorem fJoin_name (f g : Field) (h : (fJoin f g).2 = 0) : (fJoin f g).1.name = f.name := by
  unfold fJoin at *
  split at h
  · simp at h
  · rename_i c; rw [if_neg c]
    split at h
    · rename_i c2; exact absurd h c2
    · rename_i c2; rw [if_neg c2]
      split at h
      · rename_i c3; exact absurd h c3
      · rename_i c3; rw [if_neg c3]
theorem ackOne_name {l : List Field} {f : Field} (h : (ackOne l f).2 = 0) : (ackOne l f).1.name = f.name := by
  unfold ackOne at *
  split at h
  · simp at h
  · rename_i c; rw [if_neg c]; exact fJoin_name _ _ h
theorem ackOne_len {l : List Field} {f : Field} (h : (ackOne l f).2 = 0) : (ackOne l f).1.holds.length ≤ 16 := by
  unfold ackOne at *
  split at h
  · simp at h
  · rename_i c; rw [if_neg c]; exact fJoin_len _ _
theorem ackAll_ok {l js : List Field} (hj : FsOk js) (h0 : ∀ f ∈ js, (ackOne l f).2 = 0) : FsOk (ackAll l js) := by
  unfold ackAll
  refine ⟨by rw [List.length_map]; exact hj.1, fun x hx => ?_⟩
  obtain ⟨f, hf, rfl⟩ := List.mem_map.1 hx
  exact ⟨Nat.le_trans (ackOne_len (h0 f hf)) (by decide), by rw [ackOne_name (h0 f hf)]; exact (hj.2 f hf).2⟩
theorem uS_epoch (s : FS) (n : Int) : (encS s).take 2 ++ [vi n] ++ (encS s).drop (2 + 1) = encS ⟨{ s.f with epoch := n }, s.A, s.cap⟩ := uF_epoch _ _ _ _
def setS (e : Int) (s : FS) : FS := ⟨setE e s.f, s.A, s.cap⟩
def epS (e : Int) (ys : List FS) (k : Nat) : List FS := (ys.take k).map (setS e) ++ ys.drop k
theorem epS_0 (e : Int) (ys : List FS) : epS e ys 0 = ys := rfl
theorem epS_all (e : Int) (ys : List FS) : epS e ys ys.length = ys.map (setS e) := by unfold epS; rw [List.take_length, List.drop_length, List.append_nil]
theorem epS_len (e : Int) (ys : List FS) (k : Nat) : (epS e ys k).length = ys.length := by unfold epS; simp; omega
theorem epS_at {e : Int} {ys : List FS} {k : Nat} (h : k < ys.length) : ix sZ (epS e ys k) k = ix sZ ys k := by
  unfold epS
  rw [ix_eq (by simp; omega), ix_eq h, List.getElem_append_right (by simp; omega)]
  simp [Nat.min_eq_left (Nat.le_of_lt h)]
theorem epS_set {e : Int} {ys : List FS} {k : Nat} (h : k < ys.length) : (epS e ys k).set k (setS e (ix sZ (epS e ys k) k)) = epS e ys (k + 1) := by
  rw [epS_at h]
  unfold epS
  rw [List.set_append_right _ _ (by simp; omega), List.take_add_one, ix_get (z := sZ) h, List.map_append, List.append_assoc]
  congr 1
  rw [List.length_map, List.length_take, Nat.min_eq_left (by omega), Nat.sub_self, List.drop_eq_getElem_cons h, List.set_cons_zero]; rfl
theorem epS_k {M : Mem} {e : Int} {ys : List FS} (h : FSk M ys) : FSk M (ys.map (setS e)) := fun s hs => by
  obtain ⟨t, ht, rfl⟩ := List.mem_map.1 hs
  exact h t ht
theorem FSk.set {M : Mem} {ts : List FS} {s : FS} {k : Nat} (h : FSk M ts) (hs : SlR rHold M s.A s.cap s.f.holds) : FSk M (ts.set k s) := fun t ht => by
  rcases List.mem_or_eq_of_mem_set ht with h1 | h1
  · exact h t h1
  · rw [h1]; exact hs
theorem ack_set {l js : List Field} {cur : List FS} {s : FS} {k : Nat} (hk : k < js.length) (hc : cur.map FS.f = (js.take k).map (fun f => (ackOne l f).1) ++ js.drop k) (hs : s.f = (ackOne l (ix fZ js k)).1) :
    (cur.set k s).map FS.f = (js.take (k + 1)).map (fun f => (ackOne l f).1) ++ js.drop (k + 1) := by
  rw [List.map_set, hc, List.set_append_right _ _ (by simp; omega), List.take_add_one, ix_get (z := fZ) hk, List.map_append, List.append_assoc]
  congr 1
  rw [List.length_map, List.length_take, Nat.min_eq_left (by omega), Nat.sub_self, List.drop_eq_getElem_cons hk, List.set_cons_zero, hs]; rfl
theorem ack_at {l js : List Field} {cur : List FS} {k : Nat} (hk : k < js.length) (hc : cur.map FS.f = (js.take k).map (fun f => (ackOne l f).1) ++ js.drop k) : (ix sZ cur k).f = ix fZ js k := by
  have hl : cur.length = js.length := by have := congrArg List.length hc; simp at this; omega
  have e : ix fZ (cur.map FS.f) k = (ix sZ cur k).f := by rw [ix_eq (by simp; omega), ix_eq (by omega), List.getElem_map]
  rw [← e, hc, ix_eq (by simp; omega), ix_eq hk, List.getElem_append_right (by simp; omega)]
  simp [Nat.min_eq_left (Nat.le_of_lt hk)]
section
variable {cx : Cx} {Q : Post} {E : Env} {M : Mem} {L : List Ent} {ops : Array Oper} {d T : Nat} {pos : String} {af : Array Edge} {rest : List Oper} {x y z : Operand} {v u : Value}
theorem jApply {args tys : Array _} {vs : List Value} {l : List Field} {p : Plan} (hP : cx.P = Tryz.prog) (hn : Nat.blt d cx.n = true)
    (hx : ev E x = some (.func (.func 47) #[] #[])) (ha : evL E args.toList = some vs) (hc : Ctr Tryz.prog 47 vs M [] (fun v M' L' => ∃ ys, ys.map FS.f = (plApply l p).1 ∧ FSk M' ys ∧ ∃ u : Value, v = .tuple #[u, vi (plApply l p).2] ∧ L' = [.row u 49 587 ys.length (ys.flatMap encS)]))
    (hk : ∀ A cap M' ys, MLe M M' → ys.map FS.f = (plApply l p).1 → FSk M' ys → J cx ops Q rest ((d, .tuple #[.slice A ys.length cap, vi (plApply l p).2]) :: E) M' (.row (.slice A ys.length cap) 49 587 ys.length (ys.flatMap encS) :: L)) : J cx ops Q (⟨some d, .call ⟨.value x, args, tys⟩, T, pos, af, none⟩ :: rest) E M L := by
  haveI : FnI cx.P 47 := by rw [hP]; exact inferInstance
  refine jcall (fi := []) (ca := []) (Lb := []) (Lr := L) hn hx ha rfl (by rw [hP, List.append_nil]; exact hc) (fun v M' L' hm h => ?_)
  obtain ⟨ys, h1, h2, u, rfl, rfl⟩ := h
  intro a w hs ho
  have hrow := (ho.at' (i := 0) rfl).2
  have : ∃ A cap, u = .slice A ys.length cap := by
    rcases hrow with ⟨h0, A, rfl⟩ | ⟨B, cap, rest, rfl, _⟩
    · exact ⟨A, 0, by rw [h0]⟩
    · exact ⟨some ⟨B, 0, none⟩, cap, rfl⟩
  obtain ⟨A, cap, rfl⟩ := this
  exact hk A cap M' ys hm h1 h2 a w hs ho
end
attribute [local irreducible] ackOne plFind fJoin epS plApply

theorem barrier_Ack (b : Bar) (A1 : Option Addr) (c1 : Nat) (A2 : Option Addr) (c2 : Nat) (k0 number : Int) (l : List Field) (A : Option Addr) (cap : Nat) (hf : FsOk l) (hb : BOk b) (M : Mem) (hJ : SlR rField M A1 c1 b.joined) (hM : SlR rField M A2 c2 b.made) (hS : SlR rField M A cap l) : Ctr Tryz.prog 13 [.agg (encB b A1 c1 A2 c2).toArray, vi k0, vi number, .slice A l.length cap] M [] (fun v M' _ => ∃ c, BarK M' (bAck b k0 number l).1 c ∧ v = .tuple #[.agg c.toArray, vi (bAck b k0 number l).2]) := by
  have hl := hf.1
  have hjl := hb.1.1
  refine ctr Tryz.func13 rfl Tryz.ntmps13 rfl fun w => ?_
  refine c_seq <| c_region <| jbox rfl rfl rfl fun B1 => jalloc rfl fun B2 => ja rfl rfl <| j_nil <| p_thn <| c_seq <| c_block <| c_seq <| c_region <| jldw 1 rfl rfl rfl (len_B _ _ _) <| jm rfl rfl <| jcallv rfl rfl rfl (barrier_other _ _ _ _ _ _ _) <| jnot rfl rfl <| ja rfl rfl <| j_nil <| p_thn <| c_cond rfl (fun hb3 => ?_) (fun hb3 => ?_)
  · have phb3 := hb3; try simp at phb3
    refine c_seq <| c_region <| jbu0 rfl <| jstw 0 rfl rfl rfl rfl (len_B _ _ _) (one_B _ _ _ _ _) (len_B _ _ _) <| ja rfl rfl <| j_nil <| p_thn <| c_ret <| p_inb_ret <| p_thn_ret <| ?_
    refine p_ret0 rfl rfl (.agg 0 inferInstance rfl rfl (len_B _ _ _) <| .tmp rfl <| .nil) ?_
    unfold bAck
    rw [if_pos (by simp [*])]
    exact ⟨_, ⟨none, 0, none, 0, rfl, SlR.nil, SlR.nil⟩, rfl⟩
  · have phb3 := hb3; try simp at phb3
    refine c_seq <| c_region <| jfa rfl rfl rfl <| jld1 1 rfl rfl rfl rfl <| jneq rfl rfl rfl <| jm rfl rfl <| jgs rfl rfl (fun hb4 => ?_) (fun hb4 => ?_)
    · have phb4 := hb4; try simp at phb4
      refine jg_off rfl rfl rfl hb4 <| jg_off rfl rfl rfl hb4 <| jg_off rfl rfl rfl hb4 <| jg_off rfl rfl rfl hb4 <| jpick_t rfl rfl hb4 rfl <| ja rfl rfl <| j_nil <| p_thn <| c_cond_kt rfl rfl <| c_seq <| c_region <| jbu0 rfl <| jstw 0 rfl rfl rfl rfl (len_B _ _ _) (one_B _ _ _ _ _) (len_B _ _ _) <| ja rfl rfl <| j_nil <| p_thn <| c_ret <| p_inb_ret <| p_thn_ret <| ?_
      refine p_ret0 rfl rfl (.agg 0 inferInstance rfl rfl (len_B _ _ _) <| .tmp rfl <| .nil) ?_
      unfold bAck
      rw [if_neg (by simp [*]), if_pos (by omega)]
      exact ⟨_, ⟨none, 0, none, 0, rfl, SlR.nil, SlR.nil⟩, rfl⟩
    · have phb4 := hb4; try simp at phb4
      refine jg rfl rfl hb4 <| jm rfl rfl <| jg rfl rfl hb4 <| jfa rfl rfl rfl <| jg rfl rfl hb4 <| jld1 1 rfl rfl rfl rfl <| jg rfl rfl hb4 <| jneq rfl rfl rfl <| jpick_f rfl rfl hb4 rfl <| ja rfl rfl <| j_nil <| p_thn <| c_cond rfl (fun hb5 => ?_) (fun hb5 => ?_)
      · have phb5 := hb5; try simp at phb5
        refine c_seq <| c_region <| jbu0 rfl <| jstw 0 rfl rfl rfl rfl (len_B _ _ _) (one_B _ _ _ _ _) (len_B _ _ _) <| ja rfl rfl <| j_nil <| p_thn <| c_ret <| p_inb_ret <| p_thn_ret <| ?_
        refine p_ret0 rfl rfl (.agg 0 inferInstance rfl rfl (len_B _ _ _) <| .tmp rfl <| .nil) ?_
        unfold bAck
        rw [if_neg (by simp [*]), if_pos (by omega)]
        exact ⟨_, ⟨none, 0, none, 0, rfl, SlR.nil, SlR.nil⟩, rfl⟩
      · have phb5 := hb5; try simp at phb5
        refine c_skip <| p_inb <| p_thn <| c_seq <| c_region <| jldw 1 rfl rfl rfl (len_B _ _ _) <| jcopied rfl rfl rfl (barrier_copied _ _ _ _ _ hb _ hJ hM) fun A1o c1o A2o c2o M0 ts1 ts2 hM0 ht1 ht2 hk1 hk2 => jstw 3 rfl rfl rfl rfl (len_B _ _ _) (one_B _ _ _ _ _) (len_B _ _ _) <| j_nil <| p_thn <| c_seq <| c_seq <| c_region <| jfa rfl rfl rfl <| jld1 3 rfl rfl rfl rfl <| jrlen 0 rfl rfl rfl <| jm rfl rfl <| j_nil <| p_thn <| c_block <| c_lpML (X := Nat × Mem × List FS) (fun q => q.1 ≤ b.joined.length ∧ MLe M0 q.2.1 ∧ FSk q.2.1 q.2.2 ∧ q.2.2.map FS.f = (b.joined.take q.1).map (fun f => (ackOne l f).1) ++ b.joined.drop q.1 ∧ ∀ f ∈ b.joined.take q.1, (ackOne l f).2 = 0) (fun q => b.joined.length - q.1) (fun q => [(41, vi (q.1 : Int))]) [40, 39, 8, 4, 3, 1] (fun q => q.2.1) (fun q => [.row (.slice A1o b.joined.length c1o) 49 587 b.joined.length (q.2.2.flatMap encS), .row (.slice A2o b.made.length c2o) 49 587 b.made.length (ts2.flatMap encS), .blk B2 29 (encB bZ none 0 none 0), .blk B1 29 (encBv b (.slice A1o b.joined.length c1o) (.slice A2o b.made.length c2o))]) (0, M0, ts1) ?_ (sub_c rfl <| sub_c rfl <| sub_c rfl <| sub_c rfl <| sub_c rfl <| sub_c rfl <| sub_c rfl <| sub_n) rfl rfl ?_
        · exact ⟨Nat.zero_le _, MLe.refl _, hk1, by simpa using ht1, fun f hf => by simp at hf⟩
        · intro q hI
          obtain ⟨k, M1, cur⟩ := q
          dsimp only at hI ⊢
          obtain ⟨hk, hm, hfk, hc, h0⟩ := hI
          have hcl : cur.length = b.joined.length := by { have := congrArg List.length hc; simp at this; omega }
          have hS := (hS.mono hM0).mono hm
          refine c_seq <| c_region <| jlss rfl rfl rfl <| j_nil <| p_thn <| c_seq <| c_cond rfl (fun hb6 => ?_) (fun hb6 => ?_)
          · have phb6 := hb6; try simp at phb6
            have hck := ack_at (k := k) (by omega) hc
            have hl1 : (ix sZ cur k).f.holds.length ≤ 10000 := by rw [hck]; exact (hb.1.2 _ (ix_mem (by omega))).1
            have hk1' := hfk.at (k := k) (by omega)
            refine c_skip <| p_thn <| c_seq <| c_block <| c_seq <| c_region <| jm rfl rfl <| j_open (by first | omega | (simp; omega)) fun Bo1 capo1 rso1 hvo1 hco1 hro1 hlo1 => ?_
            cases hvo1
            refine jis rfl rfl rfl (by omega) (by first | omega | (simp; omega)) <| jld 0 rfl rfl rfl (flatk_getw (i := k) len_S (z := sZ) (by first | omega | (simp; omega))) (len_F _ _ _) <| jalloc rfl fun B7 => ja rfl rfl <| jstw 0 rfl rfl rfl rfl (len_F _ _ _) (one_F _ _ _) (len_F _ _ _) <| j_nil <| p_thn <| c_seq <| c_region <| jm rfl rfl <| jfa rfl rfl rfl <| jld1 0 rfl rfl rfl rfl <| jcallv rfl rfl rfl (plan_Find _ _ _ hf _ _ hS) <| jm rfl rfl <| jext rfl rfl rfl <| jext rfl rfl rfl <| ja rfl rfl <| ja rfl rfl <| j_nil <| p_thn <| c_seq <| c_seq <| c_region <| jm rfl rfl <| jnot rfl rfl <| j_nil <| p_thn <| c_cond rfl (fun hb8 => ?_) (fun hb8 => ?_)
            · have phb8 := hb8; try simp at phb8
              refine c_seq <| c_region <| jbu0 rfl <| jstw 3 rfl rfl rfl rfl (len_B _ _ _) (one_B _ _ _ _ _) (len_B _ _ _) <| ja rfl rfl <| j_nil <| p_thn <| c_ret <| p_thn_ret <| p_inb_ret <| p_thn_ret <| p_lp_ret <| p_inb_ret <| p_thn_ret <| ?_
              refine p_ret0 rfl rfl (.agg 3 inferInstance rfl rfl (len_B _ _ _) <| .tmp rfl <| .nil) ?_
              have hao : (ackOne l (ix fZ b.joined k)).2 = 1 := by unfold ackOne; rw [← hck, if_pos (by omega)]
              have hne : (ackOne l (ix fZ b.joined k)).2 ≠ 0 := by rw [hao]; decide
              unfold bAck
              rw [if_neg (by simp [*]), if_neg (by omega), if_pos (by rw [ackErr_at (by omega) h0 hne]; exact hne), ackErr_at (by omega) h0 hne, hao]
              exact ⟨_, ⟨none, 0, none, 0, rfl, SlR.nil, SlR.nil⟩, rfl⟩
            · have phb8 := hb8; try simp at phb8
              have hfound : 0 ≤ plFind l (ix sZ cur k).f.name := by omega
              refine c_skip <| p_thn <| c_seq <| c_draw [0, 3, 4] (by kernel_rfl) <| jd_first (i := 0) rfl rfl (by kernel_rfl) (by kernel_rfl) (by kernel_rfl) (by kernel_rfl) (by kernel_rfl) rfl (fun _ h => h) (yldw 0 rfl rfl (len_F _ _ _)) <| jd_z (i := 1) rfl rfl (by kernel_rfl) (by kernel_rfl) (by kernel_rfl) (by kernel_rfl) rfl (zm rfl) <| jd_z (i := 2) rfl rfl (by kernel_rfl) (by kernel_rfl) (by kernel_rfl) (by kernel_rfl) rfl (zm rfl) <| ?_
              obtain ⟨n, hn⟩ : ∃ n : Nat, plFind l (ix sZ cur k).f.name = n := ⟨_, (Int.toNat_of_nonneg hfound).symm⟩
              have hnl : n < l.length := by { have := plFind_lt hfound; rw [hn] at this; simpa using this }
              have hao : ackOne l (ix fZ b.joined k) = fJoin (ix sZ cur k).f (ix fZ l n) := by unfold ackOne; rw [← hck, hn, if_neg (by omega)]; simp
              have hl2 : (ix fZ l n).holds.length ≤ 10000 := (hf.2 _ (ix_mem hnl)).1
              rw [hn, show max (n : Int) 0 = n by omega]
              refine jd_first (i := 3) rfl rfl (by kernel_rfl) (by kernel_rfl) (by kernel_rfl) (by kernel_rfl) (by kernel_rfl) rfl (fun _ h => h) (yi rfl rfl (by omega) (by omega) (hS.adr (i := n) (by omega))) <| ?_
              obtain ⟨Af61, capf61, hH61, hc61⟩ := hS.fld (i := n) (by omega)
              refine jd_first (i := 4) rfl rfl (by kernel_rfl) (by kernel_rfl) (by kernel_rfl) (by kernel_rfl) (by kernel_rfl) rfl (fun _ h => h) (ylF rfl hc61) <| jd_two (i := 5) (j := 9) (by kernel_rfl) rfl rfl ?_ ?_
              · skip
                refine jcalls rfl rfl rfl (field_Join _ _ _ hl1 _ _ _ hl2 _ hk1' hH61) fun A1c cap1c M1c hM1c hS1c => j_nil <| p_jd rfl (.inl (by kernel_rfl)) <| jd_z (i := 6) rfl rfl (by kernel_rfl) (by kernel_rfl) (by kernel_rfl) (by kernel_rfl) rfl (zm rfl) <| jd_z (i := 7) rfl rfl (by kernel_rfl) (by kernel_rfl) (by kernel_rfl) (by kernel_rfl) rfl (zext rfl rfl) <| jd_z (i := 8) rfl rfl (by kernel_rfl) (by kernel_rfl) (by kernel_rfl) (by kernel_rfl) rfl (zext rfl rfl) <| jd_one (i := 9) (by kernel_rfl) rfl <| jalloc rfl fun B9 => j_nil <| p_jd rfl (.inr (fun _ h => (Own.less0 (h.drop (L := [_])) hM1c (hM0.trans hm)))) <| jd_one (i := 10) (by kernel_rfl) rfl <| jstw 0 rfl rfl rfl rfl (len_F _ _ _) (one_F _ _ _) (len_F _ _ _) <| j_nil <| p_jd rfl (.inl (by kernel_rfl)) <| jd_z (i := 11) rfl rfl (by kernel_rfl) (by kernel_rfl) (by kernel_rfl) (by kernel_rfl) rfl (za rfl) <| jd_done (by kernel_rfl) <| p_thn <| c_seq <| c_seq <| c_region <| jm rfl rfl <| jneq rfl rfl rfl <| j_nil <| p_thn <| c_cond rfl (fun hb10 => ?_) (fun hb10 => ?_)
                · have phb10 := hb10; try simp at phb10
                  refine c_seq <| c_region <| jbu0 rfl <| jm rfl rfl <| jstw 4 rfl rfl rfl rfl (len_B _ _ _) (one_B _ _ _ _ _) (len_B _ _ _) <| ja rfl rfl <| j_nil <| p_thn <| c_ret <| p_thn_ret <| p_inb_ret <| p_thn_ret <| p_lp_ret <| p_inb_ret <| p_thn_ret <| ?_
                  refine p_ret0 rfl rfl (.agg 4 inferInstance rfl rfl (len_B _ _ _) <| .tmp rfl <| .nil) ?_
                  have hne : (ackOne l (ix fZ b.joined k)).2 ≠ 0 := by rw [hao]; assumption
                  unfold bAck
                  rw [if_neg (by simp [*]), if_neg (by omega), if_pos (by rw [ackErr_at (by omega) h0 hne]; exact hne), ackErr_at (by omega) h0 hne, hao]
                  exact ⟨_, ⟨none, 0, none, 0, rfl, SlR.nil, SlR.nil⟩, rfl⟩
                · have phb10 := hb10; try simp at phb10
                  refine c_skip <| p_thn <| c_region <| jfa rfl rfl rfl <| jld1 5 rfl rfl rfl rfl <| jm rfl rfl <| jldw 0 rfl rfl rfl (len_F _ _ _) <| jis rfl rfl rfl (by omega) (by first | omega | (simp; omega)) <| jst 2 rfl rfl rfl rfl (len_F _ _ _) (one_F _ _ _) (by rw [List.length_append, flatk_len len_S]; simp; omega) (flatk_putw (i := k) (x := ⟨(fJoin (ix sZ cur k).f (ix fZ l n)).1, A1c, cap1c⟩) len_S (by first | omega | (simp; omega))) <| j_nil <| p_inb <| p_thn <| c_region <| jadd rfl rfl rfl (by first | exact wr (by omega) (by omega) | rfl) <| jm rfl rfl <| j_nil <| jp_perm (fr_s <| fr_s <| fr_0) <| jp_shut (by first | omega | (simp; omega)) hco1 hro1 (by first | exact hlo1 | (rw [flatk_len len_S]; simp <;> omega)) <| jp_perm (fr_s <| fr_s <| fr_s <| fr_s <| fr_s <| fr_0) <| jp_perm (fr_s <| fr_s <| fr_s <| fr_s <| fr_s <| fr_0) <| jp_perm (fr_s <| fr_s <| fr_s <| fr_s <| fr_s <| fr_0) <| jp_perm (fr_s <| fr_s <| fr_s <| fr_0) <| jp_tk (ap_s <| ap_s <| ap_s <| ap_s <| ap_0) <| ?_
                  refine p_lp ((k + 1, M1c, cur.set k ⟨(fJoin (ix sZ cur k).f (ix fZ l n)).1, A1c, cap1c⟩)) ?_ ?_ (sub_c rfl <| sub_c rfl <| sub_c rfl <| sub_c rfl <| sub_c rfl <| sub_c rfl <| sub_c rfl <| sub_n) rfl rfl
                  · refine ⟨by show _ ≤ _; omega, hm.trans hM1c, (hfk.mono hM1c).set hS1c, ack_set (by omega) hc (by rw [hao]), ?_⟩
                    rw [List.take_add_one, ix_get (z := fZ) (by omega)]
                    intro f hf
                    rcases List.mem_append.1 hf with h | h
                    · exact h0 f h
                    · simp at h; rw [h, hao]; omega
                  · show _ - _ < _ - _; omega
              · skip
                refine jalloc rfl fun B11 => j_nil <| p_jd rfl (.inr (fun _ h => (h.drop (L := [_])))) <| jd_one (i := 5) (by kernel_rfl) rfl <| jcalls rfl rfl rfl (field_Join _ _ _ hl1 _ _ _ hl2 _ hk1' hH61) fun A2c cap2c M2c hM2c hS2c => j_nil <| p_jd rfl (.inl (by kernel_rfl)) <| jd_z (i := 6) rfl rfl (by kernel_rfl) (by kernel_rfl) (by kernel_rfl) (by kernel_rfl) rfl (zm rfl) <| jd_z (i := 7) rfl rfl (by kernel_rfl) (by kernel_rfl) (by kernel_rfl) (by kernel_rfl) rfl (zext rfl rfl) <| jd_z (i := 8) rfl rfl (by kernel_rfl) (by kernel_rfl) (by kernel_rfl) (by kernel_rfl) rfl (zext rfl rfl) <| jd_one (i := 10) (by kernel_rfl) rfl <| jstw 0 rfl rfl rfl rfl (len_F _ _ _) (one_F _ _ _) (len_F _ _ _) <| j_nil <| p_jd rfl (.inl (by kernel_rfl)) <| jd_z (i := 11) rfl rfl (by kernel_rfl) (by kernel_rfl) (by kernel_rfl) (by kernel_rfl) rfl (za rfl) <| jd_done (by kernel_rfl) <| p_thn <| c_seq <| c_seq <| c_region <| jm rfl rfl <| jneq rfl rfl rfl <| j_nil <| p_thn <| c_cond rfl (fun hb12 => ?_) (fun hb12 => ?_)
                · have phb12 := hb12; try simp at phb12
                  refine c_seq <| c_region <| jbu0 rfl <| jm rfl rfl <| jstw 4 rfl rfl rfl rfl (len_B _ _ _) (one_B _ _ _ _ _) (len_B _ _ _) <| ja rfl rfl <| j_nil <| p_thn <| c_ret <| p_thn_ret <| p_inb_ret <| p_thn_ret <| p_lp_ret <| p_inb_ret <| p_thn_ret <| ?_
                  refine p_ret0 rfl rfl (.agg 4 inferInstance rfl rfl (len_B _ _ _) <| .tmp rfl <| .nil) ?_
                  have hne : (ackOne l (ix fZ b.joined k)).2 ≠ 0 := by rw [hao]; assumption
                  unfold bAck
                  rw [if_neg (by simp [*]), if_neg (by omega), if_pos (by rw [ackErr_at (by omega) h0 hne]; exact hne), ackErr_at (by omega) h0 hne, hao]
                  exact ⟨_, ⟨none, 0, none, 0, rfl, SlR.nil, SlR.nil⟩, rfl⟩
                · have phb12 := hb12; try simp at phb12
                  refine c_skip <| p_thn <| c_region <| jfa rfl rfl rfl <| jld1 5 rfl rfl rfl rfl <| jm rfl rfl <| jldw 0 rfl rfl rfl (len_F _ _ _) <| jis rfl rfl rfl (by omega) (by first | omega | (simp; omega)) <| jst 2 rfl rfl rfl rfl (len_F _ _ _) (one_F _ _ _) (by rw [List.length_append, flatk_len len_S]; simp; omega) (flatk_putw (i := k) (x := ⟨(fJoin (ix sZ cur k).f (ix fZ l n)).1, A2c, cap2c⟩) len_S (by first | omega | (simp; omega))) <| j_nil <| p_inb <| p_thn <| c_region <| jadd rfl rfl rfl (by first | exact wr (by omega) (by omega) | rfl) <| jm rfl rfl <| j_nil <| jp_perm (fr_s <| fr_s <| fr_0) <| jp_shut (by first | omega | (simp; omega)) hco1 hro1 (by first | exact hlo1 | (rw [flatk_len len_S]; simp <;> omega)) <| jp_perm (fr_s <| fr_s <| fr_s <| fr_s <| fr_s <| fr_0) <| jp_perm (fr_s <| fr_s <| fr_s <| fr_s <| fr_s <| fr_0) <| jp_perm (fr_s <| fr_s <| fr_s <| fr_s <| fr_s <| fr_0) <| jp_perm (fr_s <| fr_s <| fr_s <| fr_0) <| jp_tk (ap_s <| ap_s <| ap_s <| ap_s <| ap_0) <| ?_
                  refine p_lp ((k + 1, M2c, cur.set k ⟨(fJoin (ix sZ cur k).f (ix fZ l n)).1, A2c, cap2c⟩)) ?_ ?_ (sub_c rfl <| sub_c rfl <| sub_c rfl <| sub_c rfl <| sub_c rfl <| sub_c rfl <| sub_c rfl <| sub_n) rfl rfl
                  · refine ⟨by show _ ≤ _; omega, hm.trans hM2c, (hfk.mono hM2c).set hS2c, ack_set (by omega) hc (by rw [hao]), ?_⟩
                    rw [List.take_add_one, ix_get (z := fZ) (by omega)]
                    intro f hf
                    rcases List.mem_append.1 hf with h | h
                    · exact h0 f h
                    · simp at h; rw [h, hao]; omega
                  · show _ - _ < _ - _; omega
          · have phb6 := hb6; try simp at phb6
            have hke : k = b.joined.length := by omega
            rw [hke, List.take_length] at h0
            rw [hke, List.take_length, List.drop_length, List.append_nil] at hc
            obtain ⟨J', hJ'⟩ : ∃ J', J' = ackAll l b.joined := ⟨_, rfl⟩
            have hcJ : cur.map FS.f = J' := by rw [hc, hJ']; rfl
            have hJl : b.joined.length = J'.length := by rw [hJ']; unfold ackAll; rw [List.length_map]
            have hJok : FsOk J' := by rw [hJ']; exact ackAll_ok hb.1 h0
            have he0 : ackErr l b.joined = 0 := ackErr_0 h0
            have hko := bOther_k (b := b) (k := k0) (by simpa using phb3)
            rw [hJl]
            refine c_exit <| p_thn_exit <| p_lp_exit <| p_inb_exit <| p_thn <| c_seq <| c_draw [1, 3, 4] (by kernel_rfl) <| jd_z (i := 0) rfl rfl (by kernel_rfl) (by kernel_rfl) (by kernel_rfl) (by kernel_rfl) rfl (zfa rfl rfl) <| jd_first (i := 1) rfl rfl (by kernel_rfl) (by kernel_rfl) (by kernel_rfl) (by kernel_rfl) (by kernel_rfl) rfl (fun _ h => h) (yld1 3 rfl rfl rfl) <| jd_z (i := 2) rfl rfl (by kernel_rfl) (by kernel_rfl) (by kernel_rfl) (by kernel_rfl) rfl (zm rfl) <| jd_first (i := 3) rfl rfl (by kernel_rfl) (by kernel_rfl) (by kernel_rfl) (by kernel_rfl) (by kernel_rfl) rfl (fun _ h => h) (yshl rfl rfl (by omega)) <| jd_first (i := 4) rfl rfl (by kernel_rfl) (by kernel_rfl) (by kernel_rfl) (by kernel_rfl) (by kernel_rfl) rfl (fun _ h => h) (yor rfl rfl) <| jd_z (i := 5) rfl rfl (by kernel_rfl) (by kernel_rfl) (by kernel_rfl) (by kernel_rfl) rfl (zfa rfl rfl) <| jd_one (i := 6) (by kernel_rfl) rfl <| jst 3 rfl rfl rfl rfl rfl rfl (Nat.le_of_ble_eq_true rfl) (uB_acked _ _ _ _) <| j_nil <| p_jd rfl (.inl (by kernel_rfl)) <| jd_done (by kernel_rfl) <| p_thn <| c_seq <| c_seq <| c_draw [1, 2, 4] (by kernel_rfl) <| jd_z (i := 0) rfl rfl (by kernel_rfl) (by kernel_rfl) (by kernel_rfl) (by kernel_rfl) rfl (zfa rfl rfl) <| ?_
            skip
            refine jd_first (i := 1) rfl rfl (by kernel_rfl) (by kernel_rfl) (by kernel_rfl) (by kernel_rfl) (by kernel_rfl) rfl (fun _ h => h) (yld1 3 rfl rfl rfl) <| jd_first (i := 2) rfl rfl (by kernel_rfl) (by kernel_rfl) (by kernel_rfl) (by kernel_rfl) (by kernel_rfl) rfl (fun _ h => h) (yldw 3 rfl rfl (len_B _ _ _)) <| jd_one (i := 3) (by kernel_rfl) rfl <| jcallv rfl rfl rfl (barrier_all { b with acked := orI b.acked (shlI 1 k0), joined := J' } _ _ _ _ _) <| j_nil <| p_jd rfl (.inr (fun _ h => h)) <| jd_first (i := 4) rfl rfl (by kernel_rfl) (by kernel_rfl) (by kernel_rfl) (by kernel_rfl) (by kernel_rfl) rfl (fun _ h => h) (yneq rfl rfl) <| jd_done (by kernel_rfl) <| p_thn <| c_cond rfl (fun hb13 => ?_) (fun hb13 => ?_)
            · have phb13 := hb13; try simp at phb13
              refine c_seq <| c_region <| jldw 3 rfl rfl rfl (len_B _ _ _) <| jstw 2 rfl rfl rfl rfl (len_B _ _ _) (one_B _ _ _ _ _) (len_B _ _ _) <| ja rfl rfl <| j_nil <| p_thn <| c_ret <| p_thn_ret <| ?_
              refine jp_freeze fun M1z hM1z hz1 => ?_
              have hS1z := frzS (r := rField) (xs := J') hz1 (rows_at hcJ (hfk.mono hM1z)) (by rw [← hcJ, List.length_map])
              refine jp_freeze fun M2z hM2z hz2 => ?_
              have hS2z := frzS (r := rField) (xs := b.made) hz2 (rows_at ht2 (((hk2.mono hm).mono hM1z).mono hM2z)) rfl
              refine p_ret0 rfl rfl (.agg 0 inferInstance rfl rfl (len_B _ _ _) <| .tmp rfl <| .nil) ?_
              unfold bAck
              rw [if_neg (by simp [*]), if_neg (by omega), if_neg (by rw [he0]; simp), if_pos (by assumption), ← hJ']
              exact ⟨_, ⟨_, _, _, _, by first | rfl | (unfold encB encBv; simp), hS1z.mono hM2z, hS2z⟩, rfl⟩
            · have phb13 := hb13; try simp at phb13
              refine c_skip <| p_thn <| c_seq <| c_region <| jfa rfl rfl rfl <| jst 3 rfl rfl rfl rfl rfl rfl (Nat.le_of_ble_eq_true rfl) (uB_state _ _ _ _) <| j_nil <| p_thn <| c_seq <| c_seq <| c_region <| jfa rfl rfl rfl <| j_freeze fun M3z hM3z hz3 => ?_
              have hS3z := frzS (r := rField) (xs := J') hz3 (rows_at hcJ (hfk.mono hM3z)) (by rw [← hcJ, List.length_map])
              refine jld1 2 rfl rfl rfl rfl <| jfa rfl rfl rfl <| jld 2 rfl rfl rfl (pB_plan _ _ _) (len_plan _) <| jApply rfl rfl rfl rfl (plan_Apply J' _ _ hJok _ hb.2.2.1 hb.2.2.2 _ hS3z) fun Ay capy MY ys hMY hyf hkY => jm rfl rfl <| jext rfl rfl rfl <| jext rfl rfl rfl <| ja rfl rfl <| ja rfl rfl <| j_nil <| p_thn <| c_seq <| c_region <| jm rfl rfl <| jeql rfl rfl rfl <| j_nil <| p_thn <| c_cond rfl (fun hb14 => ?_) (fun hb14 => ?_)
              · have phb14 := hb14; try simp at phb14
                refine c_seq <| c_region <| jm rfl rfl <| jfa rfl rfl rfl <| jst 3 rfl rfl rfl rfl rfl rfl (Nat.le_of_ble_eq_true rfl) (uB_state _ _ _ _) <| jfa rfl rfl rfl <| jst 3 rfl rfl rfl rfl rfl rfl (Nat.le_of_ble_eq_true rfl) (uB_made _ _ _ _) <| j_nil <| p_thn <| c_seq <| c_region <| jfa rfl rfl rfl <| jld1 3 rfl rfl rfl rfl <| jrlen 0 rfl rfl rfl <| jm rfl rfl <| j_nil <| p_thn <| c_block <| c_lpL (X := Nat) (fun k2 => k2 ≤ ys.length) (fun k2 => ys.length - k2) (fun k2 => [(104, vi (k2 : Int))]) [103, 8, 4] (fun k2 => [.row (.slice Ay ys.length capy) 49 587 ys.length ((epS b.epoch ys k2).flatMap encS), .row (.slice A2o b.made.length c2o) 49 587 b.made.length (ts2.flatMap encS), .blk B2 29 (encB bZ none 0 none 0), .blk B1 29 (encBv { { b with acked := orI b.acked (shlI 1 k0) } with state := 2 } (.slice A1o J'.length c1o) (.slice Ay ys.length capy))]) 0 ?_ (sub_c rfl <| sub_c rfl <| sub_c rfl <| sub_c rfl <| sub_n) (by rw [epS_0]; rfl) ?_
                · exact Nat.zero_le _
                · intro k2 hI
                  have hepl := epS_len b.epoch ys k2
                  have hyl : ys.length ≤ 10002 := by { have q1 := congrArg List.length hyf; rw [List.length_map] at q1; have q2 := @plApply_len J' b.plan; have q3 := hJok.1; omega }
                  refine c_seq <| c_region <| jlss rfl rfl rfl <| j_nil <| p_thn <| c_seq <| c_cond rfl (fun hb15 => ?_) (fun hb15 => ?_)
                  · have phb15 := hb15; try simp at phb15
                    refine c_skip <| p_thn <| c_seq <| c_block <| c_seq <| c_region <| jm rfl rfl <| ja rfl rfl <| j_nil <| p_thn <| c_region <| jfa rfl rfl rfl <| jld1 3 rfl rfl rfl rfl <| jm rfl rfl <| jfa rfl rfl rfl <| jld1 3 rfl rfl rfl rfl <| j_open (by first | omega | (simp; omega)) fun Bo2 capo2 rso2 hvo2 hco2 hro2 hlo2 => ?_
                    cases hvo2
                    refine jis rfl rfl rfl (by omega) (by first | omega | (simp; omega)) <| jfa rfl rfl rfl <| jst 0 rfl rfl rfl rfl rfl rfl (by rw [List.length_append, flatk_len len_S]; simp; omega) (flatk_put1 (i := k2) len_S (z := sZ) (by first | omega | (simp; omega)) (by decide) (uS_epoch _ _)) <| j_nil <| p_inb <| p_thn <| c_region <| jadd rfl rfl rfl (by first | exact wr (by omega) (by omega) | rfl) <| jm rfl rfl <| j_nil <| jp_shut (by first | omega | (simp; omega)) hco2 hro2 (by first | exact hlo2 | (rw [flatk_len len_S]; simp <;> omega)) <| ?_
                    refine p_lp (k2 + 1) ?_ ?_ (sub_c rfl <| sub_c rfl <| sub_c rfl <| sub_c rfl <| sub_n) rfl (by rw [← epS_set (by omega)]; rfl)
                    · show _ ≤ _; omega
                    · show _ - _ < _ - _; omega
                  · have phb15 := hb15; try simp at phb15
                    obtain rfl : k2 = ys.length := by omega
                    rw [epS_all]
                    have hyE : (ys.map (setS b.epoch)).map FS.f = (plApply J' b.plan).1.map (setE b.epoch) := by rw [← hyf, List.map_map, List.map_map]; rfl
                    refine c_exit <| p_thn_exit <| p_lp_exit <| p_inb_exit <| p_thn <| c_seq <| c_region <| jldw 3 rfl rfl rfl (len_B _ _ _) <| jstw 2 rfl rfl rfl rfl (len_B _ _ _) (one_B _ _ _ _ _) (len_B _ _ _) <| ja rfl rfl <| j_nil <| p_thn <| c_ret <| ?_
                    refine jp_freeze fun M4z hM4z hz4 => ?_
                    have hS4z := frzS (r := rField) (xs := ((plApply J' b.plan).1.map (setE b.epoch))) hz4 (rows_at hyE ((epS_k hkY).mono hM4z)) (by rw [List.length_map, ← hyf, List.length_map])
                    refine p_ret0 rfl rfl (.agg 1 inferInstance rfl rfl (len_B _ _ _) <| .tmp rfl <| .nil) ?_
                    unfold bAck
                    rw [if_neg (by simp [*]), if_neg (by omega), if_neg (by rw [he0]; simp), if_neg (fun h => h phb13), ← hJ', if_pos (by simpa using phb14)]
                    exact ⟨_, ⟨_, _, _, _, by first | rfl | (unfold encB encBv; simp; rw [← hyf, List.length_map]), (hS3z.mono hMY).mono hM4z, hS4z⟩, rfl⟩
              · have phb14 := hb14; try simp at phb14
                refine c_skip <| p_thn <| c_seq <| c_region <| jldw 3 rfl rfl rfl (len_B _ _ _) <| jstw 2 rfl rfl rfl rfl (len_B _ _ _) (one_B _ _ _ _ _) (len_B _ _ _) <| ja rfl rfl <| j_nil <| p_thn <| c_ret <| ?_
                refine jp_perm (fr_s <| fr_0) <| jp_freeze fun M5z hM5z hz5 => ?_
                have hS5z := frzS (r := rField) (xs := b.made) hz5 (rows_at ht2 ((((hk2.mono hm).mono hM3z).mono hMY).mono hM5z)) rfl
                refine p_ret0 rfl rfl (.agg 1 inferInstance rfl rfl (len_B _ _ _) <| .tmp rfl <| .nil) ?_
                unfold bAck
                rw [if_neg (by simp [*]), if_neg (by omega), if_neg (by rw [he0]; simp), if_neg (fun h => h phb13), ← hJ', if_neg (by simpa using phb14)]
                exact ⟨_, ⟨_, _, _, _, by first | rfl | (unfold encB encBv; simp), (hS3z.mono hMY).mono hM5z, hS5z⟩, rfl⟩
end Go.Proofs.YtihgpbpcbbgdiaaGreat
