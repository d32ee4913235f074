/- Several texts in one. -/
import Derived.Test.YtihgpbpcbbgdiaaGreatOrd30
import Derived.Test.YtihgpbpcbbgdiaaGreatOrd18
import Derived.Test.YtihgpbpcbbgdiaaGreatOrd19
/- usufructlaw16.BarrierOrder, walked: what it tells. -/
namespace Go.Proofs.YtihgpbpcbbgdiaaGreat
open Go.RowKit
set_option linter.unusedVariables false
set_option linter.unusedSimpArgs false
/-- a barrier, and where it lies -/
structure BV where
  b : Bar
  A1 : Option Addr
  c1 : Nat
  A2 : Option Addr
  c2 : Nat
abbrev encBV (v : BV) : List Value := encB v.b v.A1 v.c1 v.A2 v.c2
def BVk (M : Mem) (v : BV) : Prop := SlR rField M v.A1 v.c1 v.b.joined ∧ SlR rField M v.A2 v.c2 v.b.made ∧ BOk v.b
theorem BVk.mono {M M' : Mem} {v : BV} (h : BVk M v) (hm : MLe M M') : BVk M' v := ⟨h.1.mono hm, h.2.1.mono hm, h.2.2⟩
abbrev Os := List (List Field)
def ordSt (os : Os) (p : Plan) (j : Nat) (s : Bar × Bar) : Option (Bar × Bar) :=
  if few13 (ix [] os j) p = false ∨ few13 (ix [] os (os.length - 1 - j)) p = false then none else
  if (bAck s.1 (j + 1) 1 (ix [] os j)).2 ≠ 0 ∨ (bAck s.2 (((os.length - 1 - j : Nat) : Int) + 1) 1 (ix [] os (os.length - 1 - j))).2 ≠ 0 then none else
  some ((bAck s.1 (j + 1) 1 (ix [] os j)).1, (bAck s.2 (((os.length - 1 - j : Nat) : Int) + 1) 1 (ix [] os (os.length - 1 - j))).1)
def ordRun (os : Os) (p : Plan) (c : Bar) : Nat → Option (Bar × Bar)
  | 0 => some (c, c)
  | k + 1 => (ordRun os p c k).bind (ordSt os p k)
def ordOut (l : List Field) (p : Plan) (os : Os) : Prop := few13 l p = false ∨ os.length < 1 ∨ 15 < os.length ∨ (bNew (os.length + 1)).2 ≠ 0 ∨ (bStart (bNew (os.length + 1)).1 l p 0).2 ≠ 0
instance (l : List Field) (p : Plan) (os : Os) : Decidable (ordOut l p os) := by unfold ordOut; exact inferInstance
def ordSame (s : Bar × Bar) : Bool := decide (s.1.state = s.2.state) && decide (s.1.acked = s.2.acked) && decide (s.1.joined = s.2.joined) && decide (s.1.made = s.2.made)
def ord16 (l : List Field) (p : Plan) (os : Os) : Bool :=
  if ordOut l p os then true else match ordRun os p (bStart (bNew (os.length + 1)).1 l p 0).1 os.length with
  | none => true
  | some s => ordSame s
theorem ordSt_some {os : Os} {p : Plan} {j : Nat} {s : Bar × Bar} (h1 : few13 (ix [] os j) p = true) (h2 : few13 (ix [] os (os.length - 1 - j)) p = true) (h3 : (bAck s.1 (j + 1) 1 (ix [] os j)).2 = 0) (h4 : (bAck s.2 (((os.length - 1 - j : Nat) : Int) + 1) 1 (ix [] os (os.length - 1 - j))).2 = 0) :
    ordSt os p j s = some ((bAck s.1 (j + 1) 1 (ix [] os j)).1, (bAck s.2 (((os.length - 1 - j : Nat) : Int) + 1) 1 (ix [] os (os.length - 1 - j))).1) := by
  unfold ordSt; rw [if_neg (by rw [h1, h2]; simp), if_neg (by rw [h3, h4]; simp)]
theorem ordSt_none {os : Os} {p : Plan} {j : Nat} {s : Bar × Bar} (h1 : few13 (ix [] os j) p = true) (h2 : few13 (ix [] os (os.length - 1 - j)) p = true) (h3 : (bAck s.1 (j + 1) 1 (ix [] os j)).2 ≠ 0 ∨ (bAck s.2 (((os.length - 1 - j : Nat) : Int) + 1) 1 (ix [] os (os.length - 1 - j))).2 ≠ 0) :
    ordSt os p j s = none := by
  unfold ordSt; rw [if_neg (by rw [h1, h2]; simp), if_pos h3]
theorem ordRun_none {os : Os} {p : Plan} {c : Bar} {k : Nat} (h : ordRun os p c k = none) : ∀ n, k ≤ n → ordRun os p c n = none
  | 0, hn => by obtain rfl : k = 0 := by omega
                exact h
  | n + 1, hn => by
    rcases Nat.lt_or_ge n k with h1 | h1
    · obtain rfl : k = n + 1 := by omega
      exact h
    · show (ordRun os p c n).bind _ = none
      rw [ordRun_none h n h1]; rfl
theorem ord16_out {l : List Field} {p : Plan} {os : Os} (h : ordOut l p os) : ord16 l p os = true := by unfold ord16; rw [if_pos h]
theorem ord16_off {l : List Field} {p : Plan} {os : Os} {k : Nat} {s : Bar × Bar} (hk : k < os.length) (h1 : ordRun os p (bStart (bNew (os.length + 1)).1 l p 0).1 k = some s) (h2 : ordSt os p k s = none) : ord16 l p os = true := by
  unfold ord16
  split
  · rfl
  · have : ordRun os p (bStart (bNew (os.length + 1)).1 l p 0).1 (k + 1) = none := by
      show (ordRun os p _ k).bind _ = none
      rw [h1]; exact h2
    rw [ordRun_none this _ (by omega)]
theorem ord16_in {l : List Field} {p : Plan} {os : Os} {s : Bar × Bar} (h : ¬ordOut l p os) (h1 : ordRun os p (bStart (bNew (os.length + 1)).1 l p 0).1 os.length = some s) : ord16 l p os = ordSame s := by
  unfold ord16; rw [if_neg h, h1]
theorem slr_sl {M : Mem} {A : Option Addr} {cap i : Nat} {xs : Os} (h : SlR (rSl rField) M A cap xs) (hi : i < xs.length) :
    ∃ A' cap', SlR rField M A' cap' (ix [] xs i) ∧ ∃ b o, A = some ⟨b, o, none⟩ ∧ M ⟨b, o + i * 1, none⟩ = some (.slice A' (ix [] xs i).length cap') := by
  obtain ⟨b, o, c, h1, ⟨A', cap', rfl, h2⟩, h3⟩ := h.el i _ (ix_get (z := []) hi)
  exact ⟨A', cap', h2, b, o, h1, h3 0 _ rfl⟩
section
variable {cx : Cx} {Q : Post} {E : Env} {M : Mem} {L : List Ent} {ops : Array Oper} {d T : Nat} {pos : String} {af : Array Edge} {rest : List Oper} {x y z : Operand} {v u : Value}
theorem ylS {t i : Nat} {A : Option Addr} [TyI cx.P t false 1] (hx : ev E x = some (.pointer (eptr A (i * 1)))) (hc : ∃ b o, A = some ⟨b, o, none⟩ ∧ M ⟨b, o + i * 1, none⟩ = some v) :
    Y cx ⟨some d, .load t x, T, pos, af, none⟩ E M L v := by
  obtain ⟨b, o, rfl, hc⟩ := hc
  exact ylm1 (sz := 1) hx hc
theorem jlS {t i : Nat} {A : Option Addr} [TyI cx.P t false 1] (hn : Nat.blt d cx.n = true) (hx : ev E x = some (.pointer (eptr A (i * 1)))) (hc : ∃ b o, A = some ⟨b, o, none⟩ ∧ M ⟨b, o + i * 1, none⟩ = some v)
    (hk : J cx ops Q rest ((d, v) :: E) M L) : J cx ops Q (⟨some d, .load t x, T, pos, af, none⟩ :: rest) E M L := j_y hn (ylS hx hc) hk
end
attribute [local irreducible] bStart bAck bPend few13

theorem law16_Order (l : List Field) (A : Option Addr) (cap : Nat) (p : Plan) (os : Os) (A2 : Option Addr) (cap2 : Nat) (M : Mem) (hS : SlR rField M A cap l) (hO : SlR (rSl rField) M A2 cap2 os) : Ctr Tryz.prog 4 [.slice A l.length cap, .agg (encPlan p).toArray, .slice A2 os.length cap2] M [] (fun v _ _ => v = .bool (ord16 l p os)) := by
  refine ctr Tryz.func4 rfl Tryz.ntmps4 rfl fun w => ?_
  refine c_seq <| c_region <| jbox rfl rfl rfl fun B1 => ja rfl rfl <| j_nil <| p_thn <| c_seq <| c_seq <| c_region <| jm rfl rfl <| jldw 0 rfl rfl rfl (len_plan _) <| jcallv rfl rfl rfl (law13_Few _ _ _ _ _ hS) <| jnot rfl rfl <| jm rfl rfl <| jgs rfl rfl (fun hb2 => ?_) (fun hb2 => ?_)
  · have phb2 := hb2; try simp at phb2
    refine jg_off rfl rfl rfl hb2 <| jg_off rfl rfl rfl hb2 <| jg_off rfl rfl rfl hb2 <| jpick_t rfl rfl hb2 rfl <| jm rfl rfl <| jg_off rfl rfl rfl rfl <| jg_off rfl rfl rfl rfl <| jg_off rfl rfl rfl rfl <| jpick_t rfl rfl rfl rfl <| j_nil <| p_thn <| c_cond_kt rfl rfl <| c_seq <| c_region <| jcallv rfl rfl rfl (law16_awake _) <| ja rfl rfl <| j_nil <| p_thn <| c_ret <| p_thn_ret <| ?_
    refine p_ret0 rfl rfl (.tmp rfl <| .nil) ?_
    show Value.bool _ = _
    congr 1
    exact (ord16_out (by unfold ordOut; exact .inl (by simpa using phb2))).symm
  · have phb2 := hb2; try simp at phb2
    refine jg rfl rfl hb2 <| jm rfl rfl <| jg rfl rfl hb2 <| jlen rfl rfl <| jg rfl rfl hb2 <| jlss rfl rfl rfl <| jpick_f rfl rfl hb2 rfl <| jm rfl rfl <| jgs rfl rfl (fun hb3 => ?_) (fun hb3 => ?_)
    · have phb3 := hb3; try simp at phb3
      refine jg_off rfl rfl rfl hb3 <| jg_off rfl rfl rfl hb3 <| jg_off rfl rfl rfl hb3 <| jpick_t rfl rfl hb3 rfl <| j_nil <| p_thn <| c_cond_kt rfl rfl <| c_seq <| c_region <| jcallv rfl rfl rfl (law16_awake _) <| ja rfl rfl <| j_nil <| p_thn <| c_ret <| p_thn_ret <| ?_
      refine p_ret0 rfl rfl (.tmp rfl <| .nil) ?_
      show Value.bool _ = _
      congr 1
      exact (ord16_out (by unfold ordOut; exact .inr (.inl (by omega)))).symm
    · have phb3 := hb3; try simp at phb3
      refine jg rfl rfl hb3 <| jm rfl rfl <| jg rfl rfl hb3 <| jlen rfl rfl <| jg rfl rfl hb3 <| jgtr rfl rfl rfl <| jpick_f rfl rfl hb3 rfl <| j_nil <| p_thn <| c_cond rfl (fun hb4 => ?_) (fun hb4 => ?_)
      · have phb4 := hb4; try simp at phb4
        refine c_seq <| c_region <| jcallv rfl rfl rfl (law16_awake _) <| ja rfl rfl <| j_nil <| p_thn <| c_ret <| p_thn_ret <| ?_
        refine p_ret0 rfl rfl (.tmp rfl <| .nil) ?_
        show Value.bool _ = _
        congr 1
        exact (ord16_out (by unfold ordOut; exact .inr (.inr (.inl (by omega))))).symm
      · have phb4 := hb4; try simp at phb4
        have hfew : few13 l p = true := by simpa using phb2
        have hf := few13_fs hfew
        have hn : 1 ≤ os.length ∧ os.length ≤ 15 := by omega
        refine c_skip <| p_thn <| c_seq <| c_region <| jm rfl rfl <| jlen rfl rfl <| jadd rfl rfl rfl (by first | exact wr (by omega) (by omega) | rfl) <| jcallv rfl rfl rfl (barrier_New (os.length + 1) _) <| jm rfl rfl <| jext rfl rfl rfl <| jext rfl rfl rfl <| jalloc (c := encB bZ none 0 none 0) rfl fun B5 => jstw 0 rfl rfl rfl rfl (len_B _ _ _) (one_B _ _ _ _ _) (len_B _ _ _) <| ja rfl rfl <| j_nil <| p_thn <| c_seq <| c_region <| jldw 0 rfl rfl rfl (len_B _ _ _) <| jm rfl rfl <| jldw 1 rfl rfl rfl (len_plan _) <| jcallB (b := (bStart (bNew (os.length + 1)).1 l p 0).1) rfl rfl rfl (barrier_Start (bNew (os.length + 1)).1 none 0 none 0 l _ _ p 0 hf.1 (few13_p hfew).1 (few13_p hfew).2 _ hS) fun AJS cJS AMS cMS MS hMS hJS hNS => jm rfl rfl <| jext rfl rfl rfl <| jext rfl rfl rfl <| jalloc (c := encB bZ none 0 none 0) rfl fun B6 => jstw 0 rfl rfl rfl rfl (len_B _ _ _) (one_B _ _ _ _ _) (len_B _ _ _) <| ja rfl rfl <| j_nil <| p_thn <| c_seq <| c_seq <| c_region <| jm rfl rfl <| jneq rfl rfl rfl <| jm rfl rfl <| jgs rfl rfl (fun hb7 => ?_) (fun hb7 => ?_)
        · have phb7 := hb7; try simp at phb7
          refine jg_off rfl rfl rfl hb7 <| jg_off rfl rfl rfl hb7 <| jpick_t rfl rfl hb7 rfl <| j_nil <| p_thn <| c_cond_kt rfl rfl <| c_seq <| c_region <| jcallv rfl rfl rfl (law16_awake _) <| ja rfl rfl <| j_nil <| p_thn <| c_ret <| p_thn_ret <| ?_
          refine p_ret0 rfl rfl (.tmp rfl <| .nil) ?_
          show Value.bool _ = _
          congr 1
          exact (ord16_out (by unfold ordOut; exact .inr (.inr (.inr (.inl phb7))))).symm
        · have phb7 := hb7; try simp at phb7
          refine jg rfl rfl hb7 <| jm rfl rfl <| jg rfl rfl hb7 <| jneq rfl rfl rfl <| jpick_f rfl rfl hb7 rfl <| j_nil <| p_thn <| c_cond rfl (fun hb8 => ?_) (fun hb8 => ?_)
          · have phb8 := hb8; try simp at phb8
            refine c_seq <| c_region <| jcallv rfl rfl rfl (law16_awake _) <| ja rfl rfl <| j_nil <| p_thn <| c_ret <| p_thn_ret <| ?_
            refine p_ret0 rfl rfl (.tmp rfl <| .nil) ?_
            show Value.bool _ = _
            congr 1
            exact (ord16_out (by unfold ordOut; exact .inr (.inr (.inr (.inr phb8))))).symm
          · have phb8 := hb8; try simp at phb8
            have hno : ¬ordOut l p os := by { unfold ordOut; rintro (h | h | h | h | h); rw [hfew] at h; cases h; all_goals omega }
            refine c_skip <| p_thn <| c_seq <| c_region <| jldw 0 rfl rfl rfl (len_B _ _ _) <| jalloc (c := encB bZ none 0 none 0) rfl fun B9 => jstw 0 rfl rfl rfl rfl (len_B _ _ _) (one_B _ _ _ _ _) (len_B _ _ _) <| j_nil <| p_thn <| c_seq <| c_seq <| c_region <| jm rfl rfl <| jlen rfl rfl <| jm rfl rfl <| j_nil <| p_thn <| c_block <| c_lpML (X := Nat × Mem × BV × BV) (fun q => q.1 ≤ os.length ∧ MLe M q.2.1 ∧ BVk q.2.1 q.2.2.1 ∧ BVk q.2.1 q.2.2.2 ∧ ordRun os p (bStart (bNew (os.length + 1)).1 l p 0).1 q.1 = some (q.2.2.1.b, q.2.2.2.b)) (fun q => os.length - q.1) (fun q => [(58, vi (q.1 : Int))]) [57, 56, 11, 9, 4, 2] (fun q => q.2.1) (fun q => [.blk B9 29 (encBV q.2.2.2), .blk B6 29 (encBV q.2.2.1), .blk B5 29 (encB (bNew (os.length + 1)).1 none 0 none 0), .blk B1 24 (encPlan p)]) (0, MS, ⟨(bStart (bNew (os.length + 1)).1 l p 0).1, AJS, cJS, AMS, cMS⟩, ⟨(bStart (bNew (os.length + 1)).1 l p 0).1, AJS, cJS, AMS, cMS⟩) ?_ (sub_c rfl <| sub_c rfl <| sub_c rfl <| sub_c rfl <| sub_c rfl <| sub_c rfl <| sub_c rfl <| sub_n) rfl rfl ?_
            · exact ⟨Nat.zero_le _, hMS, ⟨hJS, hNS, bStart_ok hf.1 (few13_p hfew)⟩, ⟨hJS, hNS, bStart_ok hf.1 (few13_p hfew)⟩, rfl⟩
            · intro q hI
              obtain ⟨hk, hm, hc, hd, hr⟩ := hI
              have hO := hO.mono hm
              refine c_seq <| c_region <| jlss rfl rfl rfl <| j_nil <| p_thn <| c_seq <| c_cond rfl (fun hb10 => ?_) (fun hb10 => ?_)
              · have phb10 := hb10; try simp at phb10
                refine c_skip <| p_thn <| c_seq <| c_block <| c_seq <| c_region <| jm rfl rfl <| ji rfl rfl rfl (by omega) (by omega) (hO.adr (i := q.1) (by omega)) <| ?_
                obtain ⟨Ao1, co1, hO1, hcO1⟩ := slr_sl hO (i := q.1) (by omega)
                refine jlS rfl rfl hcO1 <| ja rfl rfl <| ja rfl rfl <| j_nil <| p_thn <| c_seq <| c_seq <| c_region <| jm rfl rfl <| jldw 3 rfl rfl rfl (len_plan _) <| jcallv rfl rfl rfl (law13_Few _ _ _ _ _ hO1) <| jnot rfl rfl <| j_nil <| p_thn <| c_cond rfl (fun hb11 => ?_) (fun hb11 => ?_)
                · have phb11 := hb11; try simp at phb11
                  refine c_seq <| c_region <| jcallv rfl rfl rfl (law16_awake _) <| ja rfl rfl <| j_nil <| p_thn <| c_ret <| p_thn_ret <| p_inb_ret <| p_thn_ret <| p_lp_ret <| p_inb_ret <| p_thn_ret <| ?_
                  refine p_ret0 rfl rfl (.tmp rfl <| .nil) ?_
                  show Value.bool _ = _
                  congr 1
                  exact (ord16_off (k := q.1) (by omega) hr (by unfold ordSt; rw [if_pos (.inl (by simpa using phb11))])).symm
                · have phb11 := hb11; try simp at phb11
                  have hw1 : few13 (ix [] os q.1) p = true := by simpa using phb11
                  have hf1 := few13_fs hw1
                  refine c_skip <| p_thn <| c_seq <| c_region <| jldw 1 rfl rfl rfl (len_B _ _ _) <| jm rfl rfl <| jadd rfl rfl rfl (by first | exact wr (by omega) (by omega) | rfl) <| jm rfl rfl <| jcallB (b := (bAck q.2.2.1.b ((q.1 : Int) + 1) 1 (ix [] os q.1)).1) rfl rfl rfl (barrier_Ack q.2.2.1.b _ _ _ _ ((q.1 : Int) + 1) 1 (ix [] os q.1) _ _ hf1.1 hc.2.2 _ hc.1 hc.2.1 hO1) fun AJX cJX AMX cMX MX hMX hJX hNX => jm rfl rfl <| jext rfl rfl rfl <| jext rfl rfl rfl <| jalloc (c := encB bZ none 0 none 0) rfl fun B12 => jstw 0 rfl rfl rfl rfl (len_B _ _ _) (one_B _ _ _ _ _) (len_B _ _ _) <| ja rfl rfl <| j_nil <| p_thn <| c_seq <| c_region <| jm rfl rfl <| jlen rfl rfl <| jsub rfl rfl rfl (by first | exact wr (by omega) (by omega) | rfl) <| jm rfl rfl <| jsub rfl rfl rfl (by first | exact wr (by omega) (by omega) | rfl) <| ja rfl rfl <| j_nil <| p_thn <| c_seq <| c_seq <| c_draw [2, 3, 4, 6] (by kernel_rfl) <| ?_
                  obtain ⟨Ao2, co2, hO2, hcO2⟩ := slr_sl (hO.mono hMX) (i := os.length - 1 - q.1) (by omega)
                  rw [show (os.length : Int) - 1 - q.1 = ((os.length - 1 - q.1 : Nat) : Int) by omega]
                  refine jd_z (i := 0) rfl rfl (by kernel_rfl) (by kernel_rfl) (by kernel_rfl) (by kernel_rfl) rfl (zm rfl) <| jd_z (i := 1) rfl rfl (by kernel_rfl) (by kernel_rfl) (by kernel_rfl) (by kernel_rfl) rfl (zm rfl) <| jd_first (i := 2) rfl rfl (by kernel_rfl) (by kernel_rfl) (by kernel_rfl) (by kernel_rfl) (by kernel_rfl) rfl (fun _ h => h) (yi rfl rfl (by omega) (by omega) ((hO.mono hMX).adr (i := (os.length - 1 - q.1)) (by omega))) <| jd_first (i := 3) rfl rfl (by kernel_rfl) (by kernel_rfl) (by kernel_rfl) (by kernel_rfl) (by kernel_rfl) rfl (fun _ h => h) (ylS rfl hcO2) <| jd_first (i := 4) rfl rfl (by kernel_rfl) (by kernel_rfl) (by kernel_rfl) (by kernel_rfl) (by kernel_rfl) rfl (fun _ h => h) (yldw 4 rfl rfl (len_plan _)) <| jd_one (i := 5) (by kernel_rfl) rfl <| jcallv rfl rfl rfl (law13_Few _ _ _ _ _ hO2) <| j_nil <| p_jd rfl (.inr (fun _ h => h)) <| jd_first (i := 6) rfl rfl (by kernel_rfl) (by kernel_rfl) (by kernel_rfl) (by kernel_rfl) (by kernel_rfl) rfl (fun _ h => h) (ynot rfl) <| jd_done (by kernel_rfl) <| p_thn <| c_cond rfl (fun hb13 => ?_) (fun hb13 => ?_)
                  · have phb13 := hb13; try simp at phb13
                    refine c_seq <| c_region <| jcallv rfl rfl rfl (law16_awake _) <| ja rfl rfl <| j_nil <| p_thn <| c_ret <| p_thn_ret <| p_inb_ret <| p_thn_ret <| p_lp_ret <| p_inb_ret <| p_thn_ret <| ?_
                    refine p_ret0 rfl rfl (.tmp rfl <| .nil) ?_
                    show Value.bool _ = _
                    congr 1
                    exact (ord16_off (k := q.1) (by omega) hr (by unfold ordSt; rw [if_pos (.inr (by simpa using phb13))])).symm
                  · have phb13 := hb13; try simp at phb13
                    have hw2 : few13 (ix [] os (os.length - 1 - q.1)) p = true := by simpa using phb13
                    have hf2 := few13_fs hw2
                    refine c_skip <| p_thn <| c_seq <| c_draw [0, 2, 5, 6] (by kernel_rfl) <| jd_first (i := 0) rfl rfl (by kernel_rfl) (by kernel_rfl) (by kernel_rfl) (by kernel_rfl) (by kernel_rfl) rfl (fun _ h => h) (yldw 1 rfl rfl (len_B _ _ _)) <| jd_z (i := 1) rfl rfl (by kernel_rfl) (by kernel_rfl) (by kernel_rfl) (by kernel_rfl) rfl (zm rfl) <| jd_first (i := 2) rfl rfl (by kernel_rfl) (by kernel_rfl) (by kernel_rfl) (by kernel_rfl) (by kernel_rfl) rfl (fun _ h => h) (yadd rfl rfl (by first | exact wr (by omega) (by omega) | rfl)) <| jd_z (i := 3) rfl rfl (by kernel_rfl) (by kernel_rfl) (by kernel_rfl) (by kernel_rfl) rfl (zm rfl) <| jd_z (i := 4) rfl rfl (by kernel_rfl) (by kernel_rfl) (by kernel_rfl) (by kernel_rfl) rfl (zm rfl) <| jd_first (i := 5) rfl rfl (by kernel_rfl) (by kernel_rfl) (by kernel_rfl) (by kernel_rfl) (by kernel_rfl) rfl (fun _ h => h) (yi rfl rfl (by omega) (by omega) ((hO.mono hMX).adr (i := (os.length - 1 - q.1)) (by omega))) <| jd_first (i := 6) rfl rfl (by kernel_rfl) (by kernel_rfl) (by kernel_rfl) (by kernel_rfl) (by kernel_rfl) rfl (fun _ h => h) (ylS rfl hcO2) <| jd_two (i := 7) (j := 11) (by kernel_rfl) rfl rfl ?_ ?_
                    · skip
                      refine jcallB (b := (bAck q.2.2.2.b (((os.length - 1 - q.1 : Nat) : Int) + 1) 1 (ix [] os (os.length - 1 - q.1))).1) rfl rfl rfl (barrier_Ack q.2.2.2.b _ _ _ _ (((os.length - 1 - q.1 : Nat) : Int) + 1) 1 (ix [] os (os.length - 1 - q.1)) _ _ hf2.1 hd.2.2 _ (hd.1.mono hMX) (hd.2.1.mono hMX) hO2) fun AJY cJY AMY cMY MY hMY hJY hNY => j_nil <| p_jd rfl (.inl (by kernel_rfl)) <| jd_z (i := 8) rfl rfl (by kernel_rfl) (by kernel_rfl) (by kernel_rfl) (by kernel_rfl) rfl (zm rfl) <| jd_z (i := 9) rfl rfl (by kernel_rfl) (by kernel_rfl) (by kernel_rfl) (by kernel_rfl) rfl (zext rfl rfl) <| jd_z (i := 10) rfl rfl (by kernel_rfl) (by kernel_rfl) (by kernel_rfl) (by kernel_rfl) rfl (zext rfl rfl) <| jd_one (i := 11) (by kernel_rfl) rfl <| jalloc (c := encB bZ none 0 none 0) rfl fun B14 => j_nil <| p_jd rfl (.inr (fun _ h => (Own.less0 (h.drop (L := [_])) hMY (hm.trans hMX)))) <| jd_one (i := 12) (by kernel_rfl) rfl <| jstw 0 rfl rfl rfl rfl (len_B _ _ _) (one_B _ _ _ _ _) (len_B _ _ _) <| j_nil <| p_jd rfl (.inl (by kernel_rfl)) <| jd_z (i := 13) rfl rfl (by kernel_rfl) (by kernel_rfl) (by kernel_rfl) (by kernel_rfl) rfl (za rfl) <| jd_done (by kernel_rfl) <| p_thn <| c_seq <| c_seq <| c_region <| jm rfl rfl <| jneq rfl rfl rfl <| jm rfl rfl <| jgs rfl rfl (fun hb15 => ?_) (fun hb15 => ?_)
                      · have phb15 := hb15; try simp at phb15
                        refine jg_off rfl rfl rfl hb15 <| jg_off rfl rfl rfl hb15 <| jpick_t rfl rfl hb15 rfl <| j_nil <| p_thn <| c_cond_kt rfl rfl <| c_seq <| c_region <| jcallv rfl rfl rfl (law16_awake _) <| ja rfl rfl <| j_nil <| p_thn <| c_ret <| p_thn_ret <| p_inb_ret <| p_thn_ret <| p_lp_ret <| p_inb_ret <| p_thn_ret <| ?_
                        refine p_ret0 rfl rfl (.tmp rfl <| .nil) ?_
                        show Value.bool _ = _
                        congr 1
                        exact (ord16_off (k := q.1) (by omega) hr (ordSt_none hw1 hw2 (.inl phb15))).symm
                      · have phb15 := hb15; try simp at phb15
                        refine jg rfl rfl hb15 <| jm rfl rfl <| jg rfl rfl hb15 <| jneq rfl rfl rfl <| jpick_f rfl rfl hb15 rfl <| j_nil <| p_thn <| c_cond rfl (fun hb16 => ?_) (fun hb16 => ?_)
                        · have phb16 := hb16; try simp at phb16
                          refine c_seq <| c_region <| jcallv rfl rfl rfl (law16_awake _) <| ja rfl rfl <| j_nil <| p_thn <| c_ret <| p_thn_ret <| p_inb_ret <| p_thn_ret <| p_lp_ret <| p_inb_ret <| p_thn_ret <| ?_
                          refine p_ret0 rfl rfl (.tmp rfl <| .nil) ?_
                          show Value.bool _ = _
                          congr 1
                          exact (ord16_off (k := q.1) (by omega) hr (ordSt_none hw1 hw2 (.inr phb16))).symm
                        · have phb16 := hb16; try simp at phb16
                          refine c_skip <| p_thn <| jc_perm (fr_s <| fr_s <| fr_s <| fr_0) <| c_drawL [0, 1] (by kernel_rfl) (ap_s <| ap_0) <| jd_first (i := 0) rfl rfl (by kernel_rfl) (by kernel_rfl) (by kernel_rfl) (by kernel_rfl) (by kernel_rfl) rfl (fun _ h => (h.drop (L := [_]))) (yldw 1 rfl rfl (len_B _ _ _)) <| jd_first (i := 1) rfl rfl (by kernel_rfl) (by kernel_rfl) (by kernel_rfl) (by kernel_rfl) (by kernel_rfl) rfl (fun _ h => (h.drop (L := [_]))) (yldw 0 rfl rfl (len_B _ _ _)) <| jd_one (i := 2) (by kernel_rfl) rfl <| jstw 0 rfl rfl rfl rfl (len_B _ _ _) (one_B _ _ _ _ _) (len_B _ _ _) <| j_nil <| p_jd rfl (.inr (fun _ h => (h.drop (L := [_])))) <| jd_one (i := 3) (by kernel_rfl) rfl <| jstw 3 rfl rfl rfl rfl (len_B _ _ _) (one_B _ _ _ _ _) (len_B _ _ _) <| j_nil <| p_jd rfl (.inl (by kernel_rfl)) <| jd_done (by kernel_rfl) <| p_inb <| p_thn <| c_region <| jadd rfl rfl rfl (by first | exact wr (by omega) (by omega) | rfl) <| jm rfl rfl <| j_nil <| jp_perm (fr_s <| fr_s <| fr_s <| fr_s <| fr_s <| fr_0) <| jp_perm (fr_s <| fr_s <| fr_s <| fr_s <| fr_s <| fr_0) <| jp_perm (fr_s <| fr_s <| fr_0) <| jp_perm (fr_s <| fr_s <| fr_s <| fr_s <| fr_s <| fr_0) <| jp_tk (ap_s <| ap_s <| ap_s <| ap_s <| ap_0) <| ?_
                          refine p_lp ((q.1 + 1, MY, ⟨(bAck q.2.2.1.b ((q.1 : Int) + 1) 1 (ix [] os q.1)).1, AJX, cJX, AMX, cMX⟩, ⟨(bAck q.2.2.2.b (((os.length - 1 - q.1 : Nat) : Int) + 1) 1 (ix [] os (os.length - 1 - q.1))).1, AJY, cJY, AMY, cMY⟩)) ?_ ?_ (sub_c rfl <| sub_c rfl <| sub_c rfl <| sub_c rfl <| sub_c rfl <| sub_c rfl <| sub_c rfl <| sub_n) rfl rfl
                          · refine ⟨by show _ ≤ _; omega, (hm.trans hMX).trans hMY, ⟨hJX.mono hMY, hNX.mono hMY, bAck_ok hc.2.2⟩, ⟨hJY, hNY, bAck_ok hd.2.2⟩, ?_⟩
                            show (ordRun os p _ q.1).bind _ = _
                            rw [hr]
                            exact ordSt_some hw1 hw2 (by omega) (by omega)
                          · show _ - _ < _ - _; omega
                    · skip
                      refine jalloc (c := encB bZ none 0 none 0) rfl fun B17 => j_nil <| p_jd rfl (.inr (fun _ h => (h.drop (L := [_])))) <| jd_one (i := 7) (by kernel_rfl) rfl <| jcallB (b := (bAck q.2.2.2.b (((os.length - 1 - q.1 : Nat) : Int) + 1) 1 (ix [] os (os.length - 1 - q.1))).1) rfl rfl rfl (barrier_Ack q.2.2.2.b _ _ _ _ (((os.length - 1 - q.1 : Nat) : Int) + 1) 1 (ix [] os (os.length - 1 - q.1)) _ _ hf2.1 hd.2.2 _ (hd.1.mono hMX) (hd.2.1.mono hMX) hO2) fun AJY cJY AMY cMY MY hMY hJY hNY => j_nil <| p_jd rfl (.inl (by kernel_rfl)) <| jd_z (i := 8) rfl rfl (by kernel_rfl) (by kernel_rfl) (by kernel_rfl) (by kernel_rfl) rfl (zm rfl) <| jd_z (i := 9) rfl rfl (by kernel_rfl) (by kernel_rfl) (by kernel_rfl) (by kernel_rfl) rfl (zext rfl rfl) <| jd_z (i := 10) rfl rfl (by kernel_rfl) (by kernel_rfl) (by kernel_rfl) (by kernel_rfl) rfl (zext rfl rfl) <| jd_one (i := 12) (by kernel_rfl) rfl <| jstw 0 rfl rfl rfl rfl (len_B _ _ _) (one_B _ _ _ _ _) (len_B _ _ _) <| j_nil <| p_jd rfl (.inl (by kernel_rfl)) <| jd_z (i := 13) rfl rfl (by kernel_rfl) (by kernel_rfl) (by kernel_rfl) (by kernel_rfl) rfl (za rfl) <| jd_done (by kernel_rfl) <| p_thn <| c_seq <| c_seq <| c_region <| jm rfl rfl <| jneq rfl rfl rfl <| jm rfl rfl <| jgs rfl rfl (fun hb18 => ?_) (fun hb18 => ?_)
                      · have phb18 := hb18; try simp at phb18
                        refine jg_off rfl rfl rfl hb18 <| jg_off rfl rfl rfl hb18 <| jpick_t rfl rfl hb18 rfl <| j_nil <| p_thn <| c_cond_kt rfl rfl <| c_seq <| c_region <| jcallv rfl rfl rfl (law16_awake _) <| ja rfl rfl <| j_nil <| p_thn <| c_ret <| p_thn_ret <| p_inb_ret <| p_thn_ret <| p_lp_ret <| p_inb_ret <| p_thn_ret <| ?_
                        refine p_ret0 rfl rfl (.tmp rfl <| .nil) ?_
                        show Value.bool _ = _
                        congr 1
                        exact (ord16_off (k := q.1) (by omega) hr (ordSt_none hw1 hw2 (.inl phb18))).symm
                      · have phb18 := hb18; try simp at phb18
                        refine jg rfl rfl hb18 <| jm rfl rfl <| jg rfl rfl hb18 <| jneq rfl rfl rfl <| jpick_f rfl rfl hb18 rfl <| j_nil <| p_thn <| c_cond rfl (fun hb19 => ?_) (fun hb19 => ?_)
                        · have phb19 := hb19; try simp at phb19
                          refine c_seq <| c_region <| jcallv rfl rfl rfl (law16_awake _) <| ja rfl rfl <| j_nil <| p_thn <| c_ret <| p_thn_ret <| p_inb_ret <| p_thn_ret <| p_lp_ret <| p_inb_ret <| p_thn_ret <| ?_
                          refine p_ret0 rfl rfl (.tmp rfl <| .nil) ?_
                          show Value.bool _ = _
                          congr 1
                          exact (ord16_off (k := q.1) (by omega) hr (ordSt_none hw1 hw2 (.inr phb19))).symm
                        · have phb19 := hb19; try simp at phb19
                          refine c_skip <| p_thn <| jc_perm (fr_s <| fr_s <| fr_s <| fr_0) <| c_drawL [0, 1] (by kernel_rfl) (ap_s <| ap_0) <| jd_first (i := 0) rfl rfl (by kernel_rfl) (by kernel_rfl) (by kernel_rfl) (by kernel_rfl) (by kernel_rfl) rfl (fun _ h => (h.drop (L := [_]))) (yldw 1 rfl rfl (len_B _ _ _)) <| jd_first (i := 1) rfl rfl (by kernel_rfl) (by kernel_rfl) (by kernel_rfl) (by kernel_rfl) (by kernel_rfl) rfl (fun _ h => (h.drop (L := [_]))) (yldw 0 rfl rfl (len_B _ _ _)) <| jd_one (i := 2) (by kernel_rfl) rfl <| jstw 0 rfl rfl rfl rfl (len_B _ _ _) (one_B _ _ _ _ _) (len_B _ _ _) <| j_nil <| p_jd rfl (.inr (fun _ h => (h.drop (L := [_])))) <| jd_one (i := 3) (by kernel_rfl) rfl <| jstw 3 rfl rfl rfl rfl (len_B _ _ _) (one_B _ _ _ _ _) (len_B _ _ _) <| j_nil <| p_jd rfl (.inl (by kernel_rfl)) <| jd_done (by kernel_rfl) <| p_inb <| p_thn <| c_region <| jadd rfl rfl rfl (by first | exact wr (by omega) (by omega) | rfl) <| jm rfl rfl <| j_nil <| jp_perm (fr_s <| fr_s <| fr_s <| fr_s <| fr_s <| fr_0) <| jp_perm (fr_s <| fr_s <| fr_s <| fr_s <| fr_s <| fr_0) <| jp_perm (fr_s <| fr_s <| fr_0) <| jp_perm (fr_s <| fr_s <| fr_s <| fr_s <| fr_s <| fr_0) <| jp_tk (ap_s <| ap_s <| ap_s <| ap_s <| ap_0) <| ?_
                          refine p_lp ((q.1 + 1, MY, ⟨(bAck q.2.2.1.b ((q.1 : Int) + 1) 1 (ix [] os q.1)).1, AJX, cJX, AMX, cMX⟩, ⟨(bAck q.2.2.2.b (((os.length - 1 - q.1 : Nat) : Int) + 1) 1 (ix [] os (os.length - 1 - q.1))).1, AJY, cJY, AMY, cMY⟩)) ?_ ?_ (sub_c rfl <| sub_c rfl <| sub_c rfl <| sub_c rfl <| sub_c rfl <| sub_c rfl <| sub_c rfl <| sub_n) rfl rfl
                          · refine ⟨by show _ ≤ _; omega, (hm.trans hMX).trans hMY, ⟨hJX.mono hMY, hNX.mono hMY, bAck_ok hc.2.2⟩, ⟨hJY, hNY, bAck_ok hd.2.2⟩, ?_⟩
                            show (ordRun os p _ q.1).bind _ = _
                            rw [hr]
                            exact ordSt_some hw1 hw2 (by omega) (by omega)
                          · show _ - _ < _ - _; omega
              · have phb10 := hb10; try simp at phb10
                have hke : q.1 = os.length := by omega
                rw [hke] at hr
                have hin := ord16_in hno hr
                refine c_exit <| p_thn_exit <| p_lp_exit <| p_inb_exit <| p_thn <| c_seq <| c_region <| jfa rfl rfl rfl <| jld1 1 rfl rfl rfl rfl <| jfa rfl rfl rfl <| jld1 0 rfl rfl rfl rfl <| jeql rfl rfl rfl <| jm rfl rfl <| jgs rfl rfl (fun hb20 => ?_) (fun hb20 => ?_)
                · have phb20 := hb20; try simp at phb20
                  refine jg rfl rfl hb20 <| jfa rfl rfl rfl <| jg rfl rfl hb20 <| jld1 1 rfl rfl rfl rfl <| jg rfl rfl hb20 <| jfa rfl rfl rfl <| jg rfl rfl hb20 <| jld1 0 rfl rfl rfl rfl <| jg rfl rfl hb20 <| jeql rfl rfl rfl <| jpick_t rfl rfl hb20 rfl <| jm rfl rfl <| jgs rfl rfl (fun hb21 => ?_) (fun hb21 => ?_)
                  · have phb21 := hb21; try simp at phb21
                    refine jg rfl rfl hb21 <| jfa rfl rfl rfl <| jg rfl rfl hb21 <| jld1 1 rfl rfl rfl rfl <| jg rfl rfl hb21 <| jfa rfl rfl rfl <| jg rfl rfl hb21 <| jld1 0 rfl rfl rfl rfl <| jg rfl rfl hb21 <| jcallv rfl rfl rfl (law13_Same _ _ _ hc.2.2.1 _ _ _ _ hc.1 hd.1) <| jpick_t rfl rfl hb21 rfl <| jm rfl rfl <| jgs rfl rfl (fun hb22 => ?_) (fun hb22 => ?_)
                    · have phb22 := hb22; try simp at phb22
                      refine jg rfl rfl hb22 <| jfa rfl rfl rfl <| jg rfl rfl hb22 <| jld1 1 rfl rfl rfl rfl <| jg rfl rfl hb22 <| jfa rfl rfl rfl <| jg rfl rfl hb22 <| jld1 0 rfl rfl rfl rfl <| jg rfl rfl hb22 <| jcallv rfl rfl rfl (law13_Same _ _ _ hc.2.2.2.1 _ _ _ _ hc.2.1 hd.2.1) <| jpick_t rfl rfl hb22 rfl <| jm rfl rfl <| jgs rfl rfl (fun hb23 => ?_) (fun hb23 => ?_)
                      · have phb23 := hb23; try simp at phb23
                        refine jg rfl rfl hb23 <| jcallv rfl rfl rfl (law16_awake _) <| jpick_t rfl rfl hb23 rfl <| ja rfl rfl <| j_nil <| p_thn <| c_ret <| ?_
                        refine p_ret0 rfl rfl (.tmp rfl <| .nil) ?_
                        show Value.bool _ = _
                        congr 1
                        rw [hin]
                        unfold ordSame
                        simp [*]
                      · have phb23 := hb23; try simp at phb23
                        refine jg_off rfl rfl rfl hb23 <| jpick_f rfl rfl hb23 rfl <| ja rfl rfl <| j_nil <| p_thn <| c_ret <| ?_
                        refine p_ret0 rfl rfl (.tmp rfl <| .nil) ?_
                        show Value.bool _ = _
                        congr 1
                        rw [hin]
                        unfold ordSame
                        simp [*]
                    · have phb22 := hb22; try simp at phb22
                      refine jg_off rfl rfl rfl hb22 <| jg_off rfl rfl rfl hb22 <| jg_off rfl rfl rfl hb22 <| jg_off rfl rfl rfl hb22 <| jg_off rfl rfl rfl hb22 <| jpick_f rfl rfl hb22 rfl <| jm rfl rfl <| jg_off rfl rfl rfl rfl <| jpick_f rfl rfl rfl rfl <| ja rfl rfl <| j_nil <| p_thn <| c_ret <| ?_
                      refine p_ret0 rfl rfl (.tmp rfl <| .nil) ?_
                      show Value.bool _ = _
                      congr 1
                      rw [hin]
                      unfold ordSame
                      simp [*]
                  · have phb21 := hb21; try simp at phb21
                    refine jg_off rfl rfl rfl hb21 <| jg_off rfl rfl rfl hb21 <| jg_off rfl rfl rfl hb21 <| jg_off rfl rfl rfl hb21 <| jg_off rfl rfl rfl hb21 <| jpick_f rfl rfl hb21 rfl <| jm rfl rfl <| jg_off rfl rfl rfl rfl <| jg_off rfl rfl rfl rfl <| jg_off rfl rfl rfl rfl <| jg_off rfl rfl rfl rfl <| jg_off rfl rfl rfl rfl <| jpick_f rfl rfl rfl rfl <| jm rfl rfl <| jg_off rfl rfl rfl rfl <| jpick_f rfl rfl rfl rfl <| ja rfl rfl <| j_nil <| p_thn <| c_ret <| ?_
                    refine p_ret0 rfl rfl (.tmp rfl <| .nil) ?_
                    show Value.bool _ = _
                    congr 1
                    rw [hin]
                    unfold ordSame
                    simp [*]
                · have phb20 := hb20; try simp at phb20
                  refine jg_off rfl rfl rfl hb20 <| jg_off rfl rfl rfl hb20 <| jg_off rfl rfl rfl hb20 <| jg_off rfl rfl rfl hb20 <| jg_off rfl rfl rfl hb20 <| jpick_f rfl rfl hb20 rfl <| jm rfl rfl <| jg_off rfl rfl rfl rfl <| jg_off rfl rfl rfl rfl <| jg_off rfl rfl rfl rfl <| jg_off rfl rfl rfl rfl <| jg_off rfl rfl rfl rfl <| jpick_f rfl rfl rfl rfl <| jm rfl rfl <| jg_off rfl rfl rfl rfl <| jg_off rfl rfl rfl rfl <| jg_off rfl rfl rfl rfl <| jg_off rfl rfl rfl rfl <| jg_off rfl rfl rfl rfl <| jpick_f rfl rfl rfl rfl <| jm rfl rfl <| jg_off rfl rfl rfl rfl <| jpick_f rfl rfl rfl rfl <| ja rfl rfl <| j_nil <| p_thn <| c_ret <| ?_
                  refine p_ret0 rfl rfl (.tmp rfl <| .nil) ?_
                  show Value.bool _ = _
                  congr 1
                  rw [hin]
                  unfold ordSame
                  simp [*]
end Go.Proofs.YtihgpbpcbbgdiaaGreat

/- BarrierOrder: what is told is true. -/
namespace Go.Proofs.YtihgpbpcbbgdiaaGreat
open Go.RowKit Go.Sort
set_option linter.unusedVariables false
set_option linter.unusedSimpArgs false
def fin (b : Bar) : Bar := if b.acked ≠ bAll b then b else if (plApply b.joined b.plan).2 = 0 then { b with state := 2, made := (plApply b.joined b.plan).1.map (setE b.epoch) } else { b with state := 3 }
theorem bAck_fin {b : Bar} {k n : Int} {l : List Field} (h : (bAck b k n l).2 = 0) : bOther b k = true ∧ b.state = 1 ∧ n = b.number ∧ ackErr l b.joined = 0 ∧ (bAck b k n l).1 = fin { b with acked := orI b.acked (shlI 1 k), joined := ackAll l b.joined } := by
  unfold bAck at *
  split at h
  · simp at h
  · rename_i c1
    rw [if_neg c1]
    split at h
    · simp at h
    · rename_i c2
      rw [if_neg c2]
      split at h
      · rename_i c3; exact absurd h c3
      · rename_i c3
        rw [if_neg c3]
        refine ⟨by simpa using c1, Decidable.not_not.1 fun e => c2 (.inl e), Decidable.not_not.1 fun e => c2 (.inr e), Decidable.not_not.1 c3, ?_⟩
        unfold fin
        show _ = if orI b.acked (shlI 1 k) ≠ bAll b then _ else _
        split
        · rfl
        · split <;> rfl
theorem fin_1 {b : Bar} (h : (fin b).state = 1) : fin b = b := by
  unfold fin at *
  split
  · rfl
  · rename_i c; rw [if_neg c] at h
    split at h
    · simp at h
    · simp at h
def ackRun (b : Bar) : List (Int × List Field) → Option Bar
  | [] => some b
  | x :: xs => if (bAck b x.1 1 x.2).2 ≠ 0 then none else ackRun (bAck b x.1 1 x.2).1 xs
def jRun (js : List Field) : List (List Field) → Option (List Field)
  | [] => some js
  | l :: ls => if ackErr l js ≠ 0 then none else jRun (ackAll l js) ls
def orK (a k : Int) : Int := orI a (shlI 1 k)
theorem ackRun_is {c : Bar} : ∀ {xs : List (Int × List Field)} {b : Bar}, xs ≠ [] → ackRun b xs = some c → ∃ J, jRun b.joined (xs.map (·.2)) = some J ∧ c = fin { b with acked := (xs.map (·.1)).foldl orK b.acked, joined := J }
  | [], b, h, _ => absurd rfl h
  | x :: xs, b, _, h => by
    unfold ackRun at h
    split at h
    · cases h
    · rename_i c0
      obtain ⟨_, _, _, he, e⟩ := bAck_fin (Decidable.not_not.1 c0)
      rw [e] at h
      cases xs with
      | nil =>
        refine ⟨ackAll x.2 b.joined, ?_, ?_⟩
        · show (if ackErr x.2 b.joined ≠ 0 then none else some _) = _
          rw [if_neg (by rw [he]; simp)]
        · cases h; rfl
      | cons y ys =>
        have hs : (fin { b with acked := orI b.acked (shlI 1 x.1), joined := ackAll x.2 b.joined }).state = 1 := by
          have h2 := h
          unfold ackRun at h2
          split at h2
          · cases h2
          · rename_i c1
            exact (bAck_fin (Decidable.not_not.1 c1)).2.1
        rw [fin_1 hs] at h
        obtain ⟨J, h1, h2⟩ := ackRun_is (by simp) h
        refine ⟨J, ?_, h2⟩
        show (if ackErr x.2 b.joined ≠ 0 then none else _) = _
        rw [if_neg (by rw [he]; simp)]; exact h1
def pickF (f : Field) (l : List Field) : Field := ix fZ l (plFind l f.name).toNat
theorem ackOne_ok {l : List Field} {f : Field} (h : (ackOne l f).2 = 0) : (fJoin f (pickF f l)).2 = 0 ∧ (ackOne l f).1 = (fJoin f (pickF f l)).1 := by
  unfold ackOne pickF at *
  split at h
  · simp at h
  · rename_i c; rw [if_neg c]; exact ⟨h, rfl⟩
theorem ackAll_ix {l js : List Field} {i : Nat} (hi : i < js.length) : ix fZ (ackAll l js) i = (ackOne l (ix fZ js i)).1 := by
  unfold ackAll
  rw [ix_eq (by simpa using hi), List.getElem_map, ix_eq hi]
theorem jRun_is {J : List Field} : ∀ {ls : List (List Field)} {js : List Field}, jRun js ls = some J → J.length = js.length ∧ ∀ i, i < js.length → joinAll (ix fZ js i) (ls.map (pickF (ix fZ js i))) = some (ix fZ J i)
  | [], js, h => by cases h; exact ⟨rfl, fun i hi => rfl⟩
  | l :: ls, js, h => by
    unfold jRun at h
    split at h
    · cases h
    · rename_i c
      have h0 := ackErr_all (Decidable.not_not.1 c)
      obtain ⟨h1, h2⟩ := jRun_is h
      have hl : (ackAll l js).length = js.length := by unfold ackAll; rw [List.length_map]
      refine ⟨h1.trans hl, fun i hi => ?_⟩
      have hm := h0 _ (ix_mem (z := fZ) hi)
      obtain ⟨j1, j2⟩ := ackOne_ok hm
      have := h2 i (by omega)
      have hn : pickF (ix fZ (ackAll l js) i) = pickF (ix fZ js i) := by
        funext l'; unfold pickF; rw [ackAll_ix hi, ackOne_name hm]
      rw [hn, ackAll_ix hi, j2] at this
      show (if _ then none else _) = _
      rw [if_neg (by rw [j1]; simp)]; exact this
theorem jRun_rev {J J' js : List Field} {ls : List (List Field)} (h0 : ls ≠ []) (h : jRun js ls = some J) (h' : jRun js ls.reverse = some J') : J = J' := by
  obtain ⟨a1, a2⟩ := jRun_is h
  obtain ⟨b1, b2⟩ := jRun_is h'
  apply List.ext_getElem (by omega)
  intro i hi hi'
  have x := a2 i (by omega)
  have y := b2 i (by omega)
  have := joinAll_perm (hp := ((List.reverse_perm ls).symm.map (pickF (ix fZ js i)))) (by simpa using h0) x y
  rwa [ix_eq hi, ix_eq hi'] at this
theorem wrap_emod (n : Int) : (IntKind.i64.wrap n) % 18446744073709551616 = n % 18446744073709551616 := by
  rw [IntKind.wrap_i64]; omega
theorem ofInt_wrap (v : BitVec 64) : BitVec.ofInt 64 (IntKind.i64.wrap v.toNat) = v := by
  apply BitVec.eq_of_toNat_eq
  rw [BitVec.toNat_ofInt]
  have h1 := wrap_emod v.toNat
  have h2 : v.toNat < 18446744073709551616 := v.isLt
  have h3 : ((2 ^ 64 : Nat) : Int) = 18446744073709551616 := by decide
  rw [h3, h1]; omega
theorem orI_rc (a x y : Int) : orI (orI a x) y = orI (orI a y) x := by
  unfold orI
  rw [ofInt_wrap, ofInt_wrap, BitVec.or_assoc, BitVec.or_comm (BitVec.ofInt 64 x), BitVec.or_assoc]
theorem ackRun_rev {b c d : Bar} {xs : List (Int × List Field)} (h0 : xs ≠ []) (h : ackRun b xs = some c) (h' : ackRun b xs.reverse = some d) : c = d := by
  obtain ⟨J, h1, rfl⟩ := ackRun_is h0 h
  obtain ⟨J', h2, rfl⟩ := ackRun_is (by simpa using h0) h'
  rw [List.map_reverse] at h2
  have e := jRun_rev (by simpa using h0) h1 h2
  subst e
  have e2 : (xs.reverse.map (·.1)).foldl orK b.acked = (xs.map (·.1)).foldl orK b.acked := foldl_rc (g := orK) (fun a x y => orI_rc a _ _) ((List.reverse_perm xs).map _) _
  rw [e2]
theorem ackRun_app {b c : Bar} {x : Int × List Field} : ∀ {xs : List (Int × List Field)} {b : Bar}, ackRun b xs = some c → (bAck c x.1 1 x.2).2 = 0 → ackRun b (xs ++ [x]) = some (bAck c x.1 1 x.2).1
  | [], b, h, h1 => by
    cases h
    show (if _ then none else some _) = _
    rw [if_neg (by rw [h1]; simp)]
  | y :: xs, b, h, h1 => by
    unfold ackRun at h
    split at h
    · cases h
    · rename_i c0
      show (if _ then none else _) = _
      rw [if_neg c0]; exact ackRun_app (b := b) h h1
theorem ordRun_acks {os : Os} {p : Plan} {b : Bar} : ∀ {k : Nat} {c d : Bar}, ordRun os p b k = some (c, d) → ackRun b ((List.range k).map fun j : Nat => ((j : Int) + 1, ix [] os j)) = some c ∧ ackRun b ((List.range k).map fun j : Nat => (((os.length - 1 - j : Nat) : Int) + 1, ix [] os (os.length - 1 - j))) = some d
  | 0, c, d, h => by cases h; exact ⟨rfl, rfl⟩
  | k + 1, c, d, h => by
    unfold ordRun at h
    cases e : ordRun os p b k with
    | none => rw [e] at h; cases h
    | some s =>
      obtain ⟨c0, d0⟩ := s
      rw [e] at h
      obtain ⟨i1, i2⟩ := ordRun_acks e
      have h : ordSt os p k (c0, d0) = some (c, d) := h
      unfold ordSt at h
      split at h
      · cases h
      · split at h
        · cases h
        · rename_i _ c2
          simp only [not_or, Decidable.not_not] at c2
          cases h
          rw [List.range_succ, List.map_append, List.map_append]
          exact ⟨ackRun_app (b := b) (x := ((k : Int) + 1, ix [] os k)) i1 c2.1, ackRun_app (b := b) (x := (((os.length - 1 - k : Nat) : Int) + 1, ix [] os (os.length - 1 - k))) i2 c2.2⟩
theorem range_rev {α : Type} (F : Nat → α) (n : Nat) : ((List.range n).map fun j => F (n - 1 - j)) = ((List.range n).map F).reverse := by
  apply List.ext_getElem (by simp)
  intro i h1 h2
  simp at h1
  rw [List.getElem_reverse]
  simp
theorem ord16_true (l : List Field) (p : Plan) (os : Os) : ord16 l p os = true := by
  unfold ord16
  split
  · rfl
  · rename_i ho
    split
    · rfl
    · rename_i s hs
      obtain ⟨c, d⟩ := s
      have hn : os.length ≠ 0 := fun e => ho (.inr (.inl (by omega)))
      obtain ⟨h1, h2⟩ := ordRun_acks hs
      rw [range_rev (fun j : Nat => ((j : Int) + 1, ix [] os j))] at h2
      have e := ackRun_rev (by simpa using hn) h1 h2
      subst e
      simp [ordSame]
end Go.Proofs.YtihgpbpcbbgdiaaGreat
