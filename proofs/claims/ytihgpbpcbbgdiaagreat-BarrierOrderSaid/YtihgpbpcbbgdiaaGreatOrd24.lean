/- Several texts in one. -/
import Derived.Test.YtihgpbpcbbgdiaaGreatOrd23
/- Rows of fields: slices.Clone, IndexFunc, DeleteFunc; barrier.own. -/
namespace Go.Proofs.YtihgpbpcbbgdiaaGreat
open Go.RowKit
set_option linter.unusedVariables false
set_option linter.unusedSimpArgs false
theorem Rows.fs {M : Mem} : ∀ {l : List Field} {c : List Value}, Rows rField M l c → ∃ ts : List FS, ts.map FS.f = l ∧ FSk M ts ∧ c = ts.flatMap encS
  | [], c, h => by
    have : c = [] := List.length_eq_zero_iff.1 (by have := h.len; simpa using this)
    exact ⟨[], rfl, FSk.nil, this⟩
  | f :: l, c, h => by
    have h0 := h.el 0 f rfl
    obtain ⟨A, cap, e, hS⟩ := h0
    have hl : c.length = (l.length + 1) * 587 := h.len
    have h' : Rows rField M l (c.drop 587) := by
      refine ⟨by rw [List.length_drop, hl, Nat.add_mul]; show _ = l.length * 587; omega, ?_, fun i x hx => ?_⟩
      · rw [List.all_eq_true]; intro v hv; exact List.all_eq_true.1 h.one v (List.mem_of_mem_drop hv)
      · have := h.el (i + 1) x (by simpa using hx)
        rw [List.drop_drop]
        rwa [show (i + 1) * rField.sz = 587 + i * rField.sz by show (i + 1) * 587 = 587 + i * 587; omega] at this
    obtain ⟨ts, h1, h2, h3⟩ := Rows.fs h'
    refine ⟨⟨f, A, cap⟩ :: ts, by simp [h1], fun s hs => ?_, ?_⟩
    · rcases List.mem_cons.1 hs with rfl | hs
      · exact hS
      · exact h2 s hs
    · rw [List.flatMap_cons, ← h3]
      show c = encF f A cap ++ c.drop 587
      rw [← e]
      show c = (c.drop (0 * 587)).take 587 ++ c.drop 587
      rw [Nat.zero_mul, List.drop_zero, List.take_append_drop]
section
variable {cx : Cx} {Q : Post} {E : Env} {M : Mem} {L : List Ent} {ops : Array Oper} {d T : Nat} {pos : String} {af : Array Edge} {rest : List Oper} {x y z : Operand} {v u : Value}
/-- a call that hands a row of fields -/
theorem jrowF {f : FuncId} {args tys : Array _} {fi ca vs : List Value} {l : List Field} {Tr : Nat} [FnI cx.P f] (hn : Nat.blt d cx.n = true)
    (hx : ev E x = some (.func (.func f) fi.toArray ca.toArray)) (ha : evL E args.toList = some vs) (hc : Ctr cx.P f (fi ++ vs ++ ca) M [] (fun v M' L' => ∃ ts, ts.map FS.f = l ∧ FSk M' ts ∧ L' = [.row v Tr 587 ts.length (ts.flatMap encS)]))
    (hk : ∀ v M' ts, MLe M M' → ts.map FS.f = l → FSk M' ts → J cx ops Q rest ((d, v) :: E) M' (.row v Tr 587 ts.length (ts.flatMap encS) :: L)) : J cx ops Q (⟨some d, .call ⟨.value x, args, tys⟩, T, pos, af, none⟩ :: rest) E M L :=
  jcall (Lb := []) (Lr := L) hn hx ha rfl hc (fun v M' L' hm h => by
    obtain ⟨ts, h1, h2, rfl⟩ := h
    exact hk v M' ts hm h1 h2)
theorem jrowA {f : FuncId} {args tys : Array _} {fi ca vs : List Value} {l : List Field} {Tr : Nat} [FnI cx.P f] (hn : Nat.blt d cx.n = true)
    (hx : ev E x = some (.func (.func f) fi.toArray ca.toArray)) (ha : evL E args.toList = some vs) (hc : Ctr cx.P f (fi ++ vs ++ ca) M [] (fun v M' L' => ∃ ts, ts.map FS.f = l ∧ FSk M' ts ∧ L' = [.row v Tr 587 ts.length (ts.flatMap encS)]))
    (hk : ∀ A cap M' ts, MLe M M' → ts.map FS.f = l → FSk M' ts → J cx ops Q rest ((d, .slice A l.length cap) :: E) M' (.row (.slice A l.length cap) Tr 587 l.length (ts.flatMap encS) :: L)) : J cx ops Q (⟨some d, .call ⟨.value x, args, tys⟩, T, pos, af, none⟩ :: rest) E M L :=
  jrowF hn hx ha hc fun v M' ts hm h1 h2 a w hs ho => by
    have hl : ts.length = l.length := by rw [← h1, List.length_map]
    have hrow := (ho.at' (i := 0) rfl).2
    have : ∃ A cap, v = .slice A l.length cap := by
      rcases hrow with ⟨h0, A, rfl⟩ | ⟨B, cap, rest, rfl, _⟩
      · exact ⟨A, 0, by rw [← hl, h0]⟩
      · exact ⟨some ⟨B, 0, none⟩, cap, by rw [hl]⟩
    obtain ⟨A, cap, rfl⟩ := this
    rw [hl] at ho
    exact hk A cap M' ts hm h1 h2 a w hs ho
end
theorem FSk.sub {M : Mem} {ts us : List FS} (h : FSk M ts) (hs : ∀ s ∈ us, s ∈ ts) : FSk M us := fun s h1 => h s (hs s h1)
theorem FSk.at {M : Mem} {ts : List FS} {k : Nat} (h : FSk M ts) (hk : k < ts.length) : SlR rHold M (ix sZ ts k).A (ix sZ ts k).cap (ix sZ ts k).f.holds := h _ (ix_mem hk)

theorem clone_Field (l : List Field) (A : Option Addr) (cap : Nat) (hf : FsOk l) (M : Mem) (hS : SlR rField M A cap l) : Ctr Tryz.prog 34 [.slice A l.length cap] M [] (fun v M' L' => ∃ ts, ts.map FS.f = l ∧ FSk M' ts ∧ L' = [.row v 49 587 ts.length (ts.flatMap encS)]) := by
  have hl := hf.1
  refine ctr Tryz.func34 rfl Tryz.ntmps34 rfl fun w => ?_
  refine c_seq <| c_region <| ja rfl rfl <| j_nil <| p_thn <| c_seq <| c_seq <| c_region <| jm rfl rfl <| jsnil rfl rfl rfl <| j_nil <| p_thn <| c_cond rfl (fun hb1 => ?_) (fun hb1 => ?_)
  · have phb1 := hb1; try simp at phb1
    refine c_seq <| c_region <| ja rfl rfl <| j_nil <| p_thn <| c_ret <| p_thn_ret <| ?_
    refine jp_nilrow none 49 587 <| ?_
    refine p_retK (ap_s <| ap_0) rfl rfl (.tmp rfl <| .nil) ?_
    have he : l = [] := by
      cases l with
      | nil => rfl
      | cons a l => obtain ⟨b, o, e⟩ := hS.adr (i := 0) (by simp); rw [e] at hb1; cases hb1
    subst he; exact ⟨[], rfl, FSk.nil, rfl⟩
  · have phb1 := hb1; try simp at phb1
    refine c_skip <| p_thn <| c_seq <| c_region <| jbs0 rfl fun B2 => jm rfl rfl <| ?_
    obtain ⟨cs, hsrc, hrows⟩ := hS.srcs
    obtain ⟨ts, ht1, ht2, rfl⟩ := hrows.fs
    refine j_nilrow (some ⟨B2, 0, none⟩) 49 587 <| japp rfl rfl rfl (fun w ho => hsrc _) hrows.one (len_F _ _ _) (by decide) (by omega) (by omega) fun vB4 => ja rfl rfl <| j_nil <| p_thn <| c_ret <| ?_
    refine p_retK (ap_s <| ap_0) rfl rfl (.tmp rfl <| .nil) ?_
    have hlen : ts.length = l.length := by rw [← ht1, List.length_map]
    refine ⟨ts, ht1, ht2, ?_⟩
    show [_] = [_]
    rw [Nat.zero_add, hlen]; rfl
theorem indexFunc_FieldR {f : Nat} {ca : List Value} [FnI Tryz.prog f] {Lt : List Ent} (v : Value) (ts : List FS) (hl : ts.length ≤ 10000) (p : Field → Bool) (M : Mem) (hk : FSk M ts) (hp : ∀ s, s ∈ ts → Ctr Tryz.prog f ([.agg (encS s).toArray] ++ ca) M Lt (fun v _ L' => v = .bool (p s.f) ∧ L' = Lt)) : Ctr Tryz.prog 84 [v, .func (.func f) #[] ca.toArray] M (.row v 49 587 ts.length (ts.flatMap encS) :: Lt) (fun r _ L' => r = vi (lFind ts (fun s => p s.f)) ∧ L' = .row v 49 587 ts.length (ts.flatMap encS) :: Lt) := by
  refine ctr Tryz.func84 rfl Tryz.ntmps84 rfl fun w => ?_
  refine c_seq <| c_region <| ja rfl rfl <| j_nil <| p_thn <| c_seq <| c_seq <| c_region <| jm rfl rfl <| jrlen 0 rfl rfl rfl <| jm rfl rfl <| j_nil <| p_thn <| c_block <| c_lp (X := Nat) (fun k => k ≤ ts.length ∧ ∀ j, j < k → p (ix sZ ts j).f = false) (fun k => ts.length - k) (fun k => [(8, vi (k : Int))]) [7, 1, 0] 0 ?_ (sub_c rfl <| sub_c rfl <| sub_c rfl <| sub_c rfl <| sub_n) ?_
  · exact ⟨Nat.zero_le _, fun j hj => absurd hj (Nat.not_lt_zero j)⟩
  · intro k hI
    obtain ⟨hk2, hall⟩ := hI
    refine c_seq <| c_region <| jlss rfl rfl rfl <| j_nil <| p_thn <| c_seq <| c_cond rfl (fun hb1 => ?_) (fun hb1 => ?_)
    · have phb1 := hb1; try simp at phb1
      refine c_skip <| p_thn <| c_seq <| c_block <| c_seq <| c_region <| jm rfl rfl <| ja rfl rfl <| j_nil <| p_thn <| c_seq <| c_region <| jm rfl rfl <| jm rfl rfl <| jm rfl rfl <| j_open (by first | omega | (simp; omega)) fun Bo1 capo1 rso1 hvo1 hco1 hro1 hlo1 => ?_
      cases hvo1
      refine jis rfl rfl rfl (by omega) (by first | omega | (simp; omega)) <| jld 0 rfl rfl rfl (flatk_getw (i := k) len_S (z := sZ) (by first | omega | (simp; omega))) (len_F _ _ _) <| jcallo rfl rfl rfl (ap_s <| ap_0) (hp (ix sZ ts k) (ix_mem (by omega))) (ap_s <| ap_0) <| j_nil <| p_thn <| c_cond rfl (fun hb2 => ?_) (fun hb2 => ?_)
      · have phb2 := hb2; try simp at phb2
        refine c_seq <| c_region <| jm rfl rfl <| ja rfl rfl <| j_nil <| p_thn <| c_ret <| p_inb_ret <| p_thn_ret <| p_lp_ret <| p_inb_ret <| p_thn_ret <| jp_shut (by first | omega | (simp; omega)) hco1 hro1 (by first | exact hlo1 | (rw [flatk_len len_S]; simp <;> omega)) <| ?_
        refine p_retL rfl rfl (.tmp rfl <| .nil) ?_
        refine ⟨?_, rfl⟩
        show vi _ = vi _
        congr 1
        unfold lFind
        rw [find_some (z := sZ) (k := k) (by omega) (by assumption) hall]
      · have phb2 := hb2; try simp at phb2
        refine c_skip <| p_inb <| p_thn <| c_region <| jadd rfl rfl rfl (by first | exact wr (by omega) (by omega) | rfl) <| jm rfl rfl <| j_nil <| jp_shut (by first | omega | (simp; omega)) hco1 hro1 (by first | exact hlo1 | (rw [flatk_len len_S]; simp <;> omega)) <| ?_
        refine p_lp (k + 1) ?_ ?_ (sub_c rfl <| sub_c rfl <| sub_c rfl <| sub_c rfl <| sub_n) rfl rfl
        · refine ⟨by omega, fun j hj => ?_⟩
          rcases Nat.lt_succ_iff_lt_or_eq.1 hj with h | rfl
          · exact hall j h
          · assumption
        · omega
    · have phb1 := hb1; try simp at phb1
      refine c_exit <| p_thn_exit <| p_lp_exit <| p_inb_exit <| p_thn <| c_seq <| c_region <| ja rfl rfl <| j_nil <| p_thn <| c_ret <| ?_
      refine p_retL rfl rfl (.tmp rfl <| .nil) ?_
      refine ⟨?_, rfl⟩
      obtain rfl : k = ts.length := by omega
      show vi _ = vi _
      congr 1
      unfold lFind
      rw [find_none (z := sZ) hall]
/-- what stays when DeleteFunc has gone through j elements -/
def dState (ts cur : List FS) (p : Field → Bool) (i j : Nat) : Prop := cur.length = ts.length ∧ i < j ∧ j ≤ ts.length ∧ cur.take i = (ts.take j).filter (fun s => !p s.f) ∧ cur.drop j = ts.drop j ∧ ∀ s ∈ cur, s ∈ ts

theorem dState_at {ts cur : List FS} {p : Field → Bool} {i j : Nat} (h : dState ts cur p i j) (hj : j < ts.length) : ix sZ cur j = ix sZ ts j := by
  obtain ⟨h1, h2, h3, h4, h5, h6⟩ := h
  have e : cur.drop j = ts.drop j := h5
  rw [ix_eq (by omega), ix_eq hj]
  have := congrArg (fun l => l[0]?) e
  simp only [List.getElem?_drop, Nat.add_zero] at this
  rw [List.getElem?_eq_getElem (by omega), List.getElem?_eq_getElem hj] at this
  exact Option.some.inj this
theorem dState_skip {ts cur : List FS} {p : Field → Bool} {i j : Nat} (h : dState ts cur p i j) (hj : j < ts.length) (hp : p (ix sZ ts j).f = true) : dState ts cur p i (j + 1) := by
  obtain ⟨h1, h2, h3, h4, h5, h6⟩ := h
  refine ⟨h1, by omega, by omega, ?_, ?_, h6⟩
  · rw [h4, List.take_add_one, ix_get (z := sZ) hj, List.filter_append]; simp [hp]
  · rw [← List.drop_drop, h5, List.drop_drop]
theorem dState_keep {ts cur : List FS} {p : Field → Bool} {i j : Nat} (h : dState ts cur p i j) (hj : j < ts.length) (hp : p (ix sZ ts j).f = false) : dState ts (cur.set i (ix sZ cur j)) p (i + 1) (j + 1) := by
  have he := dState_at h hj
  obtain ⟨h1, h2, h3, h4, h5, h6⟩ := h
  refine ⟨by rw [List.length_set]; exact h1, by omega, by omega, ?_, ?_, fun s hs => ?_⟩
  · rw [List.take_add_one, List.take_set_of_le (Nat.le_refl _), h4, List.getElem?_set_self (by omega), he, List.take_add_one, ix_get (z := sZ) hj, List.filter_append]
    simp [hp]
  · rw [List.drop_set_of_lt (by omega), ← List.drop_drop, h5, List.drop_drop]
  · rcases List.mem_or_eq_of_mem_set hs with hs | rfl
    · exact h6 s hs
    · exact h6 _ (ix_mem (by omega))
theorem dState_init {ts : List FS} {p : Field → Bool} {i : Nat} (hi : ts.findIdx? (fun s => p s.f) = some i) : dState ts ts p i (i + 1) := by
  obtain ⟨h1, h2, h3⟩ := List.findIdx?_eq_some_iff_getElem.1 hi
  refine ⟨rfl, by omega, by omega, ?_, rfl, fun s hs => hs⟩
  rw [List.take_add_one, List.getElem?_eq_getElem h1, List.filter_append, Option.toList_some, List.filter_cons, h2]
  simp only [Bool.not_true, Bool.false_eq_true, if_false, List.filter_nil, List.append_nil]
  symm
  rw [List.filter_eq_self]
  intro s hs
  obtain ⟨k, hk, rfl⟩ := List.getElem_of_mem hs
  rw [List.getElem_take]
  have hk2 : k < i := by simp at hk; omega
  have := h3 k hk2
  simpa using this
theorem dState_end {ts cur : List FS} {p : Field → Bool} {i : Nat} (h : dState ts cur p i ts.length) : cur.take i = ts.filter (fun s => !p s.f) := by
  rw [h.2.2.2.1, List.take_length]
theorem filter_none {ts : List FS} {p : Field → Bool} (h : ts.findIdx? (fun s => p s.f) = none) : ts.filter (fun s => !p s.f) = ts := by
  rw [List.findIdx?_eq_none_iff] at h
  rw [List.filter_eq_self]; intro s hs; simp [h s hs]
theorem lFind_cases {α : Type} (hs : List α) (p : α → Bool) : (lFind hs p = -1 ∧ hs.findIdx? p = none) ∨ ∃ i : Nat, lFind hs p = i ∧ hs.findIdx? p = some i ∧ i < hs.length := by
  unfold lFind
  cases e : hs.findIdx? p with
  | none => exact .inl ⟨rfl, rfl⟩
  | some i => exact .inr ⟨i, rfl, rfl, (List.findIdx?_eq_some_iff_getElem.1 e).1⟩
theorem dState_b {ts cur : List FS} {p : Field → Bool} {i j : Nat} (h : dState ts cur p i j) : cur.length = ts.length ∧ i < j ∧ j ≤ ts.length := ⟨h.1, h.2.1, h.2.2.1⟩
theorem dState_mem {ts cur : List FS} {p : Field → Bool} {i j k : Nat} (h : dState ts cur p i j) (hk : k < ts.length) : ix sZ cur k ∈ ts := h.2.2.2.2.2 _ (ix_mem (by have := h.1; omega))
theorem jp_cutrow {cx : Cx} {Q : Post} {E : Env} {M : Mem} {L : List Ent} {e : Exit} {B T sz n i cap : Nat} {cc rs : List Value} (h0 : 0 < cap) (h1 : n ≤ cap) (hi : i ≤ n) (h2 : cc.length = n * sz) (h3 : rs.length = (cap - n) * sz)
    (hk : JP cx Q e E M (.row (.slice (some ⟨B, 0, none⟩) i cap) T sz i (cc.take (i * sz)) :: L)) : JP cx Q e E M (.blk B T (cc ++ rs) :: L) := fun a w hs ho => by
  have hB : w.heap[B]? = some (.cells (cc ++ rs).toArray T (0, 0)) := ho.at' (i := 0) rfl
  have hle : i * sz ≤ n * sz := Nat.mul_le_mul_right sz hi
  have hsum : (n - i) * sz + (cap - n) * sz = (cap - i) * sz := by rw [← Nat.add_mul]; congr 1; omega
  have hni : (n - i) * sz = n * sz - i * sz := Nat.sub_mul n i sz
  refine hk a w hs (ho.alter (by simp [Ent.bs]; omega) ⟨by rw [List.length_take]; omega, .inr ⟨B, cap, cc.drop (i * sz) ++ rs, rfl, h0, by omega, by rw [List.length_append, List.length_drop]; omega, ?_⟩⟩)
  rw [← List.append_assoc, List.take_append_drop]; exact hB
theorem flatk_take {α : Type} {f : α → List Value} {k : Nat} (hk : ∀ x, (f x).length = k) : ∀ (xs : List α) (i : Nat), (xs.flatMap f).take (i * k) = (xs.take i).flatMap f
  | xs, 0 => by simp
  | [], i + 1 => by simp
  | x :: xs, i + 1 => by
    rw [List.flatMap_cons, List.take_succ_cons, List.flatMap_cons, ← flatk_take hk xs i, Nat.add_mul, Nat.one_mul, Nat.add_comm, ← hk x, List.take_length_add_append]
attribute [local irreducible] dState

theorem deleteFunc_Field {f : Nat} {ca : List Value} [FnI Tryz.prog f] {Lt : List Ent} (v : Value) (ts : List FS) (hl : ts.length ≤ 10000) (p : Field → Bool) (M : Mem) (hk : FSk M ts) (hp : ∀ s, s ∈ ts → Ctr Tryz.prog f ([.agg (encS s).toArray] ++ ca) M Lt (fun v _ L' => v = .bool (p s.f) ∧ L' = Lt)) : Ctr Tryz.prog 33 [v, .func (.func f) #[] ca.toArray] M (.row v 49 587 ts.length (ts.flatMap encS) :: Lt) (fun r _ L' => L' = .row r 49 587 (ts.filter (fun s => !p s.f)).length ((ts.filter (fun s => !p s.f)).flatMap encS) :: Lt) := by
  refine ctr Tryz.func33 rfl Tryz.ntmps33 rfl fun w => ?_
  refine c_seq <| c_region <| ja rfl rfl <| j_nil <| p_thn <| c_seq <| c_region <| jm rfl rfl <| jm rfl rfl <| jcallb rfl rfl rfl ap_all (indexFunc_FieldR v ts hl p _ hk hp) ap_all <| ja rfl rfl <| j_nil <| p_thn <| c_seq <| c_seq <| c_region <| jm rfl rfl <| jeql rfl rfl rfl <| j_nil <| p_thn <| c_cond rfl (fun hb1 => ?_) (fun hb1 => ?_)
  · have phb1 := hb1; try simp at phb1
    have hf2 : ts.findIdx? (fun s => p s.f) = none := by
      rcases lFind_cases ts (fun s => p s.f) with h | ⟨n0, h1, _, _⟩
      · exact h.2
      · omega
    refine c_seq <| c_region <| jm rfl rfl <| ja rfl rfl <| j_nil <| p_thn <| c_ret <| p_thn_ret <| ?_
    refine p_retL rfl rfl (.tmp rfl <| .nil) ?_
    rw [filter_none hf2]; rfl
  · have phb1 := hb1; try simp at phb1
    obtain ⟨n0, hf1, hf2, hf3⟩ : ∃ i : Nat, lFind ts (fun s => p s.f) = i ∧ ts.findIdx? (fun s => p s.f) = some i ∧ i < ts.length := by
      rcases lFind_cases ts (fun s => p s.f) with h | h
      · exact absurd h.1 phb1
      · exact h
    rw [hf1]
    refine c_skip <| p_thn <| c_seq <| c_seq <| c_region <| jm rfl rfl <| jadd rfl rfl rfl (by first | exact wr (by omega) (by omega) | rfl) <| ja rfl rfl <| j_nil <| p_thn <| c_block <| c_lpL (X := Nat × Nat × List FS) (fun q => dState ts q.2.2 p q.1 q.2.1) (fun q => ts.length - q.2.1) (fun q => [(5, vi (q.1 : Int)), (6, vi (q.2.1 : Int))]) [4, 1, 0] (fun q => .row v 49 587 ts.length (q.2.2.flatMap encS) :: Lt) (n0, n0 + 1, ts) ?_ (sub_c rfl <| sub_c rfl <| sub_c rfl <| sub_c rfl <| sub_c rfl <| sub_n) rfl ?_
    · exact dState_init hf2
    · intro q hI
      obtain ⟨i, j, cur⟩ := q
      dsimp only at hI ⊢
      have hds := hI
      obtain ⟨hcl, hij, hjl⟩ := dState_b hI
      refine c_seq <| c_seq <| c_region <| jm rfl rfl <| jm rfl rfl <| jrlen 0 rfl rfl rfl <| jlss rfl rfl rfl <| j_nil <| p_thn <| c_cond rfl (fun hb2 => ?_) (fun hb2 => ?_)
      · have phb2 := hb2; try simp at phb2
        refine c_skip <| p_thn <| c_seq <| c_block <| c_seq <| c_region <| jm rfl rfl <| jm rfl rfl <| j_open (by first | omega | (simp; omega)) fun Bo1 capo1 rso1 hvo1 hco1 hro1 hlo1 => ?_
        cases hvo1
        refine jis rfl rfl rfl (by omega) (by first | omega | (simp; omega)) <| jld 0 rfl rfl rfl (flatk_getw (i := j) len_S (z := sZ) (by first | omega | (simp; omega))) (len_F _ _ _) <| jalloc rfl fun B3 => jstw 0 rfl rfl rfl rfl (len_F _ _ _) (one_F _ _ _) (len_F _ _ _) <| j_nil <| p_thn <| c_seq <| c_region <| jm rfl rfl <| jldw 0 rfl rfl rfl (len_F _ _ _) <| jcallo rfl rfl rfl (ap_s <| ap_s <| ap_0) (hp (ix sZ cur j) (dState_mem hds (by omega))) (ap_s <| ap_s <| ap_0) <| jnot rfl rfl <| j_nil <| p_thn <| c_cond rfl (fun hb4 => ?_) (fun hb4 => ?_)
        · have phb4 := hb4; try simp at phb4
          refine c_seq <| c_region <| jm rfl rfl <| jm rfl rfl <| jldw 0 rfl rfl rfl (len_F _ _ _) <| jis rfl rfl rfl (by omega) (by first | omega | (simp; omega)) <| jst 1 rfl rfl rfl rfl (len_F _ _ _) (one_F _ _ _) (by rw [List.length_append, flatk_len len_S]; simp; omega) (flatk_putw (i := i) (x := ix sZ cur j) len_S (by first | omega | (simp; omega))) <| j_nil <| p_thn <| c_region <| jm rfl rfl <| jadd rfl rfl rfl (by first | exact wr (by omega) (by omega) | rfl) <| ja rfl rfl <| j_nil <| p_inb <| p_thn <| c_region <| jm rfl rfl <| jadd rfl rfl rfl (by first | exact wr (by omega) (by omega) | rfl) <| ja rfl rfl <| j_nil <| jp_perm (fr_s <| fr_0) <| jp_shut (by first | omega | (simp; omega)) hco1 hro1 (by first | exact hlo1 | (rw [flatk_len len_S]; simp <;> omega)) <| jp_perm (fr_s <| fr_0) <| jp_dr (ap_s <| ap_0) <| ?_
          refine p_lp ((i + 1, j + 1, cur.set i (ix sZ cur j))) ?_ ?_ (sub_c rfl <| sub_c rfl <| sub_c rfl <| sub_c rfl <| sub_c rfl <| sub_n) rfl rfl
          · exact dState_keep hds (by omega) (by rw [← dState_at hds (by omega)]; simpa using phb4)
          · show ts.length - (j + 1) < ts.length - j; omega
        · have phb4 := hb4; try simp at phb4
          refine c_skip <| p_inb <| p_thn <| c_region <| jm rfl rfl <| jadd rfl rfl rfl (by first | exact wr (by omega) (by omega) | rfl) <| ja rfl rfl <| j_nil <| jp_perm (fr_s <| fr_0) <| jp_shut (by first | omega | (simp; omega)) hco1 hro1 (by first | exact hlo1 | (rw [flatk_len len_S]; simp <;> omega)) <| jp_perm (fr_s <| fr_0) <| jp_dr (ap_s <| ap_0) <| ?_
          refine p_lp ((i, j + 1, cur)) ?_ ?_ (sub_c rfl <| sub_c rfl <| sub_c rfl <| sub_c rfl <| sub_c rfl <| sub_n) rfl rfl
          · exact dState_skip hds (by omega) (by rw [← dState_at hds (by omega)]; simpa using phb4)
          · show ts.length - (j + 1) < ts.length - j; omega
      · have phb2 := hb2; try simp at phb2
        obtain rfl : j = ts.length := by omega
        refine c_exit <| p_thn_exit <| p_lp_exit <| p_inb_exit <| p_thn <| c_seq <| c_region <| jm rfl rfl <| jm rfl rfl <| j_open (by first | omega | (simp; omega)) fun Bo2 capo2 rso2 hvo2 hco2 hro2 hlo2 => ?_
        cases hvo2
        refine jslo rfl rfl rfl (by omega) (by omega) <| jclr (i := i) (len := ts.length) 0 rfl rfl (by rw [flatk_len len_S, hcl]) (by omega) (by omega) (len_F _ _ _) (one_F _ _ _) fun cc hcc1 hcc2 => j_nil <| p_thn <| c_seq <| c_region <| jm rfl rfl <| jm rfl rfl <| jshi rfl rfl rfl (by omega) <| ja rfl rfl <| j_nil <| p_thn <| c_ret <| ?_
        refine jp_cutrow (n := ts.length) (i := i) (cap := capo2) (by omega) hco2 (by omega) (by rw [hcc1, flatk_len len_S, hcl]) hro2 <| p_retL rfl rfl (.tmp rfl <| .nil) ?_
        have e1 : cc.take (i * 587) = (ts.filter (fun s => !p s.f)).flatMap encS := by rw [hcc2, flatk_take len_S, dState_end hds]
        have e2 : i = (ts.filter (fun s => !p s.f)).length := by rw [← dState_end hds, List.length_take]; omega
        rw [e1, ← e2]; rfl
theorem barrier_own (l : List Field) (A : Option Addr) (cap : Nat) (hf : FsOk l) (M : Mem) (hS : SlR rField M A cap l) : Ctr Tryz.prog 37 [.slice A l.length cap] M [] (fun v M' L' => ∃ ts, ts.map FS.f = l ∧ FSk M' ts ∧ L' = [.row v 49 587 ts.length (ts.flatMap encS)]) := by
  have hl := hf.1
  refine ctr Tryz.func37 rfl Tryz.ntmps37 rfl fun w => ?_
  refine c_seq <| c_region <| ja rfl rfl <| j_nil <| p_thn <| c_seq <| c_region <| ja rfl rfl <| j_nil <| p_thn <| c_seq <| c_seq <| c_region <| jm rfl rfl <| jlen rfl rfl <| jm rfl rfl <| j_nil <| p_thn <| c_block <| jc_nilrow none 49 587 <| c_lpML (X := Nat × Mem × List FS × Value) (fun q => q.1 ≤ l.length ∧ MLe M q.2.1 ∧ FSk q.2.1 q.2.2.1 ∧ q.2.2.1.map FS.f = l.take q.1) (fun q => l.length - q.1) (fun q => [(8, vi (q.1 : Int)), (3, q.2.2.2)]) [7, 6, 2] (fun q => q.2.1) (fun q => [.row q.2.2.2 49 587 q.2.2.1.length (q.2.2.1.flatMap encS)]) (0, M, [], _) ?_ (sub_c rfl <| sub_c rfl <| sub_c rfl <| sub_c rfl <| sub_c rfl <| sub_n) rfl (by rfl) ?_
  · exact ⟨Nat.zero_le _, MLe.refl _, FSk.nil, rfl⟩
  · intro q hI
    obtain ⟨k, M1, ts, u⟩ := q
    dsimp only at hI ⊢
    obtain ⟨hk, hm, hfk, hts⟩ := hI
    have htl : ts.length = k := by { have q1 := congrArg List.length hts; simp at q1; omega }
    have hS := hS.mono hm
    refine c_seq <| c_region <| jlss rfl rfl rfl <| j_nil <| p_thn <| c_seq <| c_cond rfl (fun hb2 => ?_) (fun hb2 => ?_)
    · have phb2 := hb2; try simp at phb2
      have hfl : (ix fZ l k).holds.length ≤ 10000 := (hf.2 _ (ix_mem (by omega))).1
      refine c_skip <| p_thn <| c_seq <| c_block <| c_seq <| c_region <| ji rfl rfl rfl (by omega) (by omega) (hS.adr (i := k) (by omega)) <| jle rfl hS (ix_get (z := fZ) (i := k) (by omega)) rfl rfl fun c11 hc11 => ?_
      obtain ⟨Af11, capf11, rfl, hH11⟩ := hc11
      refine jalloc rfl fun B3 => jstw 0 rfl rfl rfl rfl (len_F _ _ _) (one_F _ _ _) (len_F _ _ _) <| j_nil <| p_thn <| c_seq <| c_region <| jfa rfl rfl rfl <| jld1 0 rfl rfl rfl (pF_holds _ _ _) <| jcallr rfl rfl rfl (ap_0) (clone_Hold _ _ _ (by omega) _ hH11) (fun _ => (ap_s <| ap_0)) fun vc => j_freeze fun M1z hM1z hz1 => ?_
      obtain ⟨A1z, cap1z, rfl, hS1z⟩ := frz (r := rHold) (xs := (ix fZ l k).holds) hz1 (Rows.flat (fun _ => rfl) _) rfl
      refine jfa rfl rfl rfl <| jst 0 rfl rfl rfl rfl rfl rfl (by rw [len_F]; exact Nat.le_of_ble_eq_true rfl) (uF_holds _ _ _ _ _ _) <| j_nil <| p_thn <| c_region <| jm rfl rfl <| jldw 0 rfl rfl rfl (len_F _ _ _) <| jbsl (vs := [_]) [_] rfl rfl rfl (by simp [len_F]) rfl (len_F _ _ _) (by decide) (by decide) fun B6 => j_perm (fr_s <| fr_s <| fr_0) <| japp rfl rfl rfl (fun w ho => Src.blk (i := 1) rfl (by simp [len_vec, len_rights, len_counter, len_lock, len_hold, len_plan, len_F])) (by simp [one_vec, one_hold, one_plan, one_F, List.all_append, -List.all_eq_true]) (len_F _ _ _) (by decide) (by omega) (by omega) fun vB7 => ja rfl rfl <| j_nil <| p_inb <| p_thn <| c_region <| jadd rfl rfl rfl (by first | exact wr (by omega) (by omega) | rfl) <| jm rfl rfl <| j_nil <| jp_tk (ap_s <| ap_0) <| ?_
      refine p_lp ((k + 1, M1z, ts ++ [⟨ix fZ l k, A1z, cap1z⟩], _)) ?_ ?_ (sub_c rfl <| sub_c rfl <| sub_c rfl <| sub_c rfl <| sub_c rfl <| sub_n) rfl (by simp)
      · refine ⟨by show _ ≤ _; omega, hm.trans hM1z, (hfk.mono hM1z).app hS1z, ?_⟩
        show (ts ++ _).map FS.f = l.take (k + 1)
        rw [List.map_append, hts, List.take_add_one, ix_get (z := fZ) (by omega)]; rfl
      · show _ - _ < _ - _; omega
    · have phb2 := hb2; try simp at phb2
      refine c_exit <| p_thn_exit <| p_lp_exit <| p_inb_exit <| p_thn <| c_seq <| c_region <| jm rfl rfl <| ja rfl rfl <| j_nil <| p_thn <| c_ret <| ?_
      refine p_retK (ap_s <| ap_0) rfl rfl (.tmp rfl <| .nil) ?_
      exact ⟨ts, by rw [hts]; exact List.take_of_length_le (by omega), hfk, rfl⟩
end Go.Proofs.YtihgpbpcbbgdiaaGreat
