/- Several texts in one. -/
import Derived.Test.YtihgpbpcbbgdiaaGreatOrd28
import Derived.Test.YtihgpbpcbbgdiaaGreatOrd19
import Derived.Test.YtihgpbpcbbgdiaaGreatOrd27
/- What law 16 asks of its inputs; which fields are the same. -/
namespace Go.Proofs.YtihgpbpcbbgdiaaGreat
open Go.RowKit
set_option linter.unusedVariables false
set_option linter.unusedSimpArgs false
def few1 (f : Field) : Bool := decide ((f.name.size : Int) ≤ 100) && decide ((f.holds.length : Int) ≤ 40)
def few13 (l : List Field) (p : Plan) : Bool := decide ((l.length : Int) ≤ 8) && l.all few1 && decide ((p.name.size : Int) ≤ 100) && decide ((p.other.size : Int) ≤ 100)
theorem take_all {α : Type} {p : α → Bool} {z : α} {xs : List α} {k : Nat} (h : k < xs.length) (h1 : (xs.take k).all p = true) (h2 : p (ix z xs k) = true) : (xs.take (k + 1)).all p = true := by
  rw [List.take_add_one, ix_get (z := z) h, List.all_append, h1]; simpa using h2
theorem all_not {α : Type} {p : α → Bool} {z : α} {xs : List α} {k : Nat} (h : k < xs.length) (h2 : p (ix z xs k) = false) : xs.all p = false := by
  rw [List.all_eq_false]
  exact ⟨ix z xs k, by rw [ix_eq h]; exact List.getElem_mem _, by rw [h2]; decide⟩
theorem few13_fs {l : List Field} {p : Plan} (h : few13 l p = true) : FsOk l ∧ l.length ≤ 8 := by
  unfold few13 at h
  simp only [Bool.and_eq_true, decide_eq_true_eq] at h
  refine ⟨⟨by omega, fun f hf => ?_⟩, by omega⟩
  have h2 := List.all_eq_true.1 h.1.1.2 f hf
  unfold few1 at h2
  simp only [Bool.and_eq_true, decide_eq_true_eq] at h2
  exact ⟨by omega, by omega⟩
theorem few13_p {l : List Field} {p : Plan} (h : few13 l p = true) : p.name.size ≤ 100000 ∧ p.other.size ≤ 100000 := by
  unfold few13 at h
  simp only [Bool.and_eq_true, decide_eq_true_eq] at h
  omega
theorem take_ext {α : Type} {z : α} {xs ys : List α} {k : Nat} (h : k < xs.length) (h' : k < ys.length) (h1 : xs.take k = ys.take k) (h2 : ix z xs k = ix z ys k) : xs.take (k + 1) = ys.take (k + 1) := by
  rw [List.take_add_one, List.take_add_one, ix_get (z := z) h, ix_get (z := z) h', h1, h2]
theorem ix_ne {α : Type} {z : α} {xs ys : List α} {k : Nat} (h2 : ix z xs k ≠ ix z ys k) : xs ≠ ys := fun e => h2 (by rw [e])
theorem list_all_eq {α : Type} {xs ys : List α} (h : xs.length = ys.length) (h1 : xs.take xs.length = ys.take xs.length) : xs = ys := by
  rw [List.take_length] at h1; rw [h, List.take_length] at h1; exact h1
theorem sameF_no {f g : Field} (h : f.name ≠ g.name ∨ f.kind ≠ g.kind ∨ f.epoch ≠ g.epoch ∨ f.counter ≠ g.counter ∨ f.lock ≠ g.lock ∨ f.holds ≠ g.holds) : f ≠ g := fun e => by subst e; simp at h
theorem sameF_yes {f g : Field} (h1 : f.name = g.name) (h2 : f.kind = g.kind) (h3 : f.epoch = g.epoch) (h4 : f.counter = g.counter) (h5 : f.lock = g.lock) (h6 : f.holds = g.holds) : f = g := by
  cases f; cases g; simp_all

theorem law7_Few (l : List Field) (A : Option Addr) (cap : Nat) (hl : l.length ≤ 8) (M : Mem) (hS : SlR rField M A cap l) : Ctr Tryz.prog 29 [.slice A l.length cap] M [] (fun v _ _ => v = .bool (l.all few1)) := by
  refine ctr Tryz.func29 rfl Tryz.ntmps29 rfl fun w => ?_
  refine c_seq <| c_region <| ja rfl rfl <| j_nil <| p_thn <| c_seq <| c_seq <| c_region <| jm rfl rfl <| jlen rfl rfl <| jm rfl rfl <| j_nil <| p_thn <| c_block <| c_lp (X := Nat) (fun k => k ≤ l.length ∧ (l.take k).all few1 = true) (fun k => l.length - k) (fun k => [(7, vi (k : Int))]) [6, 5] 0 ?_ (sub_c rfl <| sub_c rfl <| sub_c rfl <| sub_n) ?_
  · exact ⟨Nat.zero_le _, rfl⟩
  · intro k hI
    obtain ⟨hk, ha⟩ := hI
    refine c_seq <| c_region <| jlss rfl rfl rfl <| j_nil <| p_thn <| c_seq <| c_cond rfl (fun hb1 => ?_) (fun hb1 => ?_)
    · have phb1 := hb1; try simp at phb1
      refine c_skip <| p_thn <| c_seq <| c_block <| c_seq <| c_region <| ji rfl rfl rfl (by omega) (by omega) (hS.adr (i := k) (by omega)) <| jle rfl hS (ix_get (z := fZ) (i := k) (by omega)) rfl rfl fun c10 hc10 => ?_
      obtain ⟨Af10, capf10, rfl, hH10⟩ := hc10
      refine jalloc rfl fun B2 => jstw 0 rfl rfl rfl rfl (len_F _ _ _) (one_F _ _ _) (len_F _ _ _) <| j_nil <| p_thn <| c_seq <| c_region <| jfa rfl rfl rfl <| jld1 0 rfl rfl rfl rfl <| jslen rfl rfl Tryz.underlying9 <| jgtr rfl rfl rfl <| jm rfl rfl <| jgs rfl rfl (fun hb3 => ?_) (fun hb3 => ?_)
      · have phb3 := hb3; try simp at phb3
        refine jg_off rfl rfl rfl hb3 <| jg_off rfl rfl rfl hb3 <| jg_off rfl rfl rfl hb3 <| jg_off rfl rfl rfl hb3 <| jpick_t rfl rfl hb3 rfl <| j_nil <| p_thn <| c_cond_kt rfl rfl <| c_seq <| c_region <| ja rfl rfl <| j_nil <| p_thn <| c_ret <| p_inb_ret <| p_thn_ret <| p_lp_ret <| p_inb_ret <| p_thn_ret <| ?_
        refine p_ret0 rfl rfl (.tmp rfl <| .nil) ?_
        show Value.bool _ = _
        congr 1
        symm; exact all_not (z := fZ) (k := k) (by omega) (by unfold few1; simp [*] <;> omega)
      · have phb3 := hb3; try simp at phb3
        refine jg rfl rfl hb3 <| jfa rfl rfl rfl <| jg rfl rfl hb3 <| jld1 0 rfl rfl rfl (pF_holds _ _ _) <| jg rfl rfl hb3 <| jlen rfl rfl <| jg rfl rfl hb3 <| jgtr rfl rfl rfl <| jpick_f rfl rfl hb3 rfl <| j_nil <| p_thn <| c_cond rfl (fun hb4 => ?_) (fun hb4 => ?_)
        · have phb4 := hb4; try simp at phb4
          refine c_seq <| c_region <| ja rfl rfl <| j_nil <| p_thn <| c_ret <| p_inb_ret <| p_thn_ret <| p_lp_ret <| p_inb_ret <| p_thn_ret <| ?_
          refine p_ret0 rfl rfl (.tmp rfl <| .nil) ?_
          show Value.bool _ = _
          congr 1
          symm; exact all_not (z := fZ) (k := k) (by omega) (by unfold few1; simp [*] <;> omega)
        · have phb4 := hb4; try simp at phb4
          refine c_skip <| p_inb <| p_thn <| c_region <| jadd rfl rfl rfl (by first | exact wr (by omega) (by omega) | rfl) <| jm rfl rfl <| j_nil <| jp_tk (ap_0) <| ?_
          refine p_lp (k + 1) ?_ ?_ (sub_c rfl <| sub_c rfl <| sub_c rfl <| sub_n) rfl rfl
          · exact ⟨by omega, take_all (z := fZ) (by omega) ha (by unfold few1; simp <;> omega)⟩
          · omega
    · have phb1 := hb1; try simp at phb1
      refine c_exit <| p_thn_exit <| p_lp_exit <| p_inb_exit <| p_thn <| c_seq <| c_region <| ja rfl rfl <| j_nil <| p_thn <| c_ret <| ?_
      refine p_ret0 rfl rfl (.tmp rfl <| .nil) ?_
      show Value.bool _ = _
      congr 1
      rw [show k = l.length by omega, List.take_length] at ha; exact ha.symm
theorem law13_Few (l : List Field) (A : Option Addr) (cap : Nat) (p : Plan) (M : Mem) (hS : SlR rField M A cap l) : Ctr Tryz.prog 8 [.slice A l.length cap, .agg (encPlan p).toArray] M [] (fun v _ _ => v = .bool (few13 l p)) := by
  refine ctr Tryz.func8 rfl Tryz.ntmps8 rfl fun w => ?_
  refine c_seq <| c_region <| jbox rfl rfl rfl fun B1 => ja rfl rfl <| j_nil <| p_thn <| c_seq <| c_region <| jm rfl rfl <| jlen rfl rfl <| jleq rfl rfl rfl <| jm rfl rfl <| jgs rfl rfl (fun hb2 => ?_) (fun hb2 => ?_)
  · have phb2 := hb2; try simp at phb2
    refine jg rfl rfl hb2 <| jm rfl rfl <| jg rfl rfl hb2 <| jcallv rfl rfl rfl (law7_Few _ _ _ (by omega) _ hS) <| jpick_t rfl rfl hb2 rfl <| jm rfl rfl <| jgs rfl rfl (fun hb3 => ?_) (fun hb3 => ?_)
    · have phb3 := hb3; try simp at phb3
      refine jg rfl rfl hb3 <| jfa rfl rfl rfl <| jg rfl rfl hb3 <| jld1 0 rfl rfl rfl rfl <| jg rfl rfl hb3 <| jslen rfl rfl Tryz.underlying9 <| jg rfl rfl hb3 <| jleq rfl rfl rfl <| jpick_t rfl rfl hb3 rfl <| jm rfl rfl <| jgs rfl rfl (fun hb4 => ?_) (fun hb4 => ?_)
      · have phb4 := hb4; try simp at phb4
        refine jg rfl rfl hb4 <| jfa rfl rfl rfl <| jg rfl rfl hb4 <| jld1 0 rfl rfl rfl rfl <| jg rfl rfl hb4 <| jslen rfl rfl Tryz.underlying9 <| jg rfl rfl hb4 <| jleq rfl rfl rfl <| jpick_t rfl rfl hb4 rfl <| ja rfl rfl <| j_nil <| p_thn <| c_ret <| ?_
        refine p_ret0 rfl rfl (.tmp rfl <| .nil) ?_
        show Value.bool _ = _
        congr 1
        unfold few13
        simp [*]
      · have phb4 := hb4; try simp at phb4
        refine jg_off rfl rfl rfl hb4 <| jg_off rfl rfl rfl hb4 <| jg_off rfl rfl rfl hb4 <| jg_off rfl rfl rfl hb4 <| jpick_f rfl rfl hb4 rfl <| ja rfl rfl <| j_nil <| p_thn <| c_ret <| ?_
        refine p_ret0 rfl rfl (.tmp rfl <| .nil) ?_
        show Value.bool _ = _
        congr 1
        unfold few13
        simp [*]
    · have phb3 := hb3; try simp at phb3
      refine jg_off rfl rfl rfl hb3 <| jg_off rfl rfl rfl hb3 <| jg_off rfl rfl rfl hb3 <| jg_off rfl rfl rfl hb3 <| jpick_f rfl rfl hb3 rfl <| jm rfl rfl <| jg_off rfl rfl rfl rfl <| jg_off rfl rfl rfl rfl <| jg_off rfl rfl rfl rfl <| jg_off rfl rfl rfl rfl <| jpick_f rfl rfl rfl rfl <| ja rfl rfl <| j_nil <| p_thn <| c_ret <| ?_
      refine p_ret0 rfl rfl (.tmp rfl <| .nil) ?_
      show Value.bool _ = _
      congr 1
      unfold few13
      simp [*]
  · have phb2 := hb2; try simp at phb2
    refine jg_off rfl rfl rfl hb2 <| jg_off rfl rfl rfl hb2 <| jpick_f rfl rfl hb2 rfl <| jm rfl rfl <| jg_off rfl rfl rfl rfl <| jg_off rfl rfl rfl rfl <| jg_off rfl rfl rfl rfl <| jg_off rfl rfl rfl rfl <| jpick_f rfl rfl rfl rfl <| jm rfl rfl <| jg_off rfl rfl rfl rfl <| jg_off rfl rfl rfl rfl <| jg_off rfl rfl rfl rfl <| jg_off rfl rfl rfl rfl <| jpick_f rfl rfl rfl rfl <| ja rfl rfl <| j_nil <| p_thn <| c_ret <| ?_
    refine p_ret0 rfl rfl (.tmp rfl <| .nil) ?_
    show Value.bool _ = _
    congr 1
    unfold few13
    simp [*]
theorem ref7_Same (f : Field) (A : Option Addr) (cap : Nat) (g : Field) (A2 : Option Addr) (cap2 : Nat) (hl : f.holds.length ≤ 10000) (M : Mem) (hS : SlR rHold M A cap f.holds) (hT : SlR rHold M A2 cap2 g.holds) : Ctr Tryz.prog 52 [.agg (encF f A cap).toArray, .agg (encF g A2 cap2).toArray] M [] (fun v _ _ => v = .bool (decide (f = g))) := by
  refine ctr Tryz.func52 rfl Tryz.ntmps52 rfl fun w => ?_
  refine c_seq <| c_region <| jbox rfl rfl rfl fun B1 => jbox rfl rfl rfl fun B2 => ja rfl rfl <| j_nil <| p_thn <| c_seq <| c_seq <| c_region <| jfa rfl rfl rfl <| jld1 1 rfl rfl rfl rfl <| jfa rfl rfl rfl <| jld1 0 rfl rfl rfl rfl <| jsneq rfl rfl rfl <| jm rfl rfl <| jgs rfl rfl (fun hb3 => ?_) (fun hb3 => ?_)
  · have phb3 := hb3; try simp at phb3
    refine jg_off rfl rfl rfl hb3 <| jg_off rfl rfl rfl hb3 <| jg_off rfl rfl rfl hb3 <| jg_off rfl rfl rfl hb3 <| jg_off rfl rfl rfl hb3 <| jpick_t rfl rfl hb3 rfl <| jm rfl rfl <| jg_off rfl rfl rfl rfl <| jg_off rfl rfl rfl rfl <| jg_off rfl rfl rfl rfl <| jg_off rfl rfl rfl rfl <| jg_off rfl rfl rfl rfl <| jpick_t rfl rfl rfl rfl <| jm rfl rfl <| jg_off rfl rfl rfl rfl <| jg_off rfl rfl rfl rfl <| jg_off rfl rfl rfl rfl <| jg_off rfl rfl rfl rfl <| jg_off rfl rfl rfl rfl <| jpick_t rfl rfl rfl rfl <| jm rfl rfl <| jg_off rfl rfl rfl rfl <| jg_off rfl rfl rfl rfl <| jg_off rfl rfl rfl rfl <| jg_off rfl rfl rfl rfl <| jg_off rfl rfl rfl rfl <| jpick_t rfl rfl rfl rfl <| jm rfl rfl <| jg_off rfl rfl rfl rfl <| jg_off rfl rfl rfl rfl <| jg_off rfl rfl rfl rfl <| jg_off rfl rfl rfl rfl <| jg_off rfl rfl rfl rfl <| jg_off rfl rfl rfl rfl <| jg_off rfl rfl rfl rfl <| jpick_t rfl rfl rfl rfl <| j_nil <| p_thn <| c_cond_kt rfl rfl <| c_seq <| c_region <| ja rfl rfl <| j_nil <| p_thn <| c_ret <| p_thn_ret <| ?_
    refine p_ret0 rfl rfl (.tmp rfl <| .nil) ?_
    show Value.bool _ = _
    congr 1
    refine (decide_eq_false (sameF_no ?_)).symm
    try simp at *
    (try simp [*]) <;> omega
  · have phb3 := hb3; try simp at phb3
    refine jg rfl rfl hb3 <| jfa rfl rfl rfl <| jg rfl rfl hb3 <| jld1 1 rfl rfl rfl rfl <| jg rfl rfl hb3 <| jfa rfl rfl rfl <| jg rfl rfl hb3 <| jld1 0 rfl rfl rfl rfl <| jg rfl rfl hb3 <| jneq rfl rfl rfl <| jpick_f rfl rfl hb3 rfl <| jm rfl rfl <| jgs rfl rfl (fun hb4 => ?_) (fun hb4 => ?_)
    · have phb4 := hb4; try simp at phb4
      refine jg_off rfl rfl rfl hb4 <| jg_off rfl rfl rfl hb4 <| jg_off rfl rfl rfl hb4 <| jg_off rfl rfl rfl hb4 <| jg_off rfl rfl rfl hb4 <| jpick_t rfl rfl hb4 rfl <| jm rfl rfl <| jg_off rfl rfl rfl rfl <| jg_off rfl rfl rfl rfl <| jg_off rfl rfl rfl rfl <| jg_off rfl rfl rfl rfl <| jg_off rfl rfl rfl rfl <| jpick_t rfl rfl rfl rfl <| jm rfl rfl <| jg_off rfl rfl rfl rfl <| jg_off rfl rfl rfl rfl <| jg_off rfl rfl rfl rfl <| jg_off rfl rfl rfl rfl <| jg_off rfl rfl rfl rfl <| jpick_t rfl rfl rfl rfl <| jm rfl rfl <| jg_off rfl rfl rfl rfl <| jg_off rfl rfl rfl rfl <| jg_off rfl rfl rfl rfl <| jg_off rfl rfl rfl rfl <| jg_off rfl rfl rfl rfl <| jg_off rfl rfl rfl rfl <| jg_off rfl rfl rfl rfl <| jpick_t rfl rfl rfl rfl <| j_nil <| p_thn <| c_cond_kt rfl rfl <| c_seq <| c_region <| ja rfl rfl <| j_nil <| p_thn <| c_ret <| p_thn_ret <| ?_
      refine p_ret0 rfl rfl (.tmp rfl <| .nil) ?_
      show Value.bool _ = _
      congr 1
      refine (decide_eq_false (sameF_no ?_)).symm
      try simp at *
      (try simp [*]) <;> omega
    · have phb4 := hb4; try simp at phb4
      refine jg rfl rfl hb4 <| jfa rfl rfl rfl <| jg rfl rfl hb4 <| jld1 1 rfl rfl rfl rfl <| jg rfl rfl hb4 <| jfa rfl rfl rfl <| jg rfl rfl hb4 <| jld1 0 rfl rfl rfl rfl <| jg rfl rfl hb4 <| jneq rfl rfl rfl <| jpick_f rfl rfl hb4 rfl <| jm rfl rfl <| jgs rfl rfl (fun hb5 => ?_) (fun hb5 => ?_)
      · have phb5 := hb5; try simp at phb5
        refine jg_off rfl rfl rfl hb5 <| jg_off rfl rfl rfl hb5 <| jg_off rfl rfl rfl hb5 <| jg_off rfl rfl rfl hb5 <| jg_off rfl rfl rfl hb5 <| jpick_t rfl rfl hb5 rfl <| jm rfl rfl <| jg_off rfl rfl rfl rfl <| jg_off rfl rfl rfl rfl <| jg_off rfl rfl rfl rfl <| jg_off rfl rfl rfl rfl <| jg_off rfl rfl rfl rfl <| jpick_t rfl rfl rfl rfl <| jm rfl rfl <| jg_off rfl rfl rfl rfl <| jg_off rfl rfl rfl rfl <| jg_off rfl rfl rfl rfl <| jg_off rfl rfl rfl rfl <| jg_off rfl rfl rfl rfl <| jg_off rfl rfl rfl rfl <| jg_off rfl rfl rfl rfl <| jpick_t rfl rfl rfl rfl <| j_nil <| p_thn <| c_cond_kt rfl rfl <| c_seq <| c_region <| ja rfl rfl <| j_nil <| p_thn <| c_ret <| p_thn_ret <| ?_
        refine p_ret0 rfl rfl (.tmp rfl <| .nil) ?_
        show Value.bool _ = _
        congr 1
        refine (decide_eq_false (sameF_no ?_)).symm
        try simp at *
        (try simp [*]) <;> omega
      · have phb5 := hb5; try simp at phb5
        refine jg rfl rfl hb5 <| jfa rfl rfl rfl <| jg rfl rfl hb5 <| jld 1 rfl rfl rfl (pF_counter _ _ _) (len_counter _) <| jg rfl rfl hb5 <| jfa rfl rfl rfl <| jg rfl rfl hb5 <| jld 0 rfl rfl rfl (pF_counter _ _ _) (len_counter _) <| jg rfl rfl hb5 <| jnef rfl rfl rfl <| jpick_f rfl rfl hb5 rfl <| jm rfl rfl <| jgs rfl rfl (fun hb6 => ?_) (fun hb6 => ?_)
        · have phb6 := hb6; try simp at phb6
          refine jg_off rfl rfl rfl hb6 <| jg_off rfl rfl rfl hb6 <| jg_off rfl rfl rfl hb6 <| jg_off rfl rfl rfl hb6 <| jg_off rfl rfl rfl hb6 <| jpick_t rfl rfl hb6 rfl <| jm rfl rfl <| jg_off rfl rfl rfl rfl <| jg_off rfl rfl rfl rfl <| jg_off rfl rfl rfl rfl <| jg_off rfl rfl rfl rfl <| jg_off rfl rfl rfl rfl <| jg_off rfl rfl rfl rfl <| jg_off rfl rfl rfl rfl <| jpick_t rfl rfl rfl rfl <| j_nil <| p_thn <| c_cond_kt rfl rfl <| c_seq <| c_region <| ja rfl rfl <| j_nil <| p_thn <| c_ret <| p_thn_ret <| ?_
          refine p_ret0 rfl rfl (.tmp rfl <| .nil) ?_
          show Value.bool _ = _
          congr 1
          refine (decide_eq_false (sameF_no ?_)).symm
          try simp at *
          (try simp [*]) <;> omega
        · have phb6 := hb6; try simp at phb6
          refine jg rfl rfl hb6 <| jfa rfl rfl rfl <| jg rfl rfl hb6 <| jld 1 rfl rfl rfl (pF_lock _ _ _) (len_lock _) <| jg rfl rfl hb6 <| jfa rfl rfl rfl <| jg rfl rfl hb6 <| jld 0 rfl rfl rfl (pF_lock _ _ _) (len_lock _) <| jg rfl rfl hb6 <| jnef rfl rfl rfl <| jpick_f rfl rfl hb6 rfl <| jm rfl rfl <| jgs rfl rfl (fun hb7 => ?_) (fun hb7 => ?_)
          · have phb7 := hb7; try simp at phb7
            refine jg_off rfl rfl rfl hb7 <| jg_off rfl rfl rfl hb7 <| jg_off rfl rfl rfl hb7 <| jg_off rfl rfl rfl hb7 <| jg_off rfl rfl rfl hb7 <| jg_off rfl rfl rfl hb7 <| jg_off rfl rfl rfl hb7 <| jpick_t rfl rfl hb7 rfl <| j_nil <| p_thn <| c_cond_kt rfl rfl <| c_seq <| c_region <| ja rfl rfl <| j_nil <| p_thn <| c_ret <| p_thn_ret <| ?_
            refine p_ret0 rfl rfl (.tmp rfl <| .nil) ?_
            show Value.bool _ = _
            congr 1
            refine (decide_eq_false (sameF_no ?_)).symm
            try simp at *
            (try simp [*]) <;> omega
          · have phb7 := hb7; try simp at phb7
            refine jg rfl rfl hb7 <| jfa rfl rfl rfl <| jg rfl rfl hb7 <| jld1 1 rfl rfl rfl (pF_holds _ _ _) <| jg rfl rfl hb7 <| jlen rfl rfl <| jg rfl rfl hb7 <| jfa rfl rfl rfl <| jg rfl rfl hb7 <| jld1 0 rfl rfl rfl (pF_holds _ _ _) <| jg rfl rfl hb7 <| jlen rfl rfl <| jg rfl rfl hb7 <| jneq rfl rfl rfl <| jpick_f rfl rfl hb7 rfl <| j_nil <| p_thn <| c_cond rfl (fun hb8 => ?_) (fun hb8 => ?_)
            · have phb8 := hb8; try simp at phb8
              refine c_seq <| c_region <| ja rfl rfl <| j_nil <| p_thn <| c_ret <| p_thn_ret <| ?_
              refine p_ret0 rfl rfl (.tmp rfl <| .nil) ?_
              show Value.bool _ = _
              congr 1
              exact (decide_eq_false (sameF_no (.inr (.inr (.inr (.inr (.inr (fun e => by rw [e] at phb8; omega)))))))).symm
            · have phb8 := hb8; try simp at phb8
              refine c_skip <| p_thn <| c_seq <| c_seq <| c_region <| ja rfl rfl <| j_nil <| p_thn <| c_block <| c_lp (X := Nat) (fun k => k ≤ f.holds.length ∧ f.holds.take k = g.holds.take k) (fun k => f.holds.length - k) (fun k => [(5, vi (k : Int))]) [3, 2] 0 ?_ (sub_c rfl <| sub_c rfl <| sub_c rfl <| sub_n) ?_
              · exact ⟨Nat.zero_le _, rfl⟩
              · intro k hI
                obtain ⟨hk, ha⟩ := hI
                refine c_seq <| c_seq <| c_region <| jm rfl rfl <| jfa rfl rfl rfl <| jld1 1 rfl rfl rfl (pF_holds _ _ _) <| jlen rfl rfl <| jlss rfl rfl rfl <| j_nil <| p_thn <| c_cond rfl (fun hb9 => ?_) (fun hb9 => ?_)
                · have phb9 := hb9; try simp at phb9
                  refine c_skip <| p_thn <| c_seq <| c_block <| c_seq <| c_draw [1, 3, 4, 6, 8, 9, 10] (by kernel_rfl) <| jd_z (i := 0) rfl rfl (by kernel_rfl) (by kernel_rfl) (by kernel_rfl) (by kernel_rfl) rfl (zfa rfl rfl) <| jd_first (i := 1) rfl rfl (by kernel_rfl) (by kernel_rfl) (by kernel_rfl) (by kernel_rfl) (by kernel_rfl) rfl (fun _ h => h) (yld1 1 rfl rfl (pF_holds _ _ _)) <| jd_z (i := 2) rfl rfl (by kernel_rfl) (by kernel_rfl) (by kernel_rfl) (by kernel_rfl) rfl (zm rfl) <| jd_first (i := 3) rfl rfl (by kernel_rfl) (by kernel_rfl) (by kernel_rfl) (by kernel_rfl) (by kernel_rfl) rfl (fun _ h => h) (yi rfl rfl (by omega) (by omega) (hS.adr (i := k) (by omega))) <| jd_first (i := 4) rfl rfl (by kernel_rfl) (by kernel_rfl) (by kernel_rfl) (by kernel_rfl) (by kernel_rfl) rfl (fun _ h => h) (ylq hS (ix_get (z := hZ) (i := k) (by omega)) (fun c h => h) rfl rfl) <| jd_z (i := 5) rfl rfl (by kernel_rfl) (by kernel_rfl) (by kernel_rfl) (by kernel_rfl) rfl (zfa rfl rfl) <| jd_first (i := 6) rfl rfl (by kernel_rfl) (by kernel_rfl) (by kernel_rfl) (by kernel_rfl) (by kernel_rfl) rfl (fun _ h => h) (yld1 0 rfl rfl (pF_holds _ _ _)) <| jd_z (i := 7) rfl rfl (by kernel_rfl) (by kernel_rfl) (by kernel_rfl) (by kernel_rfl) rfl (zm rfl) <| jd_first (i := 8) rfl rfl (by kernel_rfl) (by kernel_rfl) (by kernel_rfl) (by kernel_rfl) (by kernel_rfl) rfl (fun _ h => h) (yi rfl rfl (by omega) (by omega) (hT.adr (i := k) (by omega))) <| jd_first (i := 9) rfl rfl (by kernel_rfl) (by kernel_rfl) (by kernel_rfl) (by kernel_rfl) (by kernel_rfl) rfl (fun _ h => h) (ylq hT (ix_get (z := hZ) (i := k) (by omega)) (fun c h => h) rfl rfl) <| jd_first (i := 10) rfl rfl (by kernel_rfl) (by kernel_rfl) (by kernel_rfl) (by kernel_rfl) (by kernel_rfl) rfl (fun _ h => h) (ynef rfl rfl) <| jd_done (by kernel_rfl) <| p_thn <| c_cond rfl (fun hb10 => ?_) (fun hb10 => ?_)
                  · have phb10 := hb10; try simp at phb10
                    refine c_seq <| c_region <| ja rfl rfl <| j_nil <| p_thn <| c_ret <| p_inb_ret <| p_thn_ret <| p_lp_ret <| p_inb_ret <| p_thn_ret <| ?_
                    refine p_ret0 rfl rfl (.tmp rfl <| .nil) ?_
                    show Value.bool _ = _
                    congr 1
                    exact (decide_eq_false (sameF_no (.inr (.inr (.inr (.inr (.inr (ix_ne (z := hZ) (k := k) (by assumption)))))))) ).symm
                  · have phb10 := hb10; try simp at phb10
                    refine c_skip <| p_inb <| p_thn <| c_region <| jm rfl rfl <| jadd rfl rfl rfl (by first | exact wr (by omega) (by omega) | rfl) <| ja rfl rfl <| j_nil <| ?_
                    refine p_lp (k + 1) ?_ ?_ (sub_c rfl <| sub_c rfl <| sub_c rfl <| sub_n) rfl rfl
                    · exact ⟨by omega, take_ext (z := hZ) (by omega) (by omega) ha (by assumption)⟩
                    · omega
                · have phb9 := hb9; try simp at phb9
                  refine c_exit <| p_thn_exit <| p_lp_exit <| p_inb_exit <| p_thn <| c_seq <| c_region <| ja rfl rfl <| j_nil <| p_thn <| c_ret <| ?_
                  refine p_ret0 rfl rfl (.tmp rfl <| .nil) ?_
                  show Value.bool _ = _
                  congr 1
                  obtain rfl : k = f.holds.length := by omega
                  simp only [decide_eq_false_iff_not, Decidable.not_not] at *
                  exact (decide_eq_true (sameF_yes (by assumption) (by omega) (by omega) (by assumption) (by assumption) (list_all_eq (by omega) ha))).symm
theorem law13_Same (l : List Field) (A : Option Addr) (cap : Nat) (hf : FsOk l) (m : List Field) (A2 : Option Addr) (cap2 : Nat) (M : Mem) (hS : SlR rField M A cap l) (hT : SlR rField M A2 cap2 m) : Ctr Tryz.prog 15 [.slice A l.length cap, .slice A2 m.length cap2] M [] (fun v _ _ => v = .bool (decide (l = m))) := by
  have hl := hf.1
  refine ctr Tryz.func15 rfl Tryz.ntmps15 rfl fun w => ?_
  refine c_seq <| c_region <| ja rfl rfl <| j_nil <| p_thn <| c_seq <| c_seq <| c_region <| jm rfl rfl <| jlen rfl rfl <| jm rfl rfl <| jlen rfl rfl <| jneq rfl rfl rfl <| j_nil <| p_thn <| c_cond rfl (fun hb1 => ?_) (fun hb1 => ?_)
  · have phb1 := hb1; try simp at phb1
    refine c_seq <| c_region <| ja rfl rfl <| j_nil <| p_thn <| c_ret <| p_thn_ret <| ?_
    refine p_ret0 rfl rfl (.tmp rfl <| .nil) ?_
    show Value.bool _ = _
    congr 1
    exact (decide_eq_false (fun e => by rw [e] at phb1; omega)).symm
  · have phb1 := hb1; try simp at phb1
    refine c_skip <| p_thn <| c_seq <| c_seq <| c_region <| jm rfl rfl <| jlen rfl rfl <| jm rfl rfl <| j_nil <| p_thn <| c_block <| c_lp (X := Nat) (fun k => k ≤ l.length ∧ l.take k = m.take k) (fun k => l.length - k) (fun k => [(13, vi (k : Int))]) [12, 1, 0] 0 ?_ (sub_c rfl <| sub_c rfl <| sub_c rfl <| sub_c rfl <| sub_n) ?_
    · exact ⟨Nat.zero_le _, rfl⟩
    · intro k hI
      obtain ⟨hk, ha⟩ := hI
      refine c_seq <| c_region <| jlss rfl rfl rfl <| j_nil <| p_thn <| c_seq <| c_cond rfl (fun hb2 => ?_) (fun hb2 => ?_)
      · have phb2 := hb2; try simp at phb2
        refine c_skip <| p_thn <| c_seq <| c_block <| c_seq <| c_region <| jm rfl rfl <| ja rfl rfl <| j_nil <| p_thn <| c_seq <| c_draw [2, 3, 6, 7, 9] (by kernel_rfl) <| jd_z (i := 0) rfl rfl (by kernel_rfl) (by kernel_rfl) (by kernel_rfl) (by kernel_rfl) rfl (zm rfl) <| jd_z (i := 1) rfl rfl (by kernel_rfl) (by kernel_rfl) (by kernel_rfl) (by kernel_rfl) rfl (zm rfl) <| ?_
        have hfl : (ix fZ l k).holds.length ≤ 10000 := (hf.2 _ (ix_mem (by omega))).1
        obtain ⟨Af19, capf19, hH19, hc19⟩ := hS.fld (i := k) (by omega)
        obtain ⟨Af23, capf23, hH23, hc23⟩ := hT.fld (i := k) (by omega)
        refine jd_first (i := 2) rfl rfl (by kernel_rfl) (by kernel_rfl) (by kernel_rfl) (by kernel_rfl) (by kernel_rfl) rfl (fun _ h => h) (yi rfl rfl (by omega) (by omega) (hS.adr (i := k) (by omega))) <| jd_first (i := 3) rfl rfl (by kernel_rfl) (by kernel_rfl) (by kernel_rfl) (by kernel_rfl) (by kernel_rfl) rfl (fun _ h => h) (ylF rfl hc19) <| jd_z (i := 4) rfl rfl (by kernel_rfl) (by kernel_rfl) (by kernel_rfl) (by kernel_rfl) rfl (zm rfl) <| jd_z (i := 5) rfl rfl (by kernel_rfl) (by kernel_rfl) (by kernel_rfl) (by kernel_rfl) rfl (zm rfl) <| jd_first (i := 6) rfl rfl (by kernel_rfl) (by kernel_rfl) (by kernel_rfl) (by kernel_rfl) (by kernel_rfl) rfl (fun _ h => h) (yi rfl rfl (by omega) (by omega) (hT.adr (i := k) (by omega))) <| jd_first (i := 7) rfl rfl (by kernel_rfl) (by kernel_rfl) (by kernel_rfl) (by kernel_rfl) (by kernel_rfl) rfl (fun _ h => h) (ylF rfl hc23) <| jd_one (i := 8) (by kernel_rfl) rfl <| jcallv rfl rfl rfl (ref7_Same _ _ _ _ _ _ hfl _ hH19 hH23) <| j_nil <| p_jd rfl (.inr (fun _ h => h)) <| jd_first (i := 9) rfl rfl (by kernel_rfl) (by kernel_rfl) (by kernel_rfl) (by kernel_rfl) (by kernel_rfl) rfl (fun _ h => h) (ynot rfl) <| jd_done (by kernel_rfl) <| p_thn <| c_cond rfl (fun hb3 => ?_) (fun hb3 => ?_)
        · have phb3 := hb3; try simp at phb3
          refine c_seq <| c_region <| ja rfl rfl <| j_nil <| p_thn <| c_ret <| p_inb_ret <| p_thn_ret <| p_lp_ret <| p_inb_ret <| p_thn_ret <| ?_
          refine p_ret0 rfl rfl (.tmp rfl <| .nil) ?_
          show Value.bool _ = _
          congr 1
          exact (decide_eq_false (ix_ne (z := fZ) (k := k) (by simpa using phb3))).symm
        · have phb3 := hb3; try simp at phb3
          refine c_skip <| p_inb <| p_thn <| c_region <| jadd rfl rfl rfl (by first | exact wr (by omega) (by omega) | rfl) <| jm rfl rfl <| j_nil <| ?_
          refine p_lp (k + 1) ?_ ?_ (sub_c rfl <| sub_c rfl <| sub_c rfl <| sub_c rfl <| sub_n) rfl rfl
          · exact ⟨by omega, take_ext (z := fZ) (by omega) (by omega) ha (by simpa using phb3)⟩
          · omega
      · have phb2 := hb2; try simp at phb2
        refine c_exit <| p_thn_exit <| p_lp_exit <| p_inb_exit <| p_thn <| c_seq <| c_region <| ja rfl rfl <| j_nil <| p_thn <| c_ret <| ?_
        refine p_ret0 rfl rfl (.tmp rfl <| .nil) ?_
        show Value.bool _ = _
        congr 1
        obtain rfl : k = l.length := by omega
        exact (decide_eq_true (list_all_eq (by omega) ha)).symm
end Go.Proofs.YtihgpbpcbbgdiaaGreat

/- barrier.Start. -/
namespace Go.Proofs.YtihgpbpcbbgdiaaGreat
open Go.RowKit
set_option linter.unusedVariables false
set_option linter.unusedSimpArgs false
def bEpoch (l : List Field) : Int := l.foldl (fun a f => max a (w64 (f.epoch + 1))) 1
def bStart (b : Bar) (l : List Field) (p : Plan) (due : Int) : Bar × Int :=
  if bPend b = true then (bZ, 15) else if plFits l p ≠ 0 then (bZ, plFits l p) else if 1099511627776 < bEpoch l then (bZ, 2)
  else (⟨b.n, 1, w64 (b.number + 1), bEpoch l, p, due, 1, 1, l.filter (fun f => touched p f.name), []⟩, 0)
theorem fillBs {n m e due : Int} {p : Plan} {u1 : Option Addr} {k1 k2 : Nat} : Instr.fill ([(0, 1), (1, 1), (2, 1), (3, 1), (4, 5), (9, 1), (10, 1), (11, 1), (12, 1), (13, 1)].toArray[·]?) (encB bZ none 0 none 0).toArray
    [(0, vi n), (1, vi 1), (2, vi m), (3, vi e), (4, .agg (encPlan p).toArray), (5, vi due), (6, vi 1), (7, vi 1), (8, .slice u1 k1 k2)] = some (encBv ⟨n, 1, m, e, p, due, 1, 1, [], []⟩ (.slice u1 k1 k2) (.slice none 0 0)).toArray :=
  fill_put (c := [vi n]) rfl rfl rfl (Nat.le_of_ble_eq_true rfl) (X' := encBv ⟨n, 0, 0, 0, pZ, 0, 0, 0, [], []⟩ (.slice none 0 0) (.slice none 0 0)) rfl <|
  fill_put (c := [vi 1]) rfl rfl rfl (Nat.le_of_ble_eq_true rfl) (X' := encBv ⟨n, 1, 0, 0, pZ, 0, 0, 0, [], []⟩ (.slice none 0 0) (.slice none 0 0)) rfl <|
  fill_put (c := [vi m]) rfl rfl rfl (Nat.le_of_ble_eq_true rfl) (X' := encBv ⟨n, 1, m, 0, pZ, 0, 0, 0, [], []⟩ (.slice none 0 0) (.slice none 0 0)) rfl <|
  fill_put (c := [vi e]) rfl rfl rfl (Nat.le_of_ble_eq_true rfl) (X' := encBv ⟨n, 1, m, e, pZ, 0, 0, 0, [], []⟩ (.slice none 0 0) (.slice none 0 0)) rfl <|
  fill_put (c := encPlan p) rfl rfl rfl (Nat.le_of_ble_eq_true rfl) (X' := encBv ⟨n, 1, m, e, p, 0, 0, 0, [], []⟩ (.slice none 0 0) (.slice none 0 0)) rfl <|
  fill_put (c := [vi due]) rfl rfl rfl (Nat.le_of_ble_eq_true rfl) (X' := encBv ⟨n, 1, m, e, p, due, 0, 0, [], []⟩ (.slice none 0 0) (.slice none 0 0)) rfl <|
  fill_put (c := [vi 1]) rfl rfl rfl (Nat.le_of_ble_eq_true rfl) (X' := encBv ⟨n, 1, m, e, p, due, 1, 0, [], []⟩ (.slice none 0 0) (.slice none 0 0)) rfl <|
  fill_put (c := [vi 1]) rfl rfl rfl (Nat.le_of_ble_eq_true rfl) (X' := encBv ⟨n, 1, m, e, p, due, 1, 1, [], []⟩ (.slice none 0 0) (.slice none 0 0)) rfl <|
  fill_put (c := [.slice u1 k1 k2]) rfl rfl rfl (Nat.le_of_ble_eq_true rfl) (X' := encBv ⟨n, 1, m, e, p, due, 1, 1, [], []⟩ (.slice u1 k1 k2) (.slice none 0 0)) rfl fill_end
theorem filter_fs {ts : List FS} {l : List Field} {q : Field → Bool} (h : ts.map FS.f = l) : (ts.filter (fun s => !!q s.f)).map FS.f = l.filter q := by
  subst h; rw [List.filter_map]; simp [Function.comp_def]
theorem FsOk.filter {l : List Field} (h : FsOk l) (q : Field → Bool) : FsOk (l.filter q) := ⟨Nat.le_trans (List.length_filter_le _ _) h.1, fun f hf => h.2 f (List.mem_filter.1 hf).1⟩

theorem barrier_Start1 (f : Field) (A : Option Addr) (cap : Nat) (p : Plan) {X : Nat} (M : Mem) : Ctr Tryz.prog 35 [.agg (encF f A cap).toArray, .pointer (some ⟨X, 0, none⟩)] M [.blk X 24 (encPlan p)] (fun v _ L' => v = .bool (!touched p f.name) ∧ L' = [.blk X 24 (encPlan p)]) := by
  refine ctr Tryz.func35 rfl Tryz.ntmps35 rfl fun w => ?_
  refine c_seq <| c_region <| jbox rfl rfl rfl fun B1 => ja rfl rfl <| j_nil <| p_thn <| c_seq <| c_region <| jldw 1 rfl rfl rfl (len_plan _) <| jfa rfl rfl rfl <| jld1 0 rfl rfl rfl rfl <| jcallv rfl rfl rfl (plan_Touched _ _ _) <| jnot rfl rfl <| ja rfl rfl <| j_nil <| p_thn <| c_ret <| ?_
  refine jp_perm (fr_s <| fr_0) <| ?_
  refine p_retK (ap_s <| ap_0) rfl rfl (.tmp rfl <| .nil) ?_
  exact ⟨rfl, rfl⟩
theorem barrier_Start (b : Bar) (A1 : Option Addr) (c1 : Nat) (A2 : Option Addr) (c2 : Nat) (l : List Field) (A : Option Addr) (cap : Nat) (p : Plan) (due : Int) (hf : FsOk l) (hs1 : p.name.size ≤ 100000) (hs2 : p.other.size ≤ 100000) (M : Mem) (hS : SlR rField M A cap l) : Ctr Tryz.prog 11 [.agg (encB b A1 c1 A2 c2).toArray, .slice A l.length cap, .agg (encPlan p).toArray, vi due] M [] (fun v M' _ => ∃ c, BarK M' (bStart b l p due).1 c ∧ v = .tuple #[.agg c.toArray, vi (bStart b l p due).2]) := by
  have hl := hf.1
  refine ctr Tryz.func11 rfl Tryz.ntmps11 rfl fun w => ?_
  refine c_seq <| c_region <| jbox rfl rfl rfl fun B1 => jbox rfl rfl rfl fun B2 => jalloc rfl fun B3 => ja rfl rfl <| j_nil <| p_thn <| c_seq <| c_seq <| c_region <| jldw 2 rfl rfl rfl (len_B _ _ _) <| jcallv rfl rfl rfl (barrier_Pending _ _ _ _ _ _) <| j_nil <| p_thn <| c_cond rfl (fun hb4 => ?_) (fun hb4 => ?_)
  · have phb4 := hb4; try simp at phb4
    refine c_seq <| c_region <| jbu0 rfl <| jstw 0 rfl rfl rfl rfl (len_B _ _ _) (one_B _ _ _ _ _) (len_B _ _ _) <| ja rfl rfl <| j_nil <| p_thn <| c_ret <| p_thn_ret <| ?_
    refine p_ret0 rfl rfl (.agg 0 inferInstance rfl rfl (len_B _ _ _) <| .tmp rfl <| .nil) ?_
    unfold bStart
    rw [if_pos (by assumption)]
    exact ⟨_, ⟨none, 0, none, 0, rfl, SlR.nil, SlR.nil⟩, rfl⟩
  · have phb4 := hb4; try simp at phb4
    refine c_skip <| p_thn <| c_seq <| c_seq <| c_region <| jm rfl rfl <| jldw 1 rfl rfl rfl (len_plan _) <| jcallv rfl rfl rfl (plan_Fits _ _ _ hf _ hs1 hs2 _ hS) <| ja rfl rfl <| j_nil <| p_thn <| c_seq <| c_region <| jm rfl rfl <| jneq rfl rfl rfl <| j_nil <| p_thn <| c_cond rfl (fun hb5 => ?_) (fun hb5 => ?_)
    · have phb5 := hb5; try simp at phb5
      refine c_seq <| c_region <| jbu0 rfl <| jm rfl rfl <| jstw 0 rfl rfl rfl rfl (len_B _ _ _) (one_B _ _ _ _ _) (len_B _ _ _) <| ja rfl rfl <| j_nil <| p_thn <| c_ret <| p_thn_ret <| ?_
      refine p_ret0 rfl rfl (.agg 0 inferInstance rfl rfl (len_B _ _ _) <| .tmp rfl <| .nil) ?_
      unfold bStart
      rw [if_neg (by simp [*]), if_pos (by assumption)]
      exact ⟨_, ⟨none, 0, none, 0, rfl, SlR.nil, SlR.nil⟩, rfl⟩
    · have phb5 := hb5; try simp at phb5
      refine c_skip <| p_thn <| c_seq <| c_region <| ja rfl rfl <| j_nil <| p_thn <| c_seq <| c_seq <| c_region <| jm rfl rfl <| jlen rfl rfl <| jm rfl rfl <| j_nil <| p_thn <| c_block <| c_lp (X := Nat) (fun k => k ≤ l.length) (fun k => l.length - k) (fun k => [(27, vi (k : Int)), (11, vi ((l.take k).foldl (fun a f => max a (w64 (f.epoch + 1))) 1))]) [26, 25, 9, 8, 6, 4, 3, 1] 0 ?_ (sub_c rfl <| sub_c rfl <| sub_c rfl <| sub_c rfl <| sub_c rfl <| sub_c rfl <| sub_c rfl <| sub_c rfl <| sub_c rfl <| sub_c rfl <| sub_n) ?_
      · exact Nat.zero_le _
      · intro k hI
        refine c_seq <| c_region <| jlss rfl rfl rfl <| j_nil <| p_thn <| c_seq <| c_cond rfl (fun hb6 => ?_) (fun hb6 => ?_)
        · have phb6 := hb6; try simp at phb6
          refine c_skip <| p_thn <| c_seq <| c_block <| c_seq <| c_region <| ji rfl rfl rfl (by omega) (by omega) (hS.adr (i := k) (by omega)) <| jle rfl hS (ix_get (z := fZ) (i := k) (by omega)) rfl rfl fun c30 hc30 => ?_
          obtain ⟨Af30, capf30, rfl, hH30⟩ := hc30
          refine jalloc rfl fun B7 => jstw 0 rfl rfl rfl rfl (len_F _ _ _) (one_F _ _ _) (len_F _ _ _) <| j_nil <| p_thn <| c_region <| jm rfl rfl <| jfa rfl rfl rfl <| jld1 0 rfl rfl rfl rfl <| jadd rfl rfl rfl (by first | exact wr (by omega) (by omega) | rfl) <| jmax rfl rfl rfl <| ja rfl rfl <| j_nil <| p_inb <| p_thn <| c_region <| jadd rfl rfl rfl (by first | exact wr (by omega) (by omega) | rfl) <| jm rfl rfl <| j_nil <| jp_perm (fr_s <| fr_s <| fr_s <| fr_0) <| jp_perm (fr_s <| fr_s <| fr_s <| fr_0) <| jp_perm (fr_s <| fr_s <| fr_s <| fr_0) <| jp_tk (ap_s <| ap_s <| ap_s <| ap_0) <| ?_
          refine p_lp (k + 1) ?_ ?_ (sub_c rfl <| sub_c (sub_v rfl (by rw [← foldl_take (z := fZ) (by omega)])) <| sub_c rfl <| sub_c rfl <| sub_c rfl <| sub_c rfl <| sub_c rfl <| sub_c rfl <| sub_c rfl <| sub_c rfl <| sub_n) rfl rfl
          · omega
          · omega
        · have phb6 := hb6; try simp at phb6
          obtain rfl : k = l.length := by omega
          rw [List.take_length, show l.foldl (fun a f => max a (w64 (f.epoch + 1))) 1 = bEpoch l from rfl]
          refine c_exit <| p_thn_exit <| p_lp_exit <| p_inb_exit <| p_thn <| c_seq <| c_seq <| c_region <| jm rfl rfl <| jgtr rfl rfl rfl <| j_nil <| p_thn <| c_cond rfl (fun hb8 => ?_) (fun hb8 => ?_)
          · have phb8 := hb8; try simp at phb8
            refine c_seq <| c_region <| jbu0 rfl <| jstw 0 rfl rfl rfl rfl (len_B _ _ _) (one_B _ _ _ _ _) (len_B _ _ _) <| ja rfl rfl <| j_nil <| p_thn <| c_ret <| p_thn_ret <| ?_
            refine p_ret0 rfl rfl (.agg 0 inferInstance rfl rfl (len_B _ _ _) <| .tmp rfl <| .nil) ?_
            unfold bStart
            rw [if_neg (by simp [*]), if_neg (by omega), if_pos (by assumption)]
            exact ⟨_, ⟨none, 0, none, 0, rfl, SlR.nil, SlR.nil⟩, rfl⟩
          · have phb8 := hb8; try simp at phb8
            refine c_skip <| p_thn <| c_seq <| c_region <| jm rfl rfl <| jrowF rfl rfl rfl (clone_Field _ _ _ hf _ hS) fun vC MC tsC hMC htC hkC => jfunc rfl rfl rfl <| j_perm (fr_s <| fr_s <| fr_0) <| j_perm (fr_s <| fr_0) <| jcallr rfl rfl rfl (ap_s <| ap_s <| ap_0) (deleteFunc_Field (Lt := [.blk _ 24 (encPlan p)]) vC tsC (by have := congrArg List.length htC; simp at this; omega) (fun f => !touched p f.name) _ hkC (fun s _ => barrier_Start1 s.f s.A s.cap p _)) (fun _ => ap_s <| ap_s <| ap_0) fun vD => j_freeze fun M1z hM1z hz1 => ?_
            obtain ⟨A1z, cap1z, rfl, hS1z⟩ := frz (r := rField) (xs := (l.filter (fun f => touched p f.name))) hz1 (rows_at (filter_fs (q := fun f => touched p f.name) htC) ((hkC.sub (fun s hs => (List.mem_filter.1 hs).1)).mono hM1z)) (by rw [← filter_fs (q := fun f => touched p f.name) htC, List.length_map])
            refine ja rfl rfl <| j_nil <| p_thn <| c_seq <| c_draw [1, 3, 4, 6] (by kernel_rfl) <| jd_z (i := 0) rfl rfl (by kernel_rfl) (by kernel_rfl) (by kernel_rfl) (by kernel_rfl) rfl (zfa rfl rfl) <| jd_first (i := 1) rfl rfl (by kernel_rfl) (by kernel_rfl) (by kernel_rfl) (by kernel_rfl) (by kernel_rfl) rfl (fun _ h => h) (yld1 2 rfl rfl rfl) <| jd_z (i := 2) rfl rfl (by kernel_rfl) (by kernel_rfl) (by kernel_rfl) (by kernel_rfl) rfl (zfa rfl rfl) <| jd_first (i := 3) rfl rfl (by kernel_rfl) (by kernel_rfl) (by kernel_rfl) (by kernel_rfl) (by kernel_rfl) rfl (fun _ h => h) (yld1 2 rfl rfl rfl) <| jd_first (i := 4) rfl rfl (by kernel_rfl) (by kernel_rfl) (by kernel_rfl) (by kernel_rfl) (by kernel_rfl) rfl (fun _ h => h) (yadd rfl rfl (by first | exact wr (by omega) (by omega) | rfl)) <| jd_z (i := 5) rfl rfl (by kernel_rfl) (by kernel_rfl) (by kernel_rfl) (by kernel_rfl) rfl (zm rfl) <| jd_first (i := 6) rfl rfl (by kernel_rfl) (by kernel_rfl) (by kernel_rfl) (by kernel_rfl) (by kernel_rfl) rfl (fun _ h => h) (yldw 0 rfl rfl (len_plan _)) <| jd_z (i := 7) rfl rfl (by kernel_rfl) (by kernel_rfl) (by kernel_rfl) (by kernel_rfl) rfl (zm rfl) <| jd_z (i := 8) rfl rfl (by kernel_rfl) (by kernel_rfl) (by kernel_rfl) (by kernel_rfl) rfl (zm rfl) <| jd_one (i := 9) (by kernel_rfl) rfl <| jrowA rfl rfl rfl (barrier_own _ _ _ (hf.filter _) _ hS1z) fun A5 cap5 M5 ts5 hM5 ht5 hk5 => j_nil <| p_jd rfl (.inr (fun _ h => (Own.less0 (h.drop (L := [_])) hM5 (MLe.trans hMC hM1z)))) <| jd_one (i := 10) (by kernel_rfl) rfl <| jbu (zc := encB bZ none 0 none 0) rfl rfl fillBs <| j_nil <| p_jd rfl (.inl (by kernel_rfl)) <| jd_one (i := 11) (by kernel_rfl) rfl <| jstw 2 rfl rfl rfl rfl (len_B _ _ _) (one_B _ _ _ _ _) (len_B _ _ _) <| j_nil <| p_jd rfl (.inl (by kernel_rfl)) <| jd_z (i := 12) rfl rfl (by kernel_rfl) (by kernel_rfl) (by kernel_rfl) (by kernel_rfl) rfl (za rfl) <| jd_done (by kernel_rfl) <| p_thn <| c_ret <| ?_
            refine jp_freeze fun M2z hM2z hz2 => ?_
            have hS2z := frzS (r := rField) (xs := (l.filter (fun f => touched p f.name))) hz2 (rows_at ht5 (hk5.mono hM2z)) rfl
            refine p_ret0 rfl rfl (.agg 1 inferInstance rfl rfl (len_B _ _ _) <| .tmp rfl <| .nil) ?_
            unfold bStart
            rw [if_neg (by simp [*]), if_neg (by omega), if_neg (by omega)]
            exact ⟨_, ⟨_, _, none, 0, rfl, hS2z, SlR.nil⟩, rfl⟩
end Go.Proofs.YtihgpbpcbbgdiaaGreat

/- Barriers that may be: what Start and Ack hand out may be handed in. -/
namespace Go.Proofs.YtihgpbpcbbgdiaaGreat
open Go.RowKit
set_option linter.unusedVariables false
set_option linter.unusedSimpArgs false
theorem bNew_ok (n : Int) : BOk (bNew n).1 := by
  unfold bNew
  split <;> exact ⟨⟨Nat.zero_le _, fun f hf => absurd hf List.not_mem_nil⟩, ⟨Nat.zero_le _, fun f hf => absurd hf List.not_mem_nil⟩, Nat.zero_le _, Nat.zero_le _⟩
theorem bZ_ok : BOk bZ := ⟨⟨Nat.zero_le _, fun f hf => absurd hf List.not_mem_nil⟩, ⟨Nat.zero_le _, fun f hf => absurd hf List.not_mem_nil⟩, Nat.zero_le _, Nat.zero_le _⟩
theorem bStart_ok {b : Bar} {l : List Field} {p : Plan} {due : Int} (hf : FsOk l) (hp : p.name.size ≤ 100000 ∧ p.other.size ≤ 100000) : BOk (bStart b l p due).1 := by
  unfold bStart
  split
  · exact bZ_ok
  split
  · exact bZ_ok
  split
  · exact bZ_ok
  exact ⟨hf.filter _, ⟨Nat.zero_le _, fun f hf => absurd hf List.not_mem_nil⟩, hp.1, hp.2⟩
theorem plFields_len {l : List Field} (h : plFields l = true) : l.length ≤ 4 := by
  unfold plFields at h
  rw [Bool.and_eq_true] at h
  exact of_decide_eq_true h.2
theorem plErr_0 {l : List Field} {p : Plan} (h : plErr l p = 0) : plFits l p = 0 ∧ (plChange (plFld l p) (plOth l p) p).2 = 0 := by
  unfold plErr at h
  split at h
  · rename_i c; exact absurd h c
  · rename_i c; exact ⟨Decidable.not_not.1 c, h⟩
theorem plApply_ok {l : List Field} {p : Plan} (hf : FsOk l) (hp : p.name.size ≤ 100000 ∧ p.other.size ≤ 100000) : FsOk (plApply l p).1 := by
  have hlen := @plApply_len l p
  unfold plApply at *
  split
  · exact ⟨Nat.zero_le _, fun f hf => absurd hf List.not_mem_nil⟩
  · rename_i c
    have h0 := plErr_0 (Decidable.not_not.1 c)
    have hk := plFits_ok h0.1
    have hl := plFields_len hk.fields
    rw [if_neg c] at hlen
    refine ⟨by omega, fun x hx => ?_⟩
    have hx' := (nSort_perm _).mem_iff.1 hx
    unfold plOut at hx'
    rcases List.mem_append.1 hx' with h1 | h1
    · refine ⟨by rw [plChange_holds _ _ _ x h1]; exact Nat.zero_le _, ?_⟩
      have hn : x.name ∈ (plChange (plFld l p) (plOth l p) p).1.map (·.name) := List.mem_map.2 ⟨x, h1, rfl⟩
      rw [plChange_names hk h0.2] at hn
      split at hn
      · simp at hn; rcases hn with e | e
        · rw [e]; exact hp.1
        · rw [e]; exact hp.2
      · simp at hn; rw [hn]; exact hp.1
    · unfold plRest at h1
      exact hf.2 x (List.mem_filter.1 h1).1
theorem setE_ok {l : List Field} {e : Int} (hf : FsOk l) : FsOk (l.map (setE e)) := by
  refine ⟨by rw [List.length_map]; exact hf.1, fun x hx => ?_⟩
  obtain ⟨f, h, rfl⟩ := List.mem_map.1 hx
  exact hf.2 f h
theorem ackErr_all {l js : List Field} (h : ackErr l js = 0) : ∀ f ∈ js, (ackOne l f).2 = 0 := by
  intro f hf
  unfold ackErr at h
  split at h
  · rename_i g hg
    have := List.find?_some hg
    simp at this
    exact absurd h this
  · rename_i hg
    have := List.find?_eq_none.1 hg f hf
    simpa using this
theorem bAck_ok {b : Bar} {k n : Int} {l : List Field} (hb : BOk b) : BOk (bAck b k n l).1 := by
  unfold bAck
  split
  · exact bZ_ok
  split
  · exact bZ_ok
  split
  · exact bZ_ok
  · rename_i _ _ c
    have hj : FsOk (ackAll l b.joined) := ackAll_ok hb.1 (ackErr_all (Decidable.not_not.1 c))
    split
    · exact ⟨hj, hb.2⟩
    split
    · exact ⟨hj, setE_ok (plApply_ok hj hb.2.2), hb.2.2⟩
    · exact ⟨hj, hb.2⟩
theorem bTick_ok {b : Bar} {now : Int} (hb : BOk b) : BOk (bTick b now) := by
  unfold bTick; split
  · exact hb
  · exact hb
theorem bAbort_ok {b : Bar} (hb : BOk b) : BOk (bAbort b).1 := by
  unfold bAbort; split
  · first | exact hb | exact bZ_ok
  · first | exact hb | exact bZ_ok
theorem bHeard_ok {b : Bar} {k n : Int} (hb : BOk b) : BOk (bHeard b k n) := by
  unfold bHeard; split
  · exact hb
  · exact hb
end Go.Proofs.YtihgpbpcbbgdiaaGreat
