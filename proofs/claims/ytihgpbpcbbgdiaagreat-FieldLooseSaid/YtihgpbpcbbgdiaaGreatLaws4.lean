/- The plain law of FieldLoose: what steps keep of a counter, and what is told of it then. -/
import Derived.Test.YtihgpbpcbbgdiaaGreatLaws3
import Derived.Test.YtihgpbpcbbgdiaaGreatLoose7
namespace Go.Proofs.YtihgpbpcbbgdiaaGreat
open Go.RowKit
set_option linter.unusedVariables false
set_option linter.unusedSimpArgs false
/-- what is so of a counter after at most T steps -/
structure FI (T : Int) (f : Field) : Prop where
  kind : f.kind = 1
  init : -1000 ≤ f.counter.init ∧ f.counter.init ≤ 1000
  down : rBd f.counter.down (2000 + 3000 * T)
  up : rBd f.counter.up (2000 + 3000 * T)
  hold : hRights f.holds = true
  num : ∀ h ∈ f.holds, h.number ≤ T ∧ h.amount ≤ 3000
theorem FI.mono {T : Int} {f : Field} (h : FI T f) : FI (T + 1) f :=
  ⟨h.kind, h.init, h.down.mono (by omega), h.up.mono (by omega), h.hold, fun x hx => by have := h.num x hx; omega⟩
theorem FI.ctr {T : Int} {f : Field} {c : Counter} (h : FI T f) (hi : c.init = f.counter.init) (hd : rBd c.down (2000 + 3000 * (T + 1))) (hu : rBd c.up (2000 + 3000 * (T + 1))) : FI (T + 1) { f with counter := c } :=
  ⟨h.kind, by show -1000 ≤ c.init ∧ c.init ≤ 1000; rw [hi]; exact h.init, hd, hu, h.hold, h.mono.num⟩
theorem FI.holds {T : Int} {f : Field} {hs : List Hold} (h : FI T f) (h1 : hRights hs = true) (h2 : ∀ x ∈ hs, x.number ≤ T ∧ x.amount ≤ 3000) : FI T { f with holds := hs } := ⟨h.kind, h.init, h.down, h.up, h1, h2⟩
theorem fDone_ok {f : Field} {e : Int} (h : (fDone f e).2 = 0) : e = 0 ∧ (fDone f e).1 = f := by
  unfold fDone at *
  split at h
  · rename_i he; exact absurd h he
  · rename_i he; rw [if_neg he]; exact ⟨by omega, rfl⟩
theorem fDone_of {f : Field} : fDone f 0 = (f, 0) := by unfold fDone; rfl
theorem rBd.use {r : Rights} {B k n N : Int} (h : rBd r B) (h0 : 0 ≤ k) (h1 : k < 16) (hn : 0 ≤ n) (hN : n ≤ N) : rBd { r with used := vSet r.used k (vAt r.used k + n) } (B + N) :=
  ⟨h.given.mono (by omega), h.used.grow h0 h1 hn hN, fun i g0 g1 => (h.moved i g0 g1).mono (by omega)⟩
theorem rBd.give {r : Rights} {B k n N : Int} (h : rBd r B) (h0 : 0 ≤ k) (h1 : k < 16) (hn : 0 ≤ n) (hN : n ≤ N) : rBd { r with given := vSet r.given k (vAt r.given k + n) } (B + N) :=
  ⟨h.given.grow h0 h1 hn hN, h.used.mono (by omega), fun i g0 g1 => (h.moved i g0 g1).mono (by omega)⟩
theorem rBd.move {r : Rights} {B i k n N : Int} (h : rBd r B) (i0 : 0 ≤ i) (i1 : i < 16) (h0 : 0 ≤ k) (h1 : k < 16) (hn : 0 ≤ n) (hN : n ≤ N) : rBd { r with moved := mSet r.moved i (vSet (mAt r.moved i) k (vAt (mAt r.moved i) k + n)) } (B + N) :=
  ⟨h.given.mono (by omega), h.used.mono (by omega), fun j g0 g1 => by
    show vBd (mAt (mSet r.moved i _) j) _
    rw [mAt_set i0 i1 g0 g1]
    split
    · exact (h.moved i i0 i1).grow h0 h1 hn hN
    · exact (h.moved j g0 g1).mono (by omega)⟩
theorem dec_FI {T : Int} {f : Field} {k n : Int} (h : FI T f) (hn : n ≤ 3000) (h0 : (cDec f.counter k n).2 = 0) : FI (T + 1) { f with counter := (cDec f.counter k n).1 } := by
  unfold cDec at *
  obtain ⟨h1, h2, e⟩ := both_ok h0
  obtain ⟨k0, k1, n0, _, e1⟩ := rUse_ok h1
  obtain ⟨_, _, _, e2⟩ := rGive_ok h2
  rw [e, e1, e2]
  exact h.ctr rfl (by have := h.down.use k0 k1 n0 hn; exact this.mono (by omega)) (by have := h.up.give k0 k1 n0 hn; exact this.mono (by omega))
theorem inc_FI {T : Int} {f : Field} {k n : Int} (h : FI T f) (hn : n ≤ 3000) (h0 : (cInc f.counter k n).2 = 0) : FI (T + 1) { f with counter := (cInc f.counter k n).1 } := by
  unfold cInc at *
  obtain ⟨h1, h2, e⟩ := both_ok h0
  obtain ⟨k0, k1, n0, _, e1⟩ := rUse_ok h1
  obtain ⟨_, _, _, e2⟩ := rGive_ok h2
  rw [e, e1, e2]
  exact h.ctr rfl (by have := h.down.give k0 k1 n0 hn; exact this.mono (by omega)) (by have := h.up.use k0 k1 n0 hn; exact this.mono (by omega))
theorem hand_FI {T : Int} {f : Field} {i k m n : Int} (h : FI T f) (hm : m ≤ 3000) (hn : n ≤ 3000) (h0 : (cHand f.counter i k m n).2 = 0) : FI (T + 1) { f with counter := (cHand f.counter i k m n).1 } := by
  unfold cHand at *
  obtain ⟨h1, h2, e⟩ := both_ok h0
  obtain ⟨i0, i1, k0, k1, _, m0, _, e1⟩ := rMove_ok h1
  obtain ⟨_, _, _, _, _, n0, _, e2⟩ := rMove_ok h2
  rw [e, e1, e2]
  exact h.ctr rfl (by have := h.down.move i0 i1 k0 k1 m0 hm; exact this.mono (by omega)) (by have := h.up.move i0 i1 k0 k1 n0 hn; exact this.mono (by omega))
theorem add_FI {T : Int} {f : Field} {i n : Int} (h : FI T f) (hn : -3000 ≤ n) (hn2 : n ≤ 3000) (h0 : (fAdd f i n).2 = 0) : FI (T + 1) (fAdd f i n).1 := by
  have hg : ng n = -n := ng_small (by omega) (by omega)
  unfold fAdd fChanged at *
  by_cases c0 : 0 ≤ n
  · rw [if_pos c0, if_neg (by simp [h.kind])] at h0 ⊢
    obtain ⟨e1, e2⟩ := fDone_ok h0
    rw [e2]; exact inc_FI h hn2 e1
  · rw [if_neg c0] at h0 ⊢
    have c1 : ¬ (f.kind = 1 ∧ isN n = false) := fun hc => by
      have : isN n = true := isN_iff.2 (by omega)
      rw [this] at hc; exact absurd hc.2 (by decide)
    rw [if_neg c1] at h0 ⊢
    split at h0
    · rename_i c2; exact absurd h0 c2
    · rename_i c2
      rw [if_neg c2]
      obtain ⟨e1, e2⟩ := fDone_ok h0
      rw [e2]; exact dec_FI h (by rw [hg]; omega) e1
theorem fhand_FI {T : Int} {f : Field} {i k m n : Int} (h : FI T f) (hm : m ≤ 3000) (hn : n ≤ 3000) (h0 : (fHand f i k m n).2 = 0) : FI (T + 1) (fHand f i k m n).1 := by
  unfold fHand fChanged at *
  split at h0
  · rename_i c2; exact absurd h0 c2
  · rename_i c2
    rw [if_neg c2]
    obtain ⟨e1, e2⟩ := fDone_ok h0
    rw [e2]; exact hand_FI h hm hn e1
theorem reserve_FI {T : Int} {f : Field} {i n d : Int} (hT : 0 ≤ T) (h : FI T f) (hn : n ≤ 3000) (h0 : (fReserve f i n d).2.2 = 0) : FI (T + 1) (fReserve f i n d).1 := by
  unfold fReserve at *
  split at h0
  · rename_i c2; exact absurd h0 c2
  · rename_i c2
    rw [if_neg c2]
    split at h0
    · rename_i c3; exact absurd h0 c3
    · rename_i c3
      rw [if_neg c3]
      obtain ⟨g1, g2, g3, e⟩ := hReserve_ok (by omega : (hReserve f.holds i n d).2.2 = 0)
      refine h.mono.holds (by rw [e]; exact reserve_rights g1 g2 g3) (fun x hx => ?_)
      rw [e] at hx
      rcases List.mem_append.1 ((hSort_perm _).mem_iff.1 hx) with hx | hx
      · exact h.mono.num x hx
      · rw [List.mem_singleton.1 hx]
        have := (hNum_facts (r := i) ((hRights_iff _).1 g1).1).2.2 T hT (fun y hy => (h.num y hy).1)
        exact ⟨this, hn⟩
theorem set_num {T : Int} {hs : List Hold} {j : Nat} {s : Int} (h : ∀ x ∈ hs, x.number ≤ T ∧ x.amount ≤ 3000) (hj : j < hs.length) : ∀ x ∈ hs.set j { ix hZ hs j with state := s }, x.number ≤ T ∧ x.amount ≤ 3000 := by
  intro x hx
  rcases List.mem_or_eq_of_mem_set hx with hx | rfl
  · exact h x hx
  · exact h (ix hZ hs j) (by rw [ix_eq hj]; exact List.getElem_mem _)
theorem end_FI {T : Int} {f : Field} {i n s : Int} (h : FI T f) (h0 : (fEnd f i n s).2 = 0) : FI (T + 1) (fEnd f i n s).1 := by
  unfold fEnd at *
  rw [if_neg (by simp [h.kind])] at h0 ⊢
  split at h0
  · rename_i c
    rw [if_pos c]
    obtain ⟨g1, g2, j, hj, _, _, e⟩ := hEnd_ok c.1
    obtain ⟨e1, e2⟩ := fDone_ok h0
    rw [e2]
    have ha : (hEnd f.holds i n s).2.1 ≤ 3000 := by rw [e]; exact (h.num (ix hZ f.holds j) (by rw [ix_eq hj]; exact List.getElem_mem _)).2
    refine (dec_FI h ha e1).holds (by rw [e]; exact end_rights g1 hj g2) ?_
    rw [e]; exact set_num h.mono.num hj
  · rename_i c
    rw [if_neg c]
    obtain ⟨e1, e2⟩ := fDone_ok h0
    rw [e2]
    obtain ⟨g1, g2, j, hj, _, _, e⟩ := hEnd_ok e1
    refine h.mono.holds (by rw [e]; exact end_rights g1 hj g2) ?_
    rw [e]; exact set_num h.mono.num hj
theorem expire_FI {T : Int} {f : Field} {i d : Int} (h : FI T f) : FI (T + 1) (fExpire f i d).1 := by
  unfold fExpire
  rw [if_pos h.kind]
  have e : (hExpire f.holds i d).1 = f.holds.map (hExp i d) := by unfold hExpire; rw [if_pos h.hold]
  refine h.mono.holds (by rw [e]; exact expire_rights h.hold) (fun x hx => ?_)
  rw [e] at hx
  obtain ⟨y, hy, rfl⟩ := List.mem_map.1 hx
  have := h.mono.num y hy
  unfold hExp; split <;> exact this
theorem cJoin_ok {a b : Counter} (h : (cJoin a b).2 = 0) : a.init = b.init ∧ a.low = b.low ∧ a.high = b.high ∧ cJoin a b = ({ a with down := rJoin a.down b.down, up := rJoin a.up b.up }, 0) := by
  unfold cJoin at *
  split at h
  · rename_i c; rw [if_pos c]; exact ⟨c.1, c.2.1, c.2.2, rfl⟩
  · simp at h
theorem join_FI {T : Int} {f g : Field} (h : FI T f) (h' : FI T g) (h0 : (fJoin f g).2 = 0) : FI (T + 1) (fJoin f g).1 := by
  unfold fJoin at *
  split at h0
  · simp at h0
  · rename_i c; rw [if_neg c]
    split at h0
    · rename_i c2; exact absurd h0 c2
    · rename_i c2; rw [if_neg c2]
      split at h0
      · rename_i c3; exact absurd h0 c3
      · rename_i c3; rw [if_neg c3]
        obtain ⟨_, _, _, ec⟩ := cJoin_ok (by omega : (cJoin f.counter g.counter).2 = 0)
        have hz : (hJoin f.holds g.holds).2 = 0 := by omega
        rw [ec]
        refine ⟨h.kind, h.init, (h.mono.down.join h'.mono.down), (h.mono.up.join h'.mono.up), join_rights hz, fun x hx => ?_⟩
        rcases (mem_join hz).1 hx with ⟨hx, _⟩ | ⟨hx, _⟩ | ⟨y, hy, z, _, _, rfl⟩
        · exact h.mono.num x hx
        · exact h'.mono.num x hx
        · exact h.mono.num y hy
theorem fi_at {T : Int} {fs : List Field} {j : Nat} (h : ∀ f ∈ fs, FI T f) (hj : j < fs.length) : FI T (ix fZ fs j) := h _ (by rw [ix_eq hj]; exact List.getElem_mem _)
theorem do_FI {T : Int} {fs : List Field} {v i k n m : Int} {f : Field} (hT : 0 ≤ T) (hl : fs.length = 16) (h : ∀ f ∈ fs, FI T f) (hf : FI T f) (hn : -3000 ≤ n) (hn2 : n ≤ 3000) (hm : m ≤ 3000) (h0 : (fDo fs v i k n m f).2 = 0) : FI (T + 1) (fDo fs v i k n m f).1 := by
  unfold fDo at *
  by_cases c0 : v = 0
  · rw [if_pos c0] at h0 ⊢; exact add_FI hf hn hn2 h0
  rw [if_neg c0] at h0 ⊢
  by_cases c1 : v = 1
  · rw [if_pos c1] at h0 ⊢; exact fhand_FI hf hn2 hm h0
  rw [if_neg c1] at h0 ⊢
  by_cases c2 : v = 2
  · rw [if_pos c2] at h0 ⊢; exact reserve_FI hT hf hn2 h0
  rw [if_neg c2] at h0 ⊢
  by_cases c3 : v = 3
  · rw [if_pos c3] at h0 ⊢; exact end_FI hf h0
  rw [if_neg c3] at h0 ⊢
  by_cases c4 : v = 4
  · rw [if_pos c4]; exact expire_FI hf
  rw [if_neg c4] at h0 ⊢
  by_cases c5 : v = 5
  · rw [if_pos c5] at h0; unfold fLocked at h0; rw [if_pos (by rw [hf.kind]; decide)] at h0; simp at h0
  rw [if_neg c5] at h0 ⊢
  by_cases c6 : v = 6
  · rw [if_pos c6] at h0; unfold fLocked at h0; rw [if_pos (by rw [hf.kind]; decide)] at h0; simp at h0
  rw [if_neg c6] at h0 ⊢
  by_cases c7 : v = 7
  · rw [if_pos c7] at h0 ⊢
    by_cases ck : 0 ≤ k ∧ k ≤ 15
    · rw [if_pos ck] at h0 ⊢; exact join_FI hf (fi_at h (by omega)) h0
    · rw [if_neg ck] at h0; simp at h0
  · rw [if_neg c7] at h0; simp at h0
theorem step_FI {T : Int} {fs : List Field} {d : Do7} (hT : 0 ≤ T) (hl : fs.length = 16) (h : ∀ f ∈ fs, FI T f) (hd : few7 d = true) : (do7 fs d).length = 16 ∧ ∀ f ∈ do7 fs d, FI (T + 1) f := by
  unfold few7 at hd
  simp only [Bool.and_eq_true, decide_eq_true_eq] at hd
  unfold do7 stepF
  split
  · exact ⟨hl, fun f hf => (h f hf).mono⟩
  · rename_i c
    split
    · rename_i h0
      refine ⟨by simp [hl], fun f hf => ?_⟩
      rcases List.mem_or_eq_of_mem_set hf with hf | rfl
      · exact (h f hf).mono
      · exact do_FI hT hl h (fi_at h (by omega)) (by omega) (by omega) (by omega) h0
    · exact ⟨hl, fun f hf => (h f hf).mono⟩
theorem fold_FI : ∀ (l : List Do7) (T : Int) (fs : List Field), 0 ≤ T → fs.length = 16 → (∀ f ∈ fs, FI T f) → l.all few7 = true → (l.foldl do7 fs).length = 16 ∧ ∀ f ∈ l.foldl do7 fs, FI (T + l.length) f
  | [], T, fs, _, hl, h, _ => ⟨hl, fun f hf => by have := h f hf; simpa using this⟩
  | d :: l, T, fs, hT, hl, h, ha => by
    rw [List.all_cons, Bool.and_eq_true] at ha
    obtain ⟨g1, g2⟩ := step_FI hT hl h ha.1
    obtain ⟨r1, r2⟩ := fold_FI l (T + 1) (do7 fs d) (by omega) g1 g2 ha.2
    refine ⟨r1, fun f hf => ?_⟩
    have := r2 f hf
    rw [show T + 1 + (l.length : Int) = T + ((d :: l).length : Nat) by rw [List.length_cons]; push_cast; omega] at this
    exact this
theorem new_FI {init low high : Int} (h0 : (fCounter aN init low high).2 = 0) (h1 : ¬ low < -1000) (h2 : ¬ 1000 < high) : FI 0 (fCounter aN init low high).1 := by
  unfold fCounter at *
  obtain ⟨e1, e2⟩ := fDone_ok h0
  rw [e2]
  have hn : (cNew init low high).2 = 0 := by
    split at e1
    · exact e1
    · simp at e1
  unfold cNew at *
  split at hn
  · rename_i c
    obtain ⟨c1, c2, c3, c4, c5⟩ := c
    rw [if_pos ⟨c1, c2, c3, c4, c5⟩]
    have s1 : (nSub init low).1 = init - low := by
      unfold nSub at *; split at c1
      · rename_i q; rw [if_pos q]
      · simp at c1
    have s2 : (nSub high init).1 = high - init := by
      unfold nSub at *; split at c2
      · rename_i q; rw [if_pos q]
      · simp at c2
    rw [s1] at c4; rw [s2] at c5
    have hb : ∀ x : Int, 0 ≤ x → x ≤ 2000 → rBd { rZ with given := vSet vZ 0 x } 2000 := fun x x0 x1 =>
      ⟨fun i i0 i1 => by
        show 0 ≤ vAt (vSet vZ 0 x) i ∧ vAt (vSet vZ 0 x) i ≤ 2000
        rw [vAt_set (by omega) (by omega) i0 i1, vAt_Z]; split <;> omega, (rBd.Z (B := 2000) (by omega)).used, (rBd.Z (B := 2000) (by omega)).moved⟩
    refine ⟨rfl, ⟨by show -1000 ≤ init; omega, by show init ≤ 1000; omega⟩, ?_, ?_, rfl, fun x hx => absurd hx List.not_mem_nil⟩
    · show rBd { rZ with given := vSet vZ 0 (nSub init low).1 } (2000 + 3000 * 0)
      rw [s1]; exact hb _ c4 (by omega)
    · show rBd { rZ with given := vSet vZ 0 (nSub high init).1 } (2000 + 3000 * 0)
      rw [s2]; exact hb _ c5 (by omega)
  · simp at hn
end Go.Proofs.YtihgpbpcbbgdiaaGreat
