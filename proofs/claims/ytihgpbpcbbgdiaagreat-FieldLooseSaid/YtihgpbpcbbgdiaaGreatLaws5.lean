/- What is reserved is no longer loose; let go it is again; kept it is gone from the value. -/
import Derived.Test.YtihgpbpcbbgdiaaGreatLaws4
namespace Go.Proofs.YtihgpbpcbbgdiaaGreat
open Go.RowKit
set_option linter.unusedVariables false
set_option linter.unusedSimpArgs false
theorem hPlain_set (r : Int) : ∀ {hs : List Hold} {j : Nat} {y : Hold} (hj : j < hs.length), hPlain (hs.set j y) r = hPlain hs r - (if held r hs[j] then hs[j].amount else 0) + (if held r y then y.amount else 0)
  | [], j, y, h => absurd h (Nat.not_lt_zero _)
  | x :: hs, 0, y, h => by simp only [List.set_cons_zero, hPlain_cons, List.getElem_cons_zero]; omega
  | x :: hs, j + 1, y, h => by
    have := hPlain_set r (hs := hs) (j := j) (y := y) (by simpa using h)
    simp only [List.set_cons_succ, hPlain_cons, this, List.getElem_cons_succ]; omega
theorem hEnd_at {hs : List Hold} {i n s : Int} {y : Hold} (h : hRights hs = true) (hs' : s = 2 ∨ s = 3) (hy : y ∈ hs) (hi : y.replica = i) (hn : y.number = n) (h1 : y.state = 1) {a : Int} (ha : y.amount = a) :
    ∃ (j : Nat) (hj : j < hs.length), hs[j] = y ∧ hEnd hs i n s = (hs.set j { y with state := s }, a, 0) := by
  subst ha
  have hnd := hRights_nodup h
  obtain ⟨j, hj, hp, hm⟩ : ∃ (j : Nat) (_ : j < hs.length), hPlace hs i n = (j : Int) ∧ hIs i n hs[j] = true := by
    unfold hPlace lFind
    cases e : hs.findIdx? (hIs i n) with
    | none =>
      rw [List.findIdx?_eq_none_iff] at e
      have := e y hy
      simp [hIs, hi, hn] at this
    | some j =>
      obtain ⟨q1, q2, _⟩ := List.findIdx?_eq_some_iff_getElem.1 e
      exact ⟨j, q1, rfl, q2⟩
  have hk : hs[j] = y := by
    obtain ⟨l, hl, e⟩ := List.getElem_of_mem hy
    have : (hs.map hKey)[j]'(by simpa using hj) = (hs.map hKey)[l]'(by simpa using hl) := by
      simp only [List.getElem_map, e, hKey, Prod.mk.injEq]
      simp [hIs] at hm; omega
    have := (List.getElem_inj (xs := hs.map hKey) hnd).1 this
    subst this; exact e
  refine ⟨j, hj, hk, ?_⟩
  unfold hEnd
  rw [if_pos ⟨h, hs'⟩, hp, if_neg (by omega)]
  have e : ((j : Int)).toNat = j := by simp
  rw [e, ix_eq hj, hk, if_neg (by rw [h1]; simp)]
theorem loose7_true {T k a : Int} {x : Field} (h : FI T x) (hT0 : 0 ≤ T) (hT : T ≤ 60) (k0 : 0 ≤ k) (k1 : k ≤ 15) : loose7 x k a = true := by
  have hd : rBd x.counter.down 182000 := h.down.mono (by omega)
  have hu : rBd x.counter.up 182000 := h.up.mono (by omega)
  have hright := (hRights_iff _).1 h.hold
  have hamt : ∀ y ∈ x.holds, 0 ≤ y.amount ∧ y.amount ≤ 10000000 := fun y hy => by
    have q1 := (hRight_iff y).1 (hright.1 y hy); have q2 := h.num y hy; omega
  have hlen := hright.2.2
  have eS := rFree_ok hd (by omega) k0 (by omega : k < 16)
  have lS := free_le hd (by omega) k0 (by omega : k < 16)
  have hP := hSum_ok (r := k) (C := 10000000) (by omega) hamt (by omega)
  have gS : -34 * 182000 ≤ (freeList x.counter.down k).sum := by
    have := sum_le (B := 182000) (xs := (freeList x.counter.down k).map (fun z => -z)) (fun z hz => by
      obtain ⟨w, hw, rfl⟩ := List.mem_map.1 hz
      have := (free_bd hd (by omega) k0 (by omega : k < 16) w hw).1; omega)
    rw [List.length_map, free_len] at this
    have e : ∀ l : List Int, (l.map (fun z => -z)).sum = -l.sum := fun l => by
      induction l with
      | nil => rfl
      | cons q l ih => simp only [List.map_cons, List.sum_cons, ih]; omega
    rw [e] at this; omega
  have hPu : hPlain x.holds k ≤ 160000000 := by
    unfold hPlain
    have q := sum_le (B := 10000000) (xs := (x.holds.filter (held k)).map (·.amount)) (fun z hz => by
      obtain ⟨w, hw, rfl⟩ := List.mem_map.1 hz
      exact (hamt w ((List.mem_filter.1 hw).1)).2)
    rw [List.length_map] at q
    have := List.length_filter_le (held k) x.holds
    omega
  obtain ⟨S, hS⟩ : ∃ S, S = (freeList x.counter.down k).sum := ⟨_, rfl⟩
  obtain ⟨P, hPe⟩ : ∃ P, P = hPlain x.holds k := ⟨_, rfl⟩
  rw [← hS] at eS lS gS
  rw [← hPe] at hP hPu
  have eL : fLoose x k = (S - P, (rFree x.counter.up k).1) := by
    unfold fLoose
    rw [if_neg (by simp [h.kind]), eS, hP.1, wr (by show _ ≤ S - P; omega) (by show S - P ≤ _; omega)]
  have eK : fLacks x k a = if a > S - P then 8 else 0 := by
    unfold fLacks; rw [if_neg (by simp [h.kind]), eL]
  unfold loose7
  by_cases c1 : a > S - P
  · have : fReserve x k a 9 = (fZ, 0, 8) := by unfold fReserve; rw [eK, if_pos c1, if_pos (by decide)]
    rw [this, if_pos (by decide), eL]; simp [show S - P < a by omega]
  rw [if_neg c1] at eK
  by_cases c2 : (hReserve x.holds k a 9).2.2 ≠ 0
  · have : (fReserve x k a 9).2.2 = (hReserve x.holds k a 9).2.2 := by unfold fReserve; rw [eK, if_neg (by decide), if_pos c2]
    rw [this, if_pos c2]
    by_cases c3 : a < 0
    · simp [c3]
    by_cases c4 : x.holds.length = 16
    · simp [c4]
    exfalso
    apply c2
    have hN := hNum_facts (r := k) hright.1
    have hN2 := hN.2.2 T hT0 (fun y hy => (h.num y hy).1)
    have hnew : hRight (hNew x.holds k a 9) = true := by
     rw [hRight_iff]
     show 0 ≤ k ∧ k < 16 ∧ 1 ≤ hNum x.holds k ∧ hNum x.holds k ≤ 1099511627776 ∧ 0 ≤ a ∧ a ≤ 1099511627776 ∧ (0 : Int) ≤ 9 ∧ (9 : Int) ≤ 1099511627776 ∧ (1 : Int) ≤ 1 ∧ (1 : Int) ≤ 3
     omega
    rw [hReserve_of h.hold hnew c4]
  obtain ⟨g1, g2, g3, e⟩ := hReserve_ok (Decidable.not_not.1 c2)
  obtain ⟨N, hN⟩ : ∃ N, N = hNum x.holds k := ⟨_, rfl⟩
  obtain ⟨y, hy⟩ : ∃ y : Hold, y = ⟨k, N, a, 9, 1⟩ := ⟨_, rfl⟩
  have hyn : hNew x.holds k a 9 = y := by rw [hy, hN]; rfl
  rw [hyn] at e g2
  have hrs : hRights (hSort (x.holds ++ [y])) = true := by rw [← hyn]; exact reserve_rights g1 (by rw [hyn]; exact g2) g3
  have ha := (hRight_iff y).1 g2
  have ya : y.amount = a := by rw [hy]
  have yr : y.replica = k := by rw [hy]
  have yn : y.number = N := by rw [hy]
  have ys : y.state = 1 := by rw [hy]
  rw [ya] at ha
  obtain ⟨H, hH⟩ : ∃ H, H = hSort (x.holds ++ [y]) := ⟨_, rfl⟩
  rw [← hH] at e hrs
  have hmem : ∀ z, z ∈ H ↔ z ∈ x.holds ∨ z = y := fun z => by
    rw [hH, (hSort_perm _).mem_iff, List.mem_append, List.mem_singleton]
  have eR : fReserve x k a 9 = ({ x with holds := H }, N, 0) := by
    unfold fReserve; rw [eK, if_neg (by decide), if_neg (by omega), e, hN]
  rw [eR, if_neg (fun q => q rfl)]
  have hHl : H.length ≤ 16 := ((hRights_iff _).1 hrs).2.2
  have hHa : ∀ z ∈ H, 0 ≤ z.amount ∧ z.amount ≤ 10000000 := fun z hz => by
    rcases (hmem z).1 hz with hz | rfl
    · exact hamt z hz
    · rw [ya]; omega
  have heldy : held k y = true := by simp [held, yr, ys]
  have ePH : hPlain H k = P + a := by
    rw [hH, hPlain_perm (hSort_perm _), hPlain_append, hPe, hPlain_cons, if_pos heldy, ya]; simp [hPlain]
  obtain ⟨j3, hj3, hk3, e3⟩ := hEnd_at (s := 3) hrs (.inr rfl) ((hmem y).2 (.inr rfl)) yr yn ys ya
  obtain ⟨j2, hj2, hk2, e2⟩ := hEnd_at (s := 2) hrs (.inl rfl) ((hmem y).2 (.inr rfl)) yr yn ys ya
  have plain_of : ∀ (j : Nat) (s : Int) (hj : j < H.length), H[j] = y → s ≠ 1 → hSum (H.set j { y with state := s }) k = P := fun j s hj hk hs => by
    have hb : ∀ z ∈ H.set j { y with state := s }, 0 ≤ z.amount ∧ z.amount ≤ 10000000 := fun z hz => by
      rcases List.mem_or_eq_of_mem_set hz with hz | rfl
      · exact hHa z hz
      · exact hHa y ((hmem y).2 (.inr rfl))
    have hf : held k { y with state := s } = false := by simp [held, hs]
    rw [(hSum_ok (r := k) (C := 10000000) (by omega) hb (by rw [List.length_set]; omega)).1, hPlain_set k hj, ePH, hk, if_pos heldy, hf, ya]; simp
  have f3 : fEnd { x with holds := H } k N 3 = ({ x with holds := H.set j3 { y with state := 3 } }, 0) := by
    unfold fEnd
    rw [if_neg (by simp [h.kind]), if_neg (by simp), e3]; exact fDone_of
  have hen : rEnough x.counter.down k a = 0 := by
    unfold rEnough; rw [if_neg (by omega), eS, if_neg (fun q => q rfl), if_neg (by show ¬ a > S; omega)]
  have vu := hd.used k k0 (by omega); have vg := hu.given k k0 (by omega)
  have f2 : fEnd { x with holds := H } k N 2 = ({ x with counter := { x.counter with down := { x.counter.down with used := vSet x.counter.down.used k (vAt x.counter.down.used k + a) }, up := { x.counter.up with given := vSet x.counter.up.given k (vAt x.counter.up.given k + a) } }, holds := H.set j2 { y with state := 2 } }, 0) := by
    have u1 : rUse x.counter.down k a = ({ x.counter.down with used := vSet x.counter.down.used k (vAt x.counter.down.used k + a) }, 0) := by
      unfold rUse; rw [if_pos hen, vGrow_of k0 (by omega) (by omega) (isN_iff.2 (by omega)) (isN_iff.2 (by omega)) (isN_iff.2 (by omega))]; rfl
    have u2 : rGive x.counter.up k a = ({ x.counter.up with given := vSet x.counter.up.given k (vAt x.counter.up.given k + a) }, 0) := by
      unfold rGive; rw [vGrow_of k0 (by omega) (by omega) (isN_iff.2 (by omega)) (isN_iff.2 (by omega)) (isN_iff.2 (by omega))]; rfl
    have ed : cDec x.counter k a = ({ x.counter with down := { x.counter.down with used := vSet x.counter.down.used k (vAt x.counter.down.used k + a) }, up := { x.counter.up with given := vSet x.counter.up.given k (vAt x.counter.up.given k + a) } }, 0) := by
      unfold cDec; rw [u1, u2]; exact both_of rfl rfl
    unfold fEnd
    rw [if_neg (by simp [h.kind]), e2, if_pos ⟨rfl, rfl⟩]
    show fDone { x with counter := (cDec x.counter k a).1, holds := _ } (cDec x.counter k a).2 = _
    rw [ed]; exact fDone_of
  have l1 : fLoose { x with holds := H } k = (S - P - a, (rFree x.counter.up k).1) := by
    unfold fLoose
    rw [if_neg (by simp [h.kind])]
    have q : hSum H k = P + a := by rw [(hSum_ok (r := k) (C := 10000000) (by omega) hHa (by omega)).1, ePH]
    show (IntKind.i64.wrap ((rFree x.counter.down k).1 - hSum H k), _) = _
    rw [eS, q, wr (by show _ ≤ S - (P + a); omega) (by show S - (P + a) ≤ _; omega)]
    show (S - (P + a), _) = _; congr 1; omega
  have l3 : fLoose { x with holds := H.set j3 { y with state := 3 } } k = (S - P, (rFree x.counter.up k).1) := by
    unfold fLoose
    rw [if_neg (by simp [h.kind])]
    show (IntKind.i64.wrap ((rFree x.counter.down k).1 - hSum (H.set j3 { y with state := 3 }) k), _) = _
    rw [eS, plain_of j3 3 hj3 hk3 (by decide), wr (by show _ ≤ S - P; omega) (by show S - P ≤ _; omega)]
  rw [f3, f2, l1, l3, eL]
  have l2 : (fLoose { x with counter := { x.counter with down := { x.counter.down with used := vSet x.counter.down.used k (vAt x.counter.down.used k + a) }, up := { x.counter.up with given := vSet x.counter.up.given k (vAt x.counter.up.given k + a) } }, holds := H.set j2 { y with state := 2 } } k).1 = S - P - a := by
    unfold fLoose
    rw [if_neg (by simp [h.kind])]
    show IntKind.i64.wrap ((rFree { x.counter.down with used := vSet x.counter.down.used k (vAt x.counter.down.used k + a) } k).1 - hSum (H.set j2 { y with state := 2 }) k) = _
    rw [rFree_ok (hd.use k0 (by omega) (by omega) (by omega : a ≤ 10000000)) (by omega) k0 (by omega), free_used hd (by omega) k0 (by omega) (by omega) (by omega), ← hS, plain_of j2 2 hj2 hk2 (by decide)]
    rw [wr (by show _ ≤ S - a - P; omega) (by show S - a - P ≤ _; omega)]
    show S - a - P = _; omega
  have hvb := val_bd hd hu (by omega) (by have := h.init; omega)
  have v1 : (fView x).1 = (valList x.counter).sum := by unfold fView; rw [if_pos h.kind, hvb]
  have v2 : (fView { x with counter := { x.counter with down := { x.counter.down with used := vSet x.counter.down.used k (vAt x.counter.down.used k + a) }, up := { x.counter.up with given := vSet x.counter.up.given k (vAt x.counter.up.given k + a) } }, holds := H.set j2 { y with state := 2 } }).1 = (valList x.counter).sum - a := by
    unfold fView
    rw [if_pos h.kind]
    show (nSum (valList { x.counter with down := { x.counter.down with used := vSet x.counter.down.used k (vAt x.counter.down.used k + a) }, up := { x.counter.up with given := vSet x.counter.up.given k (vAt x.counter.up.given k + a) } })).1 = _
    rw [val_bd (B := 10182000) (by exact hd.use k0 (by omega) (by omega) (by omega : a ≤ 10000000)) (by exact hu.give k0 (by omega) (by omega) (by omega : a ≤ 10000000)) (by omega) (by have := h.init; show -10182000 ≤ x.counter.init ∧ x.counter.init ≤ 10182000; omega)]
    show (valList _).sum = _
    unfold valList
    simp only [List.sum_cons, List.sum_append]
    rw [negs_set hd.used (by omega) k0 (by omega) (by omega) (by omega)]; omega
  have hvs : -182000 * 34 ≤ (valList x.counter).sum ∧ (valList x.counter).sum ≤ 182000 * 34 := by
    have := nSum_isN (valList x.counter)
    have q1 := h.init
    have b1 := sum_le (B := 182000) (xs := x.counter.up.used.toList) (fun z hz => by obtain ⟨i, i0, i1, rfl⟩ := mem_vec hz; exact (hu.used i i0 i1).2)
    have b2 := sum_nonneg (xs := x.counter.up.used.toList) (fun z hz => by obtain ⟨i, i0, i1, rfl⟩ := mem_vec hz; exact (hu.used i i0 i1).1)
    have hng : ∀ z ∈ negs x.counter.down.used, -182000 ≤ z ∧ z ≤ 0 := fun z hz => by
      obtain ⟨w, hw, rfl⟩ := List.mem_map.1 hz
      obtain ⟨i, i0, i1, rfl⟩ := mem_vec hw
      have := hd.used i i0 i1
      rw [ng_small (by omega) (by omega)]; omega
    have b3 := sum_le (B := 0) (xs := negs x.counter.down.used) (fun z hz => (hng z hz).2)
    have b4 := sum_le (B := 182000) (xs := (negs x.counter.down.used).map (fun z => -z)) (fun z hz => by
      obtain ⟨w, hw, rfl⟩ := List.mem_map.1 hz; have := (hng w hw).1; omega)
    have e : ∀ l : List Int, (l.map (fun z => -z)).sum = -l.sum := fun l => by
      induction l with
      | nil => rfl
      | cons q l ih => simp only [List.map_cons, List.sum_cons, ih]; omega
    rw [e] at b4
    have c1 : x.counter.up.used.toList.length = 16 := by simp
    have c2 : (negs x.counter.down.used).length = 16 := by simp [negs]
    rw [c1] at b1; rw [c2] at b3; rw [List.length_map, c2] at b4
    have ev : (valList x.counter).sum = x.counter.init + (x.counter.up.used.toList.sum + (negs x.counter.down.used).sum) := by
      unfold valList; simp only [List.sum_cons, List.sum_append]
    rw [ev]; omega
  show (decide ((0 : Int) = 0) && decide ((0 : Int) = 0) && decide (S - P - a = IntKind.i64.wrap (S - P - a)) && decide ((rFree x.counter.up k).1 = (rFree x.counter.up k).1) && decide (S - P = S - P) && decide ((fView _).1 = IntKind.i64.wrap ((fView x).1 - a)) && decide ((fLoose _ k).1 = IntKind.i64.wrap (S - P - a))) = true
  rw [l2, v2, v1, wr (by show _ ≤ S - P - a; omega) (by show S - P - a ≤ _; omega), wr (by show _ ≤ (valList x.counter).sum - a; omega) (by show (valList x.counter).sum - a ≤ _; omega)]
  simp
theorem law7_true (init low high : Int) (l : List Do7) (k a : Int) : law7 init low high l k a = true := by
  unfold law7
  split
  · rfl
  · rename_i c
    split
    · rename_i ha
      obtain ⟨r1, r2⟩ := fold_FI l 0 (List.replicate 16 (fCounter aN init low high).1) (Int.le_refl _) (by simp) (fun f hf => by rw [List.eq_of_mem_replicate hf]; exact new_FI (by omega) (by omega) (by omega)) ha
      exact loose7_true (fi_at r2 (by omega)) (by omega) (by omega) (by omega) (by omega)
    · rfl
end Go.Proofs.YtihgpbpcbbgdiaaGreat
