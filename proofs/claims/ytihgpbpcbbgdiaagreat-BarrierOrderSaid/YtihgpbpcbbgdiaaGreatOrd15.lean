/- Several texts in one. -/
import Derived.Test.YtihgpbpcbbgdiaaGreatOrd14
/- What hold.Reserve and hold.Join tell. -/
namespace Go.Proofs.YtihgpbpcbbgdiaaGreat
open Go.RowKit
set_option linter.unusedVariables false
set_option linter.unusedSimpArgs false
def hNew (hs : List Hold) (i n d : Int) : Hold := ⟨i, hNum hs i, n, d, 1⟩
def hReserve (hs : List Hold) (i n d : Int) : List Hold × Int × Int :=
  if hRights hs && hRight (hNew hs i n d) then (if hs.length = 16 then ([], 0, 7) else (hSort (hs ++ [hNew hs i n d]), hNum hs i, 0)) else ([], 0, 1)
attribute [local irreducible] hRights hNum hSort

theorem hold_Reserve (hs : List Hold) (A : Option Addr) (cap : Nat) (hl : hs.length ≤ 10000) (i n d : Int) (M : Mem) (hS : SlR rHold M A cap hs) : Ctr Tryz.prog 72 [.slice A hs.length cap, vi i, vi n, vi d] M [] (fun v M' _ => ∃ A' cap', SlR rHold M' A' cap' (hReserve hs i n d).1 ∧ v = .tuple #[.slice A' (hReserve hs i n d).1.length cap', vi (hReserve hs i n d).2.1, vi (hReserve hs i n d).2.2]) := by
  refine ctr Tryz.func72 rfl Tryz.ntmps72 rfl fun w => ?_
  refine c_seq <| c_region <| ja rfl rfl <| ja rfl rfl <| ja rfl rfl <| j_nil <| p_thn <| c_seq <| c_region <| ja rfl rfl <| j_nil <| p_thn <| c_seq <| c_seq <| c_region <| jm rfl rfl <| jlen rfl rfl <| jm rfl rfl <| j_nil <| p_thn <| c_block <| c_lp (X := Nat) (fun k => k ≤ hs.length) (fun k => hs.length - k) (fun k => [(18, vi (k : Int)), (11, vi ((hs.take k).foldl (hNext i) 1))]) [17, 16, 10, 9, 8, 3, 2, 1, 0] 0 ?_ (sub_c rfl <| sub_c rfl <| sub_c rfl <| sub_c rfl <| sub_c rfl <| sub_c rfl <| sub_c rfl <| sub_c rfl <| sub_c rfl <| sub_c rfl <| sub_c rfl <| sub_n) ?_
  · exact Nat.zero_le _
  · intro k hI
    refine c_seq <| c_region <| jlss rfl rfl rfl <| j_nil <| p_thn <| c_seq <| c_cond rfl (fun hb1 => ?_) (fun hb1 => ?_)
    · have phb1 := hb1; try simp at phb1
      refine c_skip <| p_thn <| c_seq <| c_block <| c_seq <| c_region <| ji rfl rfl rfl (by omega) (by omega) (hS.adr (i := k) (by omega)) <| jlq rfl hS (ix_get (z := hZ) (i := k) (by omega)) (fun c h => h) rfl rfl <| jalloc rfl fun B2 => jstw 0 rfl rfl rfl rfl (len_hold _) (one_hold _) (len_hold _) <| j_nil <| p_thn <| c_seq <| c_region <| jfa rfl rfl rfl <| jld1 0 rfl rfl rfl rfl <| jm rfl rfl <| jeql rfl rfl rfl <| j_nil <| p_thn <| c_cond rfl (fun hb3 => ?_) (fun hb3 => ?_)
      · have phb3 := hb3; try simp at phb3
        refine c_region <| jm rfl rfl <| jfa rfl rfl rfl <| jld1 0 rfl rfl rfl rfl <| jadd rfl rfl rfl rfl <| jmax rfl rfl rfl <| ja rfl rfl <| j_nil <| p_inb <| p_thn <| c_region <| jadd rfl rfl rfl (by first | exact wr (by omega) (by omega) | rfl) <| jm rfl rfl <| j_nil <| jp_tk (ap_0) <| ?_
        refine p_lp (k + 1) ?_ ?_ (sub_c rfl <| sub_c (sub_v rfl (by rw [← foldl_take (z := hZ) (by omega)]; simp [hNext, *])) <| sub_c rfl <| sub_c rfl <| sub_c rfl <| sub_c rfl <| sub_c rfl <| sub_c rfl <| sub_c rfl <| sub_c rfl <| sub_c rfl <| sub_n) rfl rfl
        · omega
        · omega
      · have phb3 := hb3; try simp at phb3
        refine c_skip <| p_inb <| p_thn <| c_region <| jadd rfl rfl rfl (by first | exact wr (by omega) (by omega) | rfl) <| jm rfl rfl <| j_nil <| jp_tk (ap_0) <| ?_
        refine p_lp (k + 1) ?_ ?_ (sub_c rfl <| sub_c (sub_v rfl (by rw [← foldl_take (z := hZ) (by omega)]; simp [hNext, *])) <| sub_c rfl <| sub_c rfl <| sub_c rfl <| sub_c rfl <| sub_c rfl <| sub_c rfl <| sub_c rfl <| sub_c rfl <| sub_c rfl <| sub_n) rfl rfl
        · omega
        · omega
    · have phb1 := hb1; try simp at phb1
      refine c_exit <| p_thn_exit <| p_lp_exit <| p_inb_exit <| p_thn <| c_seq <| c_region <| jm rfl rfl <| jm rfl rfl <| jm rfl rfl <| jm rfl rfl <| ?_
      obtain rfl : k = hs.length := by omega
      rw [List.take_length, show hs.foldl (hNext i) 1 = hNum hs i from by unfold hNum; rfl]
      refine jbu (zc := encHold hZ) (c := encHold (hNew hs i n d)) rfl rfl rfl <| jalloc rfl fun B4 => jstw 0 rfl rfl rfl rfl (len_hold _) (one_hold _) (len_hold _) <| j_nil <| p_thn <| c_seq <| c_block <| c_seq <| c_region <| jm rfl rfl <| jcallv rfl rfl rfl (hold_Rights _ _ _ (by omega) _ hS) <| jnot rfl rfl <| jm rfl rfl <| jgs rfl rfl (fun hb5 => ?_) (fun hb5 => ?_)
      · have phb5 := hb5; try simp at phb5
        refine jg_off rfl rfl rfl hb5 <| jg_off rfl rfl rfl hb5 <| jg_off rfl rfl rfl hb5 <| jpick_t rfl rfl hb5 rfl <| ja rfl rfl <| j_nil <| p_thn <| c_cond_kt rfl rfl <| c_seq <| c_region <| ja rfl rfl <| ja rfl rfl <| ja rfl rfl <| j_nil <| p_thn <| c_ret <| p_inb_ret <| p_thn_ret <| ?_
        refine p_ret0 rfl rfl (.tmp rfl <| .tmp rfl <| .tmp rfl <| .nil) ?_
        refine ⟨none, 0, ?_⟩
        have e : hReserve hs i n d = ([], 0, 1) := by unfold hReserve; rw [if_neg (by simp [*])]
        rw [e]; exact ⟨SlR.nil, rfl⟩
      · have phb5 := hb5; try simp at phb5
        refine jg rfl rfl hb5 <| jldw 0 rfl rfl rfl (len_hold _) <| jg rfl rfl hb5 <| jcallv rfl rfl rfl (hold_Right _ _) <| jg rfl rfl hb5 <| jnot rfl rfl <| jpick_f rfl rfl hb5 rfl <| ja rfl rfl <| j_nil <| p_thn <| c_cond rfl (fun hb6 => ?_) (fun hb6 => ?_)
        · have phb6 := hb6; try simp at phb6
          refine c_seq <| c_region <| ja rfl rfl <| ja rfl rfl <| ja rfl rfl <| j_nil <| p_thn <| c_ret <| p_inb_ret <| p_thn_ret <| ?_
          refine p_ret0 rfl rfl (.tmp rfl <| .tmp rfl <| .tmp rfl <| .nil) ?_
          refine ⟨none, 0, ?_⟩
          have e : hReserve hs i n d = ([], 0, 1) := by unfold hReserve; rw [if_neg (by simp [*])]
          rw [e]; exact ⟨SlR.nil, rfl⟩
        · have phb6 := hb6; try simp at phb6
          refine c_seq <| c_region <| jm rfl rfl <| jlen rfl rfl <| jeql rfl rfl rfl <| ja rfl rfl <| j_nil <| p_thn <| c_cond rfl (fun hb7 => ?_) (fun hb7 => ?_)
          · have phb7 := hb7; try simp at phb7
            refine c_seq <| c_region <| ja rfl rfl <| ja rfl rfl <| ja rfl rfl <| j_nil <| p_thn <| c_ret <| p_inb_ret <| p_thn_ret <| ?_
            refine p_ret0 rfl rfl (.tmp rfl <| .tmp rfl <| .tmp rfl <| .nil) ?_
            refine ⟨none, 0, ?_⟩
            have e : hReserve hs i n d = ([], 0, 7) := by unfold hReserve; rw [if_pos (by simp [*]), if_pos (by omega)]
            rw [e]; exact ⟨SlR.nil, rfl⟩
          · have phb7 := hb7; try simp at phb7
            refine c_skip <| p_inb <| p_thn <| c_seq <| c_draw [2] (by kernel_rfl) <| jd_z (i := 0) rfl rfl (by kernel_rfl) (by kernel_rfl) (by kernel_rfl) (by kernel_rfl) rfl (zm rfl) <| jd_first (i := 2) rfl rfl (by kernel_rfl) (by kernel_rfl) (by kernel_rfl) (by kernel_rfl) (by kernel_rfl) rfl (fun _ h => h) (yldw 0 rfl rfl (len_hold _)) <| jd_two (i := 1) (j := 3) (by kernel_rfl) rfl rfl ?_ ?_
            · skip
              refine jcallr rfl rfl rfl (ap_0) (clone_Hold _ _ _ (by omega) _ hS) (fun _ => (ap_s <| ap_0)) fun vc => j_nil <| p_jd rfl (.inr (fun _ h => (h.drop (L := [_])))) <| jd_one (i := 3) (by kernel_rfl) rfl <| jbsl (vs := [_]) [_] rfl rfl rfl (by simp [len_hold]) rfl rfl (by decide) (by decide) fun B10 => j_nil <| p_jd rfl (.inl (by kernel_rfl)) <| jd_one (i := 4) (by kernel_rfl) rfl <| j_perm (fr_s <| fr_0) <| japp rfl rfl rfl (fun w ho => Src.blk (i := 1) rfl (by simp [len_vec, len_rights, len_counter, len_lock, len_hold, len_plan, len_F])) (by simp [one_vec, one_hold, one_plan, one_F, List.all_append, -List.all_eq_true]) rfl (by decide) (by omega) (by omega) fun vB11 => j_nil <| p_jd rfl (.inl (by kernel_rfl)) <| jd_z (i := 5) rfl rfl (by kernel_rfl) (by kernel_rfl) (by kernel_rfl) (by kernel_rfl) rfl (za rfl) <| jd_done (by kernel_rfl) <| p_thn <| c_seq <| c_region <| jm rfl rfl <| jcallb rfl rfl rfl (ap_s <| ap_0) (sort_Hold (hs ++ [hNew hs i n d]) _ (by simp; omega) (by simp) (by simp)) (ap_s <| ap_0) <| j_nil <| p_thn <| c_seq <| c_region <| jm rfl rfl <| jm rfl rfl <| ja rfl rfl <| ja rfl rfl <| ja rfl rfl <| j_nil <| p_thn <| c_ret <| ?_
              refine jp_freeze fun M1z hM1z hz1 => ?_
              obtain ⟨A1z, cap1z, rfl, hS1z⟩ := frz (r := rHold) (xs := hSort (hs ++ [hNew hs i n d])) hz1 (Rows.flat (fun _ => rfl) _) (by rw [hSort_len]; simp)
              refine p_ret0 rfl rfl (.tmp rfl <| .tmp rfl <| .tmp rfl <| .nil) ?_
              have e : hReserve hs i n d = (hSort (hs ++ [hNew hs i n d]), hNum hs i, 0) := by unfold hReserve; rw [if_pos (by simp [*]), if_neg (by omega)]
              rw [e]
              exact ⟨_, _, hS1z, rfl⟩
            · skip
              refine jbsl (vs := [_]) [_] rfl rfl rfl (by simp [len_hold]) rfl rfl (by decide) (by decide) fun B12 => j_nil <| p_jd rfl (.inl (by kernel_rfl)) <| jd_one (i := 1) (by kernel_rfl) rfl <| jcallr rfl rfl rfl (ap_0) (clone_Hold _ _ _ (by omega) _ hS) (fun _ => (ap_s <| ap_0)) fun vc => j_nil <| p_jd rfl (.inr (fun _ h => (((h.perm (fr_s <| fr_0)).perm (fr_s <| fr_0)).drop (L := [_, _])))) <| jd_one (i := 4) (by kernel_rfl) rfl <| japp rfl rfl rfl (fun w ho => Src.blk (i := 1) rfl (by simp [len_vec, len_rights, len_counter, len_lock, len_hold, len_plan, len_F])) (by simp [one_vec, one_hold, one_plan, one_F, List.all_append, -List.all_eq_true]) rfl (by decide) (by omega) (by omega) fun vB15 => j_nil <| p_jd rfl (.inl (by kernel_rfl)) <| jd_z (i := 5) rfl rfl (by kernel_rfl) (by kernel_rfl) (by kernel_rfl) (by kernel_rfl) rfl (za rfl) <| jd_done (by kernel_rfl) <| p_thn <| c_seq <| c_region <| jm rfl rfl <| jcallb rfl rfl rfl (ap_s <| ap_0) (sort_Hold (hs ++ [hNew hs i n d]) _ (by simp; omega) (by simp) (by simp)) (ap_s <| ap_0) <| j_nil <| p_thn <| c_seq <| c_region <| jm rfl rfl <| jm rfl rfl <| ja rfl rfl <| ja rfl rfl <| ja rfl rfl <| j_nil <| p_thn <| c_ret <| ?_
              refine jp_freeze fun M2z hM2z hz2 => ?_
              obtain ⟨A2z, cap2z, rfl, hS2z⟩ := frz (r := rHold) (xs := hSort (hs ++ [hNew hs i n d])) hz2 (Rows.flat (fun _ => rfl) _) (by rw [hSort_len]; simp)
              refine p_ret0 rfl rfl (.tmp rfl <| .tmp rfl <| .tmp rfl <| .nil) ?_
              have e : hReserve hs i n d = (hSort (hs ++ [hNew hs i n d]), hNum hs i, 0) := by unfold hReserve; rw [if_pos (by simp [*]), if_neg (by omega)]
              rw [e]
              exact ⟨_, _, hS2z, rfl⟩
abbrev hKey (h : Hold) : Int × Int := (h.replica, h.number)
instance : KeyI Tryz.prog 174 (Int × Int) encPair := KeyI.pair (e := 3) Tryz.underlying3
def hMap (hs : List Hold) (k : Nat) : List ((Int × Int) × Value) := (List.range k).map fun i => (hKey (ix hZ hs i), vi (i : Int))
theorem hMap_0 (hs : List Hold) : hMap hs 0 = [] := rfl
theorem hMap_succ (hs : List Hold) (k : Nat) : hMap hs (k + 1) = hMap hs k ++ [(hKey (ix hZ hs k), vi (k : Int))] := by
  unfold hMap; rw [List.range_succ, List.map_append]; rfl
theorem hRights_lt {hs : List Hold} (h : hRights hs = true) : ∀ {j i : Nat}, i < j → j < hs.length → hCmp (ix hZ hs i) (ix hZ hs j) < 0 := by
  have hall : ∀ j, j < hs.length → hOk hs j = true := fun j hj => by
    unfold hRights at h
    rw [Bool.and_eq_true] at h
    exact List.all_eq_true.1 h.1 j (List.mem_range.2 hj)
  intro j
  induction j with
  | zero => intro i hi; omega
  | succ j ih =>
    intro i hi hj
    have h1 := hall (j + 1) hj
    unfold hOk at h1
    simp at h1
    have h2 := h1.2
    rcases Nat.lt_succ_iff_lt_or_eq.1 hi with h3 | rfl
    · have h4 := ih h3 (by omega)
      rw [hCmp_lt] at *; omega
    · exact h2
theorem hMap_new {hs : List Hold} (h : hRights hs = true) {k : Nat} (hk : k < hs.length) : ∀ p ∈ hMap hs k, p.1 ≠ hKey (ix hZ hs k) := by
  intro p hp he
  obtain ⟨i, hi, rfl⟩ := List.mem_map.1 hp
  have := hRights_lt h (List.mem_range.1 hi) hk
  rw [hCmp_lt] at this
  simp only [hKey, Prod.mk.injEq] at he
  omega
def hSame (h x : Hold) : Bool := decide (hKey x = hKey h)
def hLook (hs : List Hold) (h : Hold) : Nat := (hs.findIdx? (hSame h)).getD 0
def hHas (hs : List Hold) (h : Hold) : Bool := (hs.findIdx? (hSame h)).isSome
theorem hHas_lt {hs : List Hold} {h : Hold} (hh : hHas hs h = true) : hLook hs h < hs.length := by
  unfold hHas at hh; unfold hLook
  cases e : hs.findIdx? (hSame h) with
  | none => rw [e] at hh; cases hh
  | some i => exact (List.findIdx?_eq_some_iff_getElem.1 e).1
theorem hMap_find (hs : List Hold) (h : Hold) : ((hMap hs hs.length).find? fun p => decide (p.1 = hKey h)) = (hs.findIdx? (hSame h)).map fun i => (hKey h, vi (i : Int)) := by
  have key : ∀ (n : Nat) (xs : List Hold) (o : Nat), (∀ i, i < n → xs[i]? = hs[o + i]?) → xs.length = n → o + n ≤ hs.length → (((List.range' o n).map fun i => (hKey (ix hZ hs i), vi (i : Int))).find? fun p => decide (p.1 = hKey h)) = (xs.findIdx? (hSame h)).map fun i => (hKey h, vi ((o + i : Nat) : Int)) := by
    intro n
    induction n with
    | zero => intro xs o _ hl _; have : xs = [] := List.length_eq_zero_iff.1 hl; subst this; rfl
    | succ n ih =>
      intro xs o hx hl ho
      cases xs with
      | nil => simp at hl
      | cons x xs =>
        have h0 := hx 0 (by omega)
        simp only [List.getElem?_cons_zero, Nat.add_zero] at h0
        have e0 : ix hZ hs o = x := by
          have := ix_get (z := hZ) (xs := hs) (i := o) (by omega)
          rw [← h0] at this; exact (Option.some.inj this).symm
        rw [List.range'_succ, List.map_cons, List.find?_cons, List.findIdx?_cons, e0]
        by_cases hk : hKey x = hKey h
        · simp [hSame, hk]
        · have hh : hSame h x = false := by simp [hSame, hk]
          simp only [hk, decide_false, hh, Bool.false_eq_true, if_false]
          rw [ih xs (o + 1) (fun i hi => by have := hx (i + 1) (by omega); simp only [List.getElem?_cons_succ] at this; rw [this]; congr 1; omega) (by simpa using hl) (by omega)]
          cases xs.findIdx? (hSame h) <;> simp [Nat.add_assoc, Nat.add_comm 1]
  have := key hs.length hs 0 (fun i _ => by rw [Nat.zero_add]) rfl (by omega)
  unfold hMap
  rw [List.range_eq_range', this]
  cases hs.findIdx? (hSame h) <;> simp
section
variable {cx : Cx} {Q : Post} {E : Env} {M : Mem} {L : List Ent} {ops : Array Oper} {d T : Nat} {pos : String} {af : Array Edge} {rest : List Oper} {x y z : Operand} {v u : Value}
theorem jhget {t kt et B : Nat} {hs : List Hold} {h : Hold} (i : Nat) [K : KeyI cx.P kt (Int × Int) encPair] (hn : Nat.blt d cx.n = true) (hu : cx.P.underlying t = some (.map kt et)) (hz : ∀ w, (zeroValue et).run cx.P w = .ok (vi 0) w) (hx : ev E x = some (.map (some B))) (hy : ev E y = some (encPair (hKey h)))
    (hL : L[i]? = some (.mp B (encMap encPair (hMap hs hs.length)))) (hk : J cx ops Q rest ((d, .tuple #[vi (hLook hs h : Nat), .bool (hHas hs h)]) :: E) M L) : J cx ops Q (⟨some d, .lookup t x y true, T, pos, af, none⟩ :: rest) E M L := by
  refine jmget (k := hKey h) i hn hu hz hx hy hL ?_
  rw [hMap_find]
  have e1 : (((hs.findIdx? (hSame h)).map fun i => (hKey h, vi (i : Int))).map (·.2)).getD (vi 0) = vi (hLook hs h : Nat) := by
    unfold hLook; cases hs.findIdx? (hSame h) <;> rfl
  have e2 : ((hs.findIdx? (hSame h)).map fun i => (hKey h, vi (i : Int))).isSome = hHas hs h := by
    unfold hHas; cases hs.findIdx? (hSame h) <;> rfl
  rw [e1, e2]; exact hk
end
def hStep (hs : List Hold) (cs : List Hold) (h : Hold) : Option (List Hold) :=
  if hHas hs h then
    (if (ix hZ cs (hLook hs h)).amount = h.amount ∧ (ix hZ cs (hLook hs h)).due = h.due then some (cs.set (hLook hs h) { ix hZ cs (hLook hs h) with state := max (ix hZ cs (hLook hs h)).state h.state }) else none)
  else some (cs ++ [h])
def hJoin (hs bs : List Hold) : List Hold × Int :=
  if hRights hs && hRights bs then
    match bs.foldlM (hStep hs) hs with
    | none => ([], 1)
    | some cs => if cs.length > 16 then ([], 7) else (hSort cs, 0)
  else ([], 1)
theorem foldM_take {α β : Type} {g : β → α → Option β} {b c : β} {xs : List α} {z : α} {k : Nat} (h : k < xs.length) (h1 : (xs.take k).foldlM g b = some c) : (xs.take (k + 1)).foldlM g b = g c (ix z xs k) := by
  rw [List.take_add_one, ix_get (z := z) h, List.foldlM_append, h1]
  show (g c (ix z xs k) >>= fun x => pure x) = _
  cases g c (ix z xs k) <;> rfl
theorem foldM_none {α β : Type} {g : β → α → Option β} {b c : β} {xs : List α} {z : α} {k : Nat} (h : k < xs.length) (h1 : (xs.take k).foldlM g b = some c) (h2 : g c (ix z xs k) = none) : xs.foldlM g b = none := by
  have h3 := foldM_take (z := z) h h1
  rw [h2] at h3
  rw [← List.take_append_drop (k + 1) xs, List.foldlM_append, h3]; rfl
attribute [local irreducible] hLook hHas hStep hMap

theorem hold_Join (hs bs : List Hold) (A : Option Addr) (cap : Nat) (A2 : Option Addr) (cap2 : Nat) (hl : hs.length ≤ 10000) (hl2 : bs.length ≤ 10000) (M : Mem) (hS : SlR rHold M A cap hs) (hT : SlR rHold M A2 cap2 bs) : Ctr Tryz.prog 91 [.slice A hs.length cap, .slice A2 bs.length cap2] M [] (fun v M' _ => ∃ A' cap', SlR rHold M' A' cap' (hJoin hs bs).1 ∧ v = .tuple #[.slice A' (hJoin hs bs).1.length cap', vi (hJoin hs bs).2]) := by
  refine ctr Tryz.func91 rfl Tryz.ntmps91 rfl fun w => ?_
  refine c_seq <| c_region <| ja rfl rfl <| ja rfl rfl <| j_nil <| p_thn <| c_seq <| c_seq <| c_region <| jm rfl rfl <| jcallv rfl rfl rfl (hold_Rights _ _ _ (by omega) _ hS) <| jnot rfl rfl <| jm rfl rfl <| jgs rfl rfl (fun hb1 => ?_) (fun hb1 => ?_)
  · have phb1 := hb1; try simp at phb1
    refine jg_off rfl rfl rfl hb1 <| jg_off rfl rfl rfl hb1 <| jg_off rfl rfl rfl hb1 <| jpick_t rfl rfl hb1 rfl <| j_nil <| p_thn <| c_cond_kt rfl rfl <| c_seq <| c_region <| ja rfl rfl <| ja rfl rfl <| j_nil <| p_thn <| c_ret <| p_thn_ret <| ?_
    refine p_ret0 rfl rfl (.tmp rfl <| .tmp rfl <| .nil) ?_
    refine ⟨none, 0, ?_⟩
    have e : hJoin hs bs = ([], 1) := by unfold hJoin; rw [if_neg (by simp [*])]
    rw [e]; exact ⟨SlR.nil, rfl⟩
  · have phb1 := hb1; try simp at phb1
    refine jg rfl rfl hb1 <| jm rfl rfl <| jg rfl rfl hb1 <| jcallv rfl rfl rfl (hold_Rights _ _ _ (by omega) _ hT) <| jg rfl rfl hb1 <| jnot rfl rfl <| jpick_f rfl rfl hb1 rfl <| j_nil <| p_thn <| c_cond rfl (fun hb2 => ?_) (fun hb2 => ?_)
    · have phb2 := hb2; try simp at phb2
      refine c_seq <| c_region <| ja rfl rfl <| ja rfl rfl <| j_nil <| p_thn <| c_ret <| p_thn_ret <| ?_
      refine p_ret0 rfl rfl (.tmp rfl <| .tmp rfl <| .nil) ?_
      refine ⟨none, 0, ?_⟩
      have e : hJoin hs bs = ([], 1) := by unfold hJoin; rw [if_neg (by simp [*])]
      rw [e]; exact ⟨SlR.nil, rfl⟩
    · have phb2 := hb2; try simp at phb2
      refine c_skip <| p_thn <| c_seq <| c_region <| jmm rfl fun BM => ja rfl rfl <| j_nil <| p_thn <| c_seq <| c_region <| jm rfl rfl <| jcallr rfl rfl rfl (ap_0) (clone_Hold _ _ _ (by omega) _ hS) (fun _ => (ap_s <| ap_0)) fun vc => ja rfl rfl <| j_nil <| p_thn <| c_seq <| c_seq <| c_region <| jm rfl rfl <| jlen rfl rfl <| jm rfl rfl <| j_nil <| p_thn <| c_block <| c_lpL (X := Nat) (fun k => k ≤ hs.length) (fun k => hs.length - k) (fun k => [(27, vi (k : Int))]) [26, 25, 7, 6, 5, 4, 1] (fun k => [.row vc 129 5 hs.length (hs.flatMap encHold), .mp BM (encMap encPair (hMap hs k))]) 0 ?_ (sub_c rfl <| sub_c rfl <| sub_c rfl <| sub_c rfl <| sub_c rfl <| sub_c rfl <| sub_c rfl <| sub_c rfl <| sub_n) (by rw [hMap_0]; rfl) ?_
      · exact Nat.zero_le _
      · intro k hI
        refine c_seq <| c_region <| jlss rfl rfl rfl <| j_nil <| p_thn <| c_seq <| c_cond rfl (fun hb6 => ?_) (fun hb6 => ?_)
        · have phb6 := hb6; try simp at phb6
          refine c_skip <| p_thn <| c_seq <| c_block <| c_seq <| c_region <| jm rfl rfl <| ji rfl rfl rfl (by omega) (by omega) (hS.adr (i := k) (by omega)) <| jlq rfl hS (ix_get (z := hZ) (i := k) (by omega)) (fun c h => h) rfl rfl <| jalloc rfl fun B7 => ja rfl rfl <| jstw 0 rfl rfl rfl rfl (len_hold _) (one_hold _) (len_hold _) <| j_nil <| p_thn <| c_region <| jm rfl rfl <| jfa rfl rfl rfl <| jld1 0 rfl rfl rfl rfl <| jfa rfl rfl rfl <| jld1 0 rfl rfl rfl rfl <| jbua (zc := [vi 0, vi 0]) (c := [vi (ix hZ hs k).replica, vi (ix hZ hs k).number]) rfl rfl fillp <| jm rfl rfl <| jmu (k := hKey (ix hZ hs k)) 2 Tryz.underlying173 rfl rfl rfl rfl (hMap_new phb1 (by omega)) <| j_nil <| p_inb <| p_thn <| c_region <| jadd rfl rfl rfl (by first | exact wr (by omega) (by omega) | rfl) <| jm rfl rfl <| j_nil <| jp_perm (fr_s <| fr_s <| fr_0) <| jp_perm (fr_s <| fr_s <| fr_0) <| jp_tk (ap_s <| ap_s <| ap_0) <| ?_
          refine p_lp (k + 1) ?_ ?_ (sub_c rfl <| sub_c rfl <| sub_c rfl <| sub_c rfl <| sub_c rfl <| sub_c rfl <| sub_c rfl <| sub_c rfl <| sub_n) rfl (by rw [hMap_succ])
          · omega
          · omega
        · have phb6 := hb6; try simp at phb6
          obtain rfl : k = hs.length := by omega
          refine c_exit <| p_thn_exit <| p_lp_exit <| p_inb_exit <| p_thn <| c_seq <| c_seq <| c_region <| jm rfl rfl <| jlen rfl rfl <| jm rfl rfl <| j_nil <| p_thn <| c_block <| c_lpL (X := Nat × List Hold × Value) (fun q => q.1 ≤ bs.length ∧ (bs.take q.1).foldlM (hStep hs) hs = some q.2.1 ∧ hs.length ≤ q.2.1.length ∧ q.2.1.length ≤ hs.length + q.1) (fun q => bs.length - q.1) (fun q => [(42, vi (q.1 : Int)), (7, q.2.2)]) [41, 40, 6] (fun q => [.row q.2.2 129 5 q.2.1.length (q.2.1.flatMap encHold), .mp BM (encMap encPair (hMap hs hs.length))]) (0, hs, vc) ?_ (sub_c rfl <| sub_c rfl <| sub_c rfl <| sub_c rfl <| sub_c rfl <| sub_n) (by rfl) ?_
          · exact ⟨Nat.zero_le _, rfl, Nat.le_refl _, Nat.le_refl _⟩
          · intro q hI
            obtain ⟨j, cs, u⟩ := q
            dsimp only at hI ⊢
            obtain ⟨hj, hto, hl1, hl2⟩ := hI
            refine c_seq <| c_region <| jlss rfl rfl rfl <| j_nil <| p_thn <| c_seq <| c_cond rfl (fun hb8 => ?_) (fun hb8 => ?_)
            · have phb8 := hb8; try simp at phb8
              refine c_skip <| p_thn <| c_seq <| c_block <| c_seq <| c_region <| ji rfl rfl rfl (by omega) (by omega) (hT.adr (i := j) (by omega)) <| jlq rfl hT (ix_get (z := hZ) (i := j) (by omega)) (fun c h => h) rfl rfl <| jalloc rfl fun B9 => jstw 0 rfl rfl rfl rfl (len_hold _) (one_hold _) (len_hold _) <| j_nil <| p_thn <| c_seq <| c_region <| jm rfl rfl <| jfa rfl rfl rfl <| jld1 0 rfl rfl rfl rfl <| jfa rfl rfl rfl <| jld1 0 rfl rfl rfl rfl <| jbua (zc := [vi 0, vi 0]) (c := [vi (ix hZ bs j).replica, vi (ix hZ bs j).number]) rfl rfl fillp <| jhget (h := ix hZ bs j) 2 rfl Tryz.underlying173 Tryz.zeroValue3 rfl rfl rfl <| jm rfl rfl <| jext rfl rfl rfl <| jext rfl rfl rfl <| ja rfl rfl <| ja rfl rfl <| j_nil <| p_thn <| c_block <| c_seq <| c_region <| jm rfl rfl <| jnot rfl rfl <| ja rfl rfl <| j_nil <| p_thn <| c_cond rfl (fun hb10 => ?_) (fun hb10 => ?_)
              · have phb10 := hb10; try simp at phb10
                refine c_region <| jm rfl rfl <| jldw 0 rfl rfl rfl (len_hold _) <| jbsl (vs := [_]) [_] rfl rfl rfl (by simp [len_hold]) rfl rfl (by decide) (by decide) fun B11 => j_perm (fr_s <| fr_s <| fr_0) <| japp rfl rfl rfl (fun w ho => Src.blk (i := 1) rfl (by simp [len_vec, len_rights, len_counter, len_lock, len_hold, len_plan, len_F])) (by simp [one_vec, one_hold, one_plan, one_F, List.all_append, -List.all_eq_true]) rfl (by decide) (by omega) (by omega) fun vB12 => ja rfl rfl <| j_nil <| p_inb <| p_inb <| p_thn <| c_region <| jadd rfl rfl rfl (by first | exact wr (by omega) (by omega) | rfl) <| jm rfl rfl <| j_nil <| jp_perm (fr_s <| fr_s <| fr_s <| fr_0) <| jp_perm (fr_s <| fr_0) <| jp_tk (ap_s <| ap_s <| ap_0) <| ?_
                refine p_lp ((j + 1, cs ++ [ix hZ bs j], _)) ?_ ?_ (sub_c rfl <| sub_c rfl <| sub_c rfl <| sub_c rfl <| sub_c rfl <| sub_n) rfl (by simp)
                · refine ⟨by show _ ≤ _; omega, (foldM_take (z := hZ) (by omega) hto).trans (by simp [hStep, *]), by simp; omega, by simp; omega⟩
                · show _ - _ < _ - _; omega
              · have phb10 := hb10; try simp at phb10
                have hlk := hHas_lt phb10
                have hlc : hLook hs (ix hZ bs j) < cs.length := by omega
                refine c_seq <| jc_perm (fr_s <| fr_0) <| jc_open (by first | omega | (simp; omega)) fun Bo1 capo1 rso1 hvo1 hco1 hro1 hlo1 => ?_
                subst hvo1
                refine c_draw [2, 4, 6, 7, 9, 10, 11, 12, 13, 14, 15, 16, 17] (by kernel_rfl) <| jd_z (i := 0) rfl rfl (by kernel_rfl) (by kernel_rfl) (by kernel_rfl) (by kernel_rfl) rfl (zm rfl) <| jd_z (i := 1) rfl rfl (by kernel_rfl) (by kernel_rfl) (by kernel_rfl) (by kernel_rfl) rfl (zm rfl) <| jd_first (i := 2) rfl rfl (by kernel_rfl) (by kernel_rfl) (by kernel_rfl) (by kernel_rfl) (by kernel_rfl) rfl (fun _ h => h) (yis rfl rfl (by omega) (by first | omega | (simp; omega))) <| jd_z (i := 3) rfl rfl (by kernel_rfl) (by kernel_rfl) (by kernel_rfl) (by kernel_rfl) rfl (zfa rfl rfl) <| jd_first (i := 4) rfl rfl (by kernel_rfl) (by kernel_rfl) (by kernel_rfl) (by kernel_rfl) (by kernel_rfl) rfl (fun _ h => h) (yld1 0 rfl rfl (flatk_get (i := hLook hs (ix hZ bs j)) len_hold (z := hZ) (by first | omega | (simp; omega)) rfl)) <| jd_z (i := 5) rfl rfl (by kernel_rfl) (by kernel_rfl) (by kernel_rfl) (by kernel_rfl) rfl (zfa rfl rfl) <| jd_first (i := 6) rfl rfl (by kernel_rfl) (by kernel_rfl) (by kernel_rfl) (by kernel_rfl) (by kernel_rfl) rfl (fun _ h => h) (yld1 1 rfl rfl rfl) <| jd_first (i := 7) rfl rfl (by kernel_rfl) (by kernel_rfl) (by kernel_rfl) (by kernel_rfl) (by kernel_rfl) rfl (fun _ h => h) (yneq rfl rfl) <| jd_z (i := 8) rfl rfl (by kernel_rfl) (by kernel_rfl) (by kernel_rfl) (by kernel_rfl) rfl (zm rfl) <| jd_split (j := 0) (t := 84) rfl (fun hb13 => ?_) (fun hb13 => ?_)
                · have phb13 := hb13; try simp at phb13
                  refine jd_off (i := 9) rfl rfl (by kernel_rfl) (by kernel_rfl) (by kernel_rfl) (by kernel_rfl) rfl rfl rfl hb13 <| jd_off (i := 10) rfl rfl (by kernel_rfl) (by kernel_rfl) (by kernel_rfl) (by kernel_rfl) rfl rfl rfl hb13 <| jd_off (i := 11) rfl rfl (by kernel_rfl) (by kernel_rfl) (by kernel_rfl) (by kernel_rfl) rfl rfl rfl hb13 <| jd_off (i := 12) rfl rfl (by kernel_rfl) (by kernel_rfl) (by kernel_rfl) (by kernel_rfl) rfl rfl rfl hb13 <| jd_off (i := 13) rfl rfl (by kernel_rfl) (by kernel_rfl) (by kernel_rfl) (by kernel_rfl) rfl rfl rfl hb13 <| jd_off (i := 14) rfl rfl (by kernel_rfl) (by kernel_rfl) (by kernel_rfl) (by kernel_rfl) rfl rfl rfl hb13 <| jd_off (i := 15) rfl rfl (by kernel_rfl) (by kernel_rfl) (by kernel_rfl) (by kernel_rfl) rfl rfl rfl hb13 <| jd_off (i := 16) rfl rfl (by kernel_rfl) (by kernel_rfl) (by kernel_rfl) (by kernel_rfl) rfl rfl rfl hb13 <| jd_first (i := 17) rfl rfl (by kernel_rfl) (by kernel_rfl) (by kernel_rfl) (by kernel_rfl) (by kernel_rfl) rfl (fun _ h => h) (ypick_t rfl hb13 rfl) <| jd_z (i := 18) rfl rfl (by kernel_rfl) (by kernel_rfl) (by kernel_rfl) (by kernel_rfl) rfl (za rfl) <| jd_done (by kernel_rfl) <| p_thn <| c_cond_kt rfl rfl <| c_seq <| c_region <| ja rfl rfl <| ja rfl rfl <| j_nil <| p_thn <| c_ret <| p_inb_ret <| p_inb_ret <| p_thn_ret <| p_lp_ret <| p_inb_ret <| p_thn_ret <| ?_
                  refine p_ret0 rfl rfl (.tmp rfl <| .tmp rfl <| .nil) ?_
                  refine ⟨none, 0, ?_⟩
                  have e : hJoin hs bs = ([], 1) := by unfold hJoin; rw [if_pos (by simp [*]), foldM_none (z := hZ) (by omega) hto (by simp [hStep, *])]
                  rw [e]; exact ⟨SlR.nil, rfl⟩
                · have phb13 := hb13; try simp at phb13
                  refine jd_first_g (i := 9) rfl rfl (by kernel_rfl) (by kernel_rfl) (by kernel_rfl) (by kernel_rfl) (by kernel_rfl) rfl rfl rfl hb13 (fun _ h => h) (ym rfl) <| jd_first_g (i := 10) rfl rfl (by kernel_rfl) (by kernel_rfl) (by kernel_rfl) (by kernel_rfl) (by kernel_rfl) rfl rfl rfl hb13 (fun _ h => h) (ym rfl) <| jd_first_g (i := 11) rfl rfl (by kernel_rfl) (by kernel_rfl) (by kernel_rfl) (by kernel_rfl) (by kernel_rfl) rfl rfl rfl hb13 (fun _ h => h) (yis rfl rfl (by omega) (by first | omega | (simp; omega))) <| jd_first_g (i := 12) rfl rfl (by kernel_rfl) (by kernel_rfl) (by kernel_rfl) (by kernel_rfl) (by kernel_rfl) rfl rfl rfl hb13 (fun _ h => h) (yfa rfl rfl) <| jd_first_g (i := 13) rfl rfl (by kernel_rfl) (by kernel_rfl) (by kernel_rfl) (by kernel_rfl) (by kernel_rfl) rfl rfl rfl hb13 (fun _ h => h) (yld1 0 rfl rfl (flatk_get (i := hLook hs (ix hZ bs j)) len_hold (z := hZ) (by first | omega | (simp; omega)) rfl)) <| jd_first_g (i := 14) rfl rfl (by kernel_rfl) (by kernel_rfl) (by kernel_rfl) (by kernel_rfl) (by kernel_rfl) rfl rfl rfl hb13 (fun _ h => h) (yfa rfl rfl) <| jd_first_g (i := 15) rfl rfl (by kernel_rfl) (by kernel_rfl) (by kernel_rfl) (by kernel_rfl) (by kernel_rfl) rfl rfl rfl hb13 (fun _ h => h) (yld1 1 rfl rfl rfl) <| jd_first_g (i := 16) rfl rfl (by kernel_rfl) (by kernel_rfl) (by kernel_rfl) (by kernel_rfl) (by kernel_rfl) rfl rfl rfl hb13 (fun _ h => h) (yneq rfl rfl) <| jd_first (i := 17) rfl rfl (by kernel_rfl) (by kernel_rfl) (by kernel_rfl) (by kernel_rfl) (by kernel_rfl) rfl (fun _ h => h) (ypick_f rfl hb13 rfl) <| jd_z (i := 18) rfl rfl (by kernel_rfl) (by kernel_rfl) (by kernel_rfl) (by kernel_rfl) rfl (za rfl) <| jd_done (by kernel_rfl) <| p_thn <| c_cond rfl (fun hb14 => ?_) (fun hb14 => ?_)
                  · have phb14 := hb14; try simp at phb14
                    refine c_seq <| c_region <| ja rfl rfl <| ja rfl rfl <| j_nil <| p_thn <| c_ret <| p_inb_ret <| p_inb_ret <| p_thn_ret <| p_lp_ret <| p_inb_ret <| p_thn_ret <| ?_
                    refine p_ret0 rfl rfl (.tmp rfl <| .tmp rfl <| .nil) ?_
                    refine ⟨none, 0, ?_⟩
                    have e : hJoin hs bs = ([], 1) := by unfold hJoin; rw [if_pos (by simp [*]), foldM_none (z := hZ) (by omega) hto (by simp [hStep, *])]
                    rw [e]; exact ⟨SlR.nil, rfl⟩
                  · have phb14 := hb14; try simp at phb14
                    refine c_draw [4, 6, 8, 9, 10] (by kernel_rfl) <| jd_z (i := 0) rfl rfl (by kernel_rfl) (by kernel_rfl) (by kernel_rfl) (by kernel_rfl) rfl (zm rfl) <| jd_z (i := 1) rfl rfl (by kernel_rfl) (by kernel_rfl) (by kernel_rfl) (by kernel_rfl) rfl (zm rfl) <| jd_z (i := 2) rfl rfl (by kernel_rfl) (by kernel_rfl) (by kernel_rfl) (by kernel_rfl) rfl (zm rfl) <| jd_z (i := 3) rfl rfl (by kernel_rfl) (by kernel_rfl) (by kernel_rfl) (by kernel_rfl) rfl (zm rfl) <| jd_first (i := 4) rfl rfl (by kernel_rfl) (by kernel_rfl) (by kernel_rfl) (by kernel_rfl) (by kernel_rfl) rfl (fun _ h => h) (yis rfl rfl (by omega) (by first | omega | (simp; omega))) <| jd_z (i := 5) rfl rfl (by kernel_rfl) (by kernel_rfl) (by kernel_rfl) (by kernel_rfl) rfl (zfa rfl rfl) <| jd_first (i := 6) rfl rfl (by kernel_rfl) (by kernel_rfl) (by kernel_rfl) (by kernel_rfl) (by kernel_rfl) rfl (fun _ h => h) (yld1 0 rfl rfl (flatk_get (i := hLook hs (ix hZ bs j)) len_hold (z := hZ) (by first | omega | (simp; omega)) rfl)) <| jd_z (i := 7) rfl rfl (by kernel_rfl) (by kernel_rfl) (by kernel_rfl) (by kernel_rfl) rfl (zfa rfl rfl) <| jd_first (i := 8) rfl rfl (by kernel_rfl) (by kernel_rfl) (by kernel_rfl) (by kernel_rfl) (by kernel_rfl) rfl (fun _ h => h) (yld1 1 rfl rfl rfl) <| jd_first (i := 9) rfl rfl (by kernel_rfl) (by kernel_rfl) (by kernel_rfl) (by kernel_rfl) (by kernel_rfl) rfl (fun _ h => h) (ymax rfl rfl) <| jd_first (i := 10) rfl rfl (by kernel_rfl) (by kernel_rfl) (by kernel_rfl) (by kernel_rfl) (by kernel_rfl) rfl (fun _ h => h) (yis rfl rfl (by omega) (by first | omega | (simp; omega))) <| jd_z (i := 11) rfl rfl (by kernel_rfl) (by kernel_rfl) (by kernel_rfl) (by kernel_rfl) rfl (zfa rfl rfl) <| jd_one (i := 12) (by kernel_rfl) rfl <| jst 0 rfl rfl rfl rfl rfl rfl (by rw [List.length_append, flatk_len len_hold]; simp; omega) (flatk_put1 (i := hLook hs (ix hZ bs j)) len_hold (z := hZ) (by first | omega | (simp; omega)) (by decide) uH_state) <| j_nil <| p_jd rfl (.inl (by kernel_rfl)) <| jd_done (by kernel_rfl) <| p_inb <| p_inb <| p_thn <| c_region <| jadd rfl rfl rfl (by first | exact wr (by omega) (by omega) | rfl) <| jm rfl rfl <| j_nil <| jp_shut (by first | omega | (simp; omega)) hco1 hro1 (by first | exact hlo1 | (rw [flatk_len len_hold]; simp <;> omega)) <| jp_perm (fr_s <| fr_s <| fr_0) <| jp_perm (fr_s <| fr_0) <| jp_tk (ap_s <| ap_s <| ap_0) <| ?_
                    refine p_lp ((j + 1, cs.set (hLook hs (ix hZ bs j)) { ix hZ cs (hLook hs (ix hZ bs j)) with state := max (ix hZ cs (hLook hs (ix hZ bs j))).state (ix hZ bs j).state }, _)) ?_ ?_ (sub_c rfl <| sub_c rfl <| sub_c rfl <| sub_c rfl <| sub_c rfl <| sub_n) rfl (by simp)
                    · refine ⟨by show _ ≤ _; omega, (foldM_take (z := hZ) (by omega) hto).trans (by simp [hStep, *]), by simp; omega, by simp; omega⟩
                    · show _ - _ < _ - _; omega
            · have phb8 := hb8; try simp at phb8
              refine c_exit <| p_thn_exit <| p_lp_exit <| p_inb_exit <| p_thn <| c_seq <| c_seq <| c_region <| jm rfl rfl <| jrlen 0 rfl rfl rfl <| jgtr rfl rfl rfl <| j_nil <| p_thn <| c_cond rfl (fun hb15 => ?_) (fun hb15 => ?_)
              · have phb15 := hb15; try simp at phb15
                refine c_seq <| c_region <| ja rfl rfl <| ja rfl rfl <| j_nil <| p_thn <| c_ret <| p_thn_ret <| ?_
                refine p_ret0 rfl rfl (.tmp rfl <| .tmp rfl <| .nil) ?_
                refine ⟨none, 0, ?_⟩
                have e : hJoin hs bs = ([], 7) := by unfold hJoin; (obtain rfl : j = bs.length := by omega); rw [List.take_length] at hto; rw [if_pos (by simp [*]), hto]; exact if_pos (by omega)
                rw [e]; exact ⟨SlR.nil, rfl⟩
              · have phb15 := hb15; try simp at phb15
                refine c_skip <| p_thn <| c_seq <| c_region <| jm rfl rfl <| jcallb rfl rfl rfl (ap_s <| ap_0) (sort_Hold cs _ (by omega) rfl rfl) (ap_s <| ap_0) <| j_nil <| p_thn <| c_seq <| c_region <| jm rfl rfl <| ja rfl rfl <| ja rfl rfl <| j_nil <| p_thn <| c_ret <| ?_
                refine jp_freeze fun M1z hM1z hz1 => ?_
                obtain ⟨A1z, cap1z, rfl, hS1z⟩ := frz (r := rHold) (xs := hSort cs) hz1 (Rows.flat (fun _ => rfl) _) (by rw [hSort_len])
                refine p_ret0 rfl rfl (.tmp rfl <| .tmp rfl <| .nil) ?_
                have e : hJoin hs bs = (hSort cs, 0) := by unfold hJoin; (obtain rfl : j = bs.length := by omega); rw [List.take_length] at hto; rw [if_pos (by simp [*]), hto]; exact if_neg (by omega)
                rw [e]; exact ⟨_, _, hS1z, rfl⟩
end Go.Proofs.YtihgpbpcbbgdiaaGreat

/- Plain facts on lists of holds. -/
namespace Go.Proofs.YtihgpbpcbbgdiaaGreat
open Go.RowKit Go.Sort
set_option linter.unusedVariables false
set_option linter.unusedSimpArgs false
theorem pdqL_sorted {α : Type} [Inhabited α] {cf : α → α → Int} (hO : SWO (ltOf cf)) (xs : List α) : (pdqL cf xs).Pairwise (fun a b => ltOf cf b a = false) := by
  have h := pdq_sorts (ltOf cf) hO xs.toArray 0 xs.toArray.size (Go.Lib.bitLen xs.toArray.size) true true (Nat.zero_le _) (Nat.le_refl _) (Or.inl rfl)
  unfold pdqL
  generalize pdq (ltOf cf) xs.toArray 0 xs.toArray.size (Go.Lib.bitLen xs.toArray.size) true true = d at h ⊢
  obtain ⟨⟨h1, _, _⟩, h2⟩ := h
  rw [List.pairwise_iff_getElem]
  intro i j hi hj hij
  have hj' : j < d.size := by simpa using hj
  have := h2 i j (Nat.zero_le _) hij (by rw [← h1]; exact hj')
  rw [getElem!_pos d j hj', getElem!_pos d i (by omega)] at this
  simpa using this
theorem hKey_inj {a b : Hold} : hCmp a b < 0 ∨ hCmp b a < 0 ∨ hKey a = hKey b := by
  rw [hCmp_lt, hCmp_lt]; simp only [hKey, Prod.mk.injEq]; omega
theorem hRights_iff (hs : List Hold) : hRights hs = true ↔ (∀ h ∈ hs, hRight h = true) ∧ hs.Pairwise (fun a b => hCmp a b < 0) ∧ hs.length ≤ 16 := by
  constructor
  · intro h
    have hlt := fun {j i : Nat} => hRights_lt h (j := j) (i := i)
    unfold hRights at h
    simp only [Bool.and_eq_true, decide_eq_true_eq] at h
    refine ⟨fun x hx => ?_, ?_, h.2⟩
    · obtain ⟨i, hi, rfl⟩ := List.getElem_of_mem hx
      have := List.all_eq_true.1 h.1 i (List.mem_range.2 hi)
      unfold hOk at this
      rw [Bool.and_eq_true, ix_eq hi] at this
      exact this.1
    · rw [List.pairwise_iff_getElem]
      intro i j hi hj hij
      have := hlt hij hj
      rwa [ix_eq hi, ix_eq hj] at this
  · rintro ⟨h1, h2, h3⟩
    unfold hRights
    simp only [Bool.and_eq_true, decide_eq_true_eq, h3, and_true]
    rw [List.all_eq_true]
    intro i hi
    have hi' := List.mem_range.1 hi
    unfold hOk
    rw [ix_eq hi', h1 _ (List.getElem_mem _), Bool.true_and]
    by_cases e : i = 0
    · simp [e]
    · rw [List.pairwise_iff_getElem] at h2
      have := h2 (i - 1) i (by omega) hi' (by omega)
      rw [ix_eq (show i - 1 < hs.length by omega)]
      simp [this]
theorem hRights_nodup {hs : List Hold} (h : hRights hs = true) : (hs.map hKey).Nodup := by
  rw [hRights_iff] at h
  unfold List.Nodup
  rw [List.pairwise_map]
  exact h.2.1.imp (fun {a b} hab e => by rw [hCmp_lt] at hab; simp only [hKey, Prod.mk.injEq] at e; omega)
theorem hRights_sort {hs : List Hold} (h1 : ∀ h ∈ hs, hRight h = true) (h2 : (hs.map hKey).Nodup) (h3 : hs.length ≤ 16) : hRights (hSort hs) = true := by
  rw [hRights_iff]
  have hp := hSort_perm hs
  refine ⟨fun h hh => h1 h (hp.mem_iff.1 hh), ?_, by rw [hSort_len]; exact h3⟩
  have h4 : ((hSort hs).map hKey).Nodup := (hp.map hKey).nodup_iff.2 h2
  have h5 := pdqL_sorted hCmp_swo hs
  unfold List.Nodup at h4
  rw [List.pairwise_map] at h4
  refine (h4.and h5).imp (fun {a b} hab => ?_)
  have h6 : ¬ hCmp b a < 0 := by have := hab.2; unfold ltOf at this; simpa using this
  rcases hKey_inj (a := a) (b := b) with h | h | h
  · exact h
  · exact absurd h h6
  · exact absurd h hab.1
theorem nodup_of_map {α β : Type} {f : α → β} {l : List α} (h : (l.map f).Nodup) : l.Nodup := List.Pairwise.of_map f (fun _ _ h e => h (congrArg f e)) h
/-- rights lists with the same holds are the same -/
theorem hRights_ext {hs bs : List Hold} (h : hRights hs = true) (hb : hRights bs = true) (he : ∀ x, x ∈ hs ↔ x ∈ bs) : hs = bs := by
  have n1 : hs.Nodup := nodup_of_map (hRights_nodup h)
  have n2 : bs.Nodup := nodup_of_map (hRights_nodup hb)
  have hp : hs.Perm bs := (List.perm_ext_iff_of_nodup n1 n2).2 he
  rw [hRights_iff] at h hb
  refine hp.eq_of_pairwise (le := fun a b => hCmp a b < 0) (fun a b _ _ h1 h2 => ?_) h.2.1 hb.2.1
  rw [hCmp_lt] at h1 h2; omega
theorem hSort_eq {hs : List Hold} (h : hRights hs = true) : hSort hs = hs := by
  have h1 := (hRights_iff hs).1 h
  exact hRights_ext (hRights_sort h1.1 (hRights_nodup h) h1.2.2) h (fun x => (hSort_perm hs).mem_iff)
/-! sums -/
theorem perm_sum {l l' : List Int} (h : l.Perm l') : l.sum = l'.sum := by
  induction h with
  | nil => rfl
  | cons x _ ih => simp [ih]
  | swap x y l => simp; omega
  | trans _ _ h1 h2 => exact h1.trans h2
def held (r : Int) (h : Hold) : Bool := decide (h.replica = r) && decide (h.state = 1)
def hPlain (hs : List Hold) (r : Int) : Int := ((hs.filter (held r)).map (·.amount)).sum
theorem hPlain_perm {hs bs : List Hold} (h : hs.Perm bs) (r : Int) : hPlain hs r = hPlain bs r := by
  unfold hPlain
  exact perm_sum ((h.filter _).map _)
end Go.Proofs.YtihgpbpcbbgdiaaGreat
