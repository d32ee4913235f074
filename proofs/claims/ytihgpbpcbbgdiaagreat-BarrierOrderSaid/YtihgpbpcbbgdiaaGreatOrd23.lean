/- Several texts in one. -/
import Derived.Test.YtihgpbpcbbgdiaaGreatOrd20
import Derived.Test.YtihgpbpcbbgdiaaGreatOrd22
import Derived.Test.YtihgpbpcbbgdiaaGreatOrd19
/- plan.Fits. -/
namespace Go.Proofs.YtihgpbpcbbgdiaaGreat
open Go.RowKit
set_option linter.unusedVariables false
set_option linter.unusedSimpArgs false
/-- what lends nothing leaves what is lent -/
theorem Ctr.frame {P : Program} {f : FuncId} {args : List Value} {M : Mem} {r : Value} (Lt : List Ent) (h : Ctr P f args M [] (fun v _ _ => v = r)) : Ctr P f args M Lt (fun v _ L' => v = r ∧ L' = Lt) := fun w ho => by
  have ho' : Own ⟨P, 0, w, blks Lt, M, []⟩ M w ([] ++ Lt) := ho
  refine (h w ho'.lend).mono ?_
  rintro e w' ⟨v, M', L', rfl, rfl, h2⟩
  exact ⟨_, M', Lt, rfl, ⟨rfl, rfl⟩, (ho'.call h2).drop⟩
/-- fields that lie in a row, their holds known -/
def FSk (M : Mem) (ts : List FS) : Prop := ∀ s ∈ ts, SlR rHold M s.A s.cap s.f.holds
theorem FSk.nil {M : Mem} : FSk M [] := fun s hs => absurd hs List.not_mem_nil
theorem FSk.mono {M M' : Mem} {ts : List FS} (hm : MLe M M') (h : FSk M ts) : FSk M' ts := fun s hs => (h s hs).mono hm
theorem FSk.app {M : Mem} {ts : List FS} {s : FS} (h : FSk M ts) (hs : SlR rHold M s.A s.cap s.f.holds) : FSk M (ts ++ [s]) := fun t ht => by
  rcases List.mem_append.1 ht with ht | ht
  · exact h t ht
  · rw [List.mem_singleton.1 ht]; exact hs
theorem FSk.rows {M : Mem} : ∀ {ts : List FS}, FSk M ts → Rows rField M (ts.map FS.f) (ts.flatMap encS)
  | [], _ => Rows.nil
  | s :: ts, h => by
    have h1 : Rows rField M [s.f] (encS s) := Rows.single ⟨s.A, s.cap, rfl, h s List.mem_cons_self⟩
    have h2 : Rows rField M (ts.map FS.f) (ts.flatMap encS) := FSk.rows (fun t ht => h t (List.mem_cons_of_mem _ ht))
    exact h1.app h2
def plTouched (l : List Field) (p : Plan) : List Field := (plNames p).map fun s => ix fZ l (plFind l s).toNat
def isHeld (h : Hold) : Bool := decide (h.state = 1)
def plFits (l : List Field) (p : Plan) : Int :=
  if plFields l = false then 1 else if plRight p = false then 14 else
  if (plNames p).all (fun s => decide (0 ≤ plFind l s)) = false then 10 else
  if p.kind = 5 ∧ 0 ≤ plFind l p.other then 11 else if p.kind = 5 ∧ l.length = 4 then 7 else
  if (plTouched l p).any (fun f => decide (f.kind ≠ if p.kind = 4 then 2 else 1)) = true then 17 else
  if (plTouched l p).any (fun f => f.holds.any isHeld) = true then 12 else 0
theorem map_take_succ {α β : Type} {g : α → β} {z : α} {xs : List α} {k : Nat} (h : k < xs.length) : (xs.take k).map g ++ [g (ix z xs k)] = (xs.take (k + 1)).map g := by
  rw [List.take_add_one, ix_get (z := z) h, List.map_append]; rfl
theorem take_all' {α : Type} {p : α → Bool} {z : α} {xs : List α} {k : Nat} (h : k < xs.length) (h1 : (xs.take k).all p = true) (h2 : p (ix z xs k) = true) : (xs.take (k + 1)).all p = true := by
  rw [List.take_add_one, ix_get (z := z) h, List.all_append, h1]; simpa using h2
theorem all_not' {α : Type} {p : α → Bool} {z : α} {xs : List α} {k : Nat} (h : k < xs.length) (h2 : p (ix z xs k) = false) : xs.all p = false := by
  rw [List.all_eq_false]
  exact ⟨ix z xs k, by rw [ix_eq h]; exact List.getElem_mem _, by rw [h2]; decide⟩
theorem touched_ok {l : List Field} {p : Plan} (hf : FsOk l) (h : (plNames p).all (fun s => decide (0 ≤ plFind l s)) = true) (hn : (plNames p).length ≤ 2) : FsOk (plTouched l p) := by
  refine ⟨by unfold plTouched; simp; omega, fun f hm => ?_⟩
  unfold plTouched at hm
  obtain ⟨s, hs, rfl⟩ := List.mem_map.1 hm
  have := List.all_eq_true.1 h s hs
  exact hf.2 _ (ix_mem (plFind_lt (by simpa using this)))
theorem names_len (p : Plan) : (plNames p).length ≤ 2 := by unfold plNames; split <;> simp
theorem names_sz {p : Plan} (h1 : p.name.size ≤ 100000) (h2 : p.other.size ≤ 100000) : ∀ s ∈ plNames p, s.size ≤ 100000 := by
  unfold plNames; split <;> simp [*]
attribute [local irreducible] plFields plRight plFind plNames

theorem plan_Fits1 (f : Field) (A : Option Addr) (cap : Nat) (k : Int) {X : Nat} (M : Mem) : Ctr Tryz.prog 80 [.agg (encF f A cap).toArray, .pointer (some ⟨X, 0, none⟩)] M [.blk X 3 [vi k]] (fun v _ L' => v = .bool (decide (f.kind ≠ k)) ∧ L' = [.blk X 3 [vi k]]) := by
  refine ctr Tryz.func80 rfl Tryz.ntmps80 rfl fun w => ?_
  refine c_seq <| c_region <| jbox rfl rfl rfl fun B1 => ja rfl rfl <| j_nil <| p_thn <| c_seq <| c_region <| jfa rfl rfl rfl <| jld1 0 rfl rfl rfl rfl <| jld1 1 rfl rfl rfl rfl <| jneq rfl rfl rfl <| ja rfl rfl <| j_nil <| p_thn <| c_ret <| ?_
  refine jp_perm (fr_s <| fr_0) <| ?_
  refine p_retK (ap_s <| ap_0) rfl rfl (.tmp rfl <| .nil) ?_
  exact ⟨rfl, rfl⟩
theorem plan_Fits2 (h : Hold) (M : Mem) : Ctr Tryz.prog 81 [.agg (encHold h).toArray] M [] (fun v _ _ => v = .bool (isHeld h)) := by
  refine ctr Tryz.func81 rfl Tryz.ntmps81 rfl fun w => ?_
  refine c_seq <| c_region <| jbox rfl rfl rfl fun B1 => ja rfl rfl <| j_nil <| p_thn <| c_seq <| c_region <| jfa rfl rfl rfl <| jld1 0 rfl rfl rfl rfl <| jeql rfl rfl rfl <| ja rfl rfl <| j_nil <| p_thn <| c_ret <| ?_
  refine p_ret0 rfl rfl (.tmp rfl <| .nil) ?_
  rfl
theorem plan_Fits3 (f : Field) (A : Option Addr) (cap : Nat) {X : Nat} (M : Mem) (hl : f.holds.length ≤ 10000) (hS : SlR rHold M A cap f.holds) : Ctr Tryz.prog 82 [.agg (encF f A cap).toArray, .pointer (some ⟨X, 0, none⟩)] M [.blk X 130 [.func (.func 81) #[] #[]]] (fun v _ L' => v = .bool (f.holds.any isHeld) ∧ L' = [.blk X 130 [.func (.func 81) #[] #[]]]) := by
  refine ctr Tryz.func82 rfl Tryz.ntmps82 rfl fun w => ?_
  refine c_seq <| c_region <| jbox rfl rfl rfl fun B1 => ja rfl rfl <| j_nil <| p_thn <| c_seq <| c_region <| jfa rfl rfl rfl <| jld1 0 rfl rfl rfl (pF_holds _ _ _) <| jld1 1 rfl rfl rfl rfl <| jcallv rfl rfl rfl ((containsFunc_Hold (Lt := []) f.holds _ _ isHeld (by omega) _ hS (fun h => Ctr.frame [] (plan_Fits2 h _))).mono fun v _ _ hv => hv.1) <| ja rfl rfl <| j_nil <| p_thn <| c_ret <| ?_
  refine jp_perm (fr_s <| fr_0) <| ?_
  refine p_retK (ap_s <| ap_0) rfl rfl (.tmp rfl <| .nil) ?_
  exact ⟨rfl, rfl⟩
theorem plan_Fits (l : List Field) (A : Option Addr) (cap : Nat) (hf : FsOk l) (p : Plan) (hs1 : p.name.size ≤ 100000) (hs2 : p.other.size ≤ 100000) (M : Mem) (hS : SlR rField M A cap l) : Ctr Tryz.prog 32 [.slice A l.length cap, .agg (encPlan p).toArray] M [] (fun v _ _ => v = vi (plFits l p)) := by
  have hl := hf.1
  have hnl := names_len p
  refine ctr Tryz.func32 rfl Tryz.ntmps32 rfl fun w => ?_
  refine c_seq <| c_region <| jbox rfl rfl rfl fun B1 => ja rfl rfl <| j_nil <| p_thn <| c_seq <| c_block <| c_seq <| c_region <| jm rfl rfl <| jcallv rfl rfl rfl (plan_Fields _ _ _ hf _ hS) <| jnot rfl rfl <| ja rfl rfl <| j_nil <| p_thn <| c_cond rfl (fun hb2 => ?_) (fun hb2 => ?_)
  · have phb2 := hb2; try simp at phb2
    refine c_seq <| c_region <| ja rfl rfl <| j_nil <| p_thn <| c_ret <| p_inb_ret <| p_thn_ret <| ?_
    refine p_ret0 rfl rfl (.tmp rfl <| .nil) ?_
    show vi _ = vi _
    congr 1; symm
    unfold plFits
    rw [if_pos phb2]
  · have phb2 := hb2; try simp at phb2
    refine c_seq <| c_region <| jldw 0 rfl rfl rfl (len_plan _) <| jcallv rfl rfl rfl (plan_Right _ hs1 hs2 _) <| jnot rfl rfl <| ja rfl rfl <| j_nil <| p_thn <| c_cond rfl (fun hb3 => ?_) (fun hb3 => ?_)
    · have phb3 := hb3; try simp at phb3
      refine c_seq <| c_region <| ja rfl rfl <| j_nil <| p_thn <| c_ret <| p_inb_ret <| p_thn_ret <| ?_
      refine p_ret0 rfl rfl (.tmp rfl <| .nil) ?_
      show vi _ = vi _
      congr 1; symm
      unfold plFits
      rw [if_neg (by simp [*]), if_pos phb3]
    · have phb3 := hb3; try simp at phb3
      refine c_skip <| p_inb <| p_thn <| c_seq <| c_region <| ja rfl rfl <| j_nil <| p_thn <| c_seq <| c_seq <| c_region <| jldw 0 rfl rfl rfl (len_plan _) <| jcalls rfl rfl rfl (plan_names _ _) fun A1c cap1c M1c hM1c hS1c => jlen rfl rfl <| jm rfl rfl <| j_nil <| p_thn <| c_block <| jc_nilrow none 49 587 <| c_lpL (X := Nat × List FS × Value) (fun q => q.1 ≤ (plNames p).length ∧ ((plNames p).take q.1).all (fun s => decide (0 ≤ plFind l s)) = true ∧ q.2.1.map FS.f = ((plNames p).take q.1).map (fun s => ix fZ l (plFind l s).toNat) ∧ FSk M1c q.2.1) (fun q => (plNames p).length - q.1) (fun q => [(25, vi (q.1 : Int)), (5, q.2.2)]) [24, 23, 3, 0] (fun q => [.row q.2.2 49 587 q.2.1.length (q.2.1.flatMap encS), .blk B1 24 (encPlan p)]) (0, [], _) ?_ (sub_c rfl <| sub_c rfl <| sub_c rfl <| sub_c rfl <| sub_c rfl <| sub_c rfl <| sub_n) (by rfl) ?_
      · exact ⟨Nat.zero_le _, rfl, rfl, FSk.nil⟩
      · intro q hI
        obtain ⟨k, ts, u⟩ := q
        dsimp only at hI ⊢
        obtain ⟨hk, hall, hts, hfk⟩ := hI
        have htl : ts.length = k := by { have := congrArg List.length hts; simp at this; omega }
        refine c_seq <| c_region <| jlss rfl rfl rfl <| j_nil <| p_thn <| c_seq <| c_cond rfl (fun hb5 => ?_) (fun hb5 => ?_)
        · have phb5 := hb5; try simp at phb5
          refine c_skip <| p_thn <| c_seq <| c_block <| c_seq <| c_region <| ji rfl rfl rfl (by omega) (by omega) (hS1c.adr (i := k) (by omega)) <| jle1 (o := 0) rfl hS1c (ix_get (z := nil_) (i := k) (by omega)) rfl (fun c h => by cases h; rfl) <| ja rfl rfl <| j_nil <| p_thn <| c_seq <| c_region <| jm rfl rfl <| jm rfl rfl <| jcallv rfl rfl rfl (plan_Find _ _ _ hf _ _ (hS.mono hM1c)) <| jm rfl rfl <| jext rfl rfl rfl <| jext rfl rfl rfl <| ja rfl rfl <| ja rfl rfl <| j_nil <| p_thn <| c_seq <| c_seq <| c_region <| jm rfl rfl <| jnot rfl rfl <| j_nil <| p_thn <| c_cond rfl (fun hb6 => ?_) (fun hb6 => ?_)
          · have phb6 := hb6; try simp at phb6
            refine c_seq <| c_region <| ja rfl rfl <| j_nil <| p_thn <| c_ret <| p_thn_ret <| p_inb_ret <| p_thn_ret <| p_lp_ret <| p_inb_ret <| p_thn_ret <| ?_
            refine p_ret0 rfl rfl (.tmp rfl <| .nil) ?_
            show vi _ = vi _
            congr 1; symm
            unfold plFits
            rw [if_neg (by simp [*]), if_neg (by simp [*]), if_pos (all_not' (z := nil_) (k := k) (by omega) (by simpa using phb6))]
          · have phb6 := hb6; try simp at phb6
            obtain ⟨n, hn⟩ : ∃ n : Nat, plFind l (ix nil_ (plNames p) k) = n := ⟨_, (Int.toNat_of_nonneg phb6).symm⟩
            have hnl2 : n < l.length := by { have := plFind_lt phb6; rw [hn] at this; simpa using this }
            rw [hn, show max (n : Int) 0 = n by omega]
            refine c_skip <| p_thn <| c_region <| jm rfl rfl <| jm rfl rfl <| jm rfl rfl <| ji rfl rfl rfl (by omega) (by omega) ((hS.mono hM1c).adr (i := n) (by omega)) <| jle rfl (hS.mono hM1c) (ix_get (z := fZ) (i := n) (by omega)) rfl rfl fun c41 hc41 => ?_
            obtain ⟨Af41, capf41, rfl, hH41⟩ := hc41
            refine jbsl (vs := [_]) [_] rfl rfl rfl (by simp [len_F]) rfl (len_F _ _ _) (by decide) (by decide) fun B7 => j_perm (fr_s <| fr_0) <| japp rfl rfl rfl (fun w ho => Src.blk (i := 1) rfl (by simp [len_vec, len_rights, len_counter, len_lock, len_hold, len_plan, len_F])) (by simp [one_vec, one_hold, one_plan, one_F, List.all_append, -List.all_eq_true]) (len_F _ _ _) (by decide) (by omega) (by omega) fun vB8 => ja rfl rfl <| j_nil <| p_inb <| p_thn <| c_region <| jadd rfl rfl rfl (by first | exact wr (by omega) (by omega) | rfl) <| jm rfl rfl <| j_nil <| jp_perm (fr_s <| fr_s <| fr_0) <| jp_perm (fr_s <| fr_0) <| jp_tk (ap_s <| ap_s <| ap_0) <| ?_
            refine p_lp ((k + 1, ts ++ [⟨ix fZ l n, Af41, capf41⟩], _)) ?_ ?_ (sub_c rfl <| sub_c rfl <| sub_c rfl <| sub_c rfl <| sub_c rfl <| sub_c rfl <| sub_n) rfl (by simp)
            · refine ⟨by omega, take_all' (z := nil_) (by omega) hall (by simpa using phb6), ?_, hfk.app hH41⟩
              rw [List.map_append, hts, ← map_take_succ (z := nil_) (by omega), hn]; simp
            · omega
        · have phb5 := hb5; try simp at phb5
          have hke : k = (plNames p).length := by omega
          rw [hke, List.take_length] at hall hts
          have hfts : FsOk (ts.map FS.f) := by rw [hts]; exact touched_ok hf hall hnl
          refine c_exit <| p_thn_exit <| p_lp_exit <| p_inb_exit <| p_thn <| c_seq <| c_seq <| c_region <| jm rfl rfl <| jfa rfl rfl rfl <| jld1 1 rfl rfl rfl rfl <| jcallv rfl rfl rfl (plan_Find _ _ _ hf _ _ (hS.mono hM1c)) <| jm rfl rfl <| jext rfl rfl rfl <| jext rfl rfl rfl <| ja rfl rfl <| ja rfl rfl <| j_nil <| p_thn <| c_seq <| c_region <| jfa rfl rfl rfl <| jld1 1 rfl rfl rfl rfl <| jeql rfl rfl rfl <| j_nil <| p_thn <| c_cond rfl (fun hb9 => ?_) (fun hb9 => ?_)
          · have phb9 := hb9; try simp at phb9
            refine c_block <| c_seq <| c_region <| jm rfl rfl <| ja rfl rfl <| j_nil <| p_thn <| c_cond rfl (fun hb10 => ?_) (fun hb10 => ?_)
            · have phb10 := hb10; try simp at phb10
              refine c_seq <| c_region <| ja rfl rfl <| j_nil <| p_thn <| c_ret <| p_inb_ret <| p_thn_ret <| ?_
              refine p_ret0 rfl rfl (.tmp rfl <| .nil) ?_
              have ht : plTouched l p = ts.map FS.f := hts.symm
              show vi _ = vi _
              congr 1; symm
              unfold plFits
              rw [ht, if_neg (by simp [*]), if_neg (by simp [*]), if_neg (by rw [hall]; simp)]
              rw [if_pos ⟨phb9, phb10⟩]
            · have phb10 := hb10; try simp at phb10
              refine c_seq <| c_region <| jm rfl rfl <| jlen rfl rfl <| jeql rfl rfl rfl <| ja rfl rfl <| j_nil <| p_thn <| c_cond rfl (fun hb11 => ?_) (fun hb11 => ?_)
              · have phb11 := hb11; try simp at phb11
                refine c_seq <| c_region <| ja rfl rfl <| j_nil <| p_thn <| c_ret <| p_inb_ret <| p_thn_ret <| ?_
                refine p_ret0 rfl rfl (.tmp rfl <| .nil) ?_
                have ht : plTouched l p = ts.map FS.f := hts.symm
                show vi _ = vi _
                congr 1; symm
                unfold plFits
                rw [ht, if_neg (by simp [*]), if_neg (by simp [*]), if_neg (by rw [hall]; simp)]
                rw [if_neg (fun h => by omega), if_pos ⟨phb9, by omega⟩]
              · have phb11 := hb11; try simp at phb11
                refine c_skip <| p_inb <| p_thn <| c_seq <| c_region <| jalloc (c := [vi 0]) rfl fun B12 => jstw 0 rfl rfl rfl rfl rfl rfl rfl <| j_nil <| p_thn <| c_seq <| c_seq <| c_region <| jfa rfl rfl rfl <| jld1 2 rfl rfl rfl rfl <| jeql rfl rfl rfl <| j_nil <| p_thn <| c_cond rfl (fun hb13 => ?_) (fun hb13 => ?_)
                · have phb13 := hb13; try simp at phb13
                  refine c_region <| jstw 0 rfl rfl rfl rfl rfl rfl rfl <| j_nil <| p_thn <| c_seq <| c_seq <| c_region <| j_perm (fr_s <| fr_0) <| j_freeze fun M1z hM1z hz1 => ?_
                  obtain ⟨A1z, cap1z, rfl, hS1z⟩ := frz (r := rField) (xs := (ts.map FS.f)) hz1 (hfk.mono hM1z).rows (by simp)
                  refine jm rfl rfl <| jfunc rfl rfl rfl <| jcallb rfl rfl rfl (ap_s <| ap_0) (containsFunc_Field _ _ _ hfts (fun f => decide (f.kind ≠ _)) _ hS1z (fun f _ A cap _ => plan_Fits1 f A cap _ _)) (ap_s <| ap_0) <| j_nil <| p_thn <| c_cond rfl (fun hb14 => ?_) (fun hb14 => ?_)
                  · have phb14 := hb14; try simp at phb14
                    refine c_seq <| c_region <| ja rfl rfl <| j_nil <| p_thn <| c_ret <| p_thn_ret <| ?_
                    refine p_ret0 rfl rfl (.tmp rfl <| .nil) ?_
                    have ht : plTouched l p = ts.map FS.f := hts.symm
                    show vi _ = vi _
                    congr 1; symm
                    unfold plFits
                    rw [ht, if_neg (by simp [*]), if_neg (by simp [*]), if_neg (by rw [hall]; simp)]
                    rw [if_neg (fun h => by omega), if_neg (fun h => by omega)]
                    rw [show (if p.kind = 4 then (2 : Int) else 1) = 2 from if_pos phb13]
                    rw [if_pos hb14]
                  · have phb14 := hb14; try simp at phb14
                    refine c_skip <| p_thn <| c_seq <| c_region <| jalloc (c := [.nilFunc]) rfl fun B15 => jstw 0 rfl rfl rfl rfl rfl rfl rfl <| j_nil <| p_thn <| c_seq <| c_seq <| c_region <| jm rfl rfl <| jfunc rfl rfl rfl <| jcallb rfl rfl rfl (ap_s <| ap_0) (containsFunc_Field _ _ _ hfts (fun f => f.holds.any isHeld) _ hS1z (fun f hm A cap hH => plan_Fits3 f A cap _ (hfts.2 f hm).1 hH)) (ap_s <| ap_0) <| j_nil <| p_thn <| c_cond rfl (fun hb16 => ?_) (fun hb16 => ?_)
                    · have phb16 := hb16; try simp at phb16
                      refine c_seq <| c_region <| ja rfl rfl <| j_nil <| p_thn <| c_ret <| p_thn_ret <| ?_
                      refine p_ret0 rfl rfl (.tmp rfl <| .nil) ?_
                      have ht : plTouched l p = ts.map FS.f := hts.symm
                      show vi _ = vi _
                      congr 1; symm
                      unfold plFits
                      rw [ht, if_neg (by simp [*]), if_neg (by simp [*]), if_neg (by rw [hall]; simp)]
                      rw [if_neg (fun h => by omega), if_neg (fun h => by omega)]
                      rw [show (if p.kind = 4 then (2 : Int) else 1) = 2 from if_pos phb13]
                      rw [if_neg (by rw [hb14]; decide), if_pos hb16]
                    · have phb16 := hb16; try simp at phb16
                      refine c_skip <| p_thn <| c_seq <| c_region <| ja rfl rfl <| j_nil <| p_thn <| c_ret <| ?_
                      refine p_ret0 rfl rfl (.tmp rfl <| .nil) ?_
                      have ht : plTouched l p = ts.map FS.f := hts.symm
                      show vi _ = vi _
                      congr 1; symm
                      unfold plFits
                      rw [ht, if_neg (by simp [*]), if_neg (by simp [*]), if_neg (by rw [hall]; simp)]
                      rw [if_neg (fun h => by omega), if_neg (fun h => by omega)]
                      rw [show (if p.kind = 4 then (2 : Int) else 1) = 2 from if_pos phb13]
                      rw [if_neg (by rw [hb14]; decide), if_neg (by rw [hb16]; decide)]
                · have phb13 := hb13; try simp at phb13
                  refine c_skip <| p_thn <| c_seq <| c_seq <| c_region <| j_perm (fr_s <| fr_0) <| j_freeze fun M2z hM2z hz2 => ?_
                  obtain ⟨A2z, cap2z, rfl, hS2z⟩ := frz (r := rField) (xs := (ts.map FS.f)) hz2 (hfk.mono hM2z).rows (by simp)
                  refine jm rfl rfl <| jfunc rfl rfl rfl <| jcallb rfl rfl rfl (ap_s <| ap_0) (containsFunc_Field _ _ _ hfts (fun f => decide (f.kind ≠ _)) _ hS2z (fun f _ A cap _ => plan_Fits1 f A cap _ _)) (ap_s <| ap_0) <| j_nil <| p_thn <| c_cond rfl (fun hb17 => ?_) (fun hb17 => ?_)
                  · have phb17 := hb17; try simp at phb17
                    refine c_seq <| c_region <| ja rfl rfl <| j_nil <| p_thn <| c_ret <| p_thn_ret <| ?_
                    refine p_ret0 rfl rfl (.tmp rfl <| .nil) ?_
                    have ht : plTouched l p = ts.map FS.f := hts.symm
                    show vi _ = vi _
                    congr 1; symm
                    unfold plFits
                    rw [ht, if_neg (by simp [*]), if_neg (by simp [*]), if_neg (by rw [hall]; simp)]
                    rw [if_neg (fun h => by omega), if_neg (fun h => by omega)]
                    rw [show (if p.kind = 4 then (2 : Int) else 1) = 1 from if_neg (by omega)]
                    rw [if_pos hb17]
                  · have phb17 := hb17; try simp at phb17
                    refine c_skip <| p_thn <| c_seq <| c_region <| jalloc (c := [.nilFunc]) rfl fun B18 => jstw 0 rfl rfl rfl rfl rfl rfl rfl <| j_nil <| p_thn <| c_seq <| c_seq <| c_region <| jm rfl rfl <| jfunc rfl rfl rfl <| jcallb rfl rfl rfl (ap_s <| ap_0) (containsFunc_Field _ _ _ hfts (fun f => f.holds.any isHeld) _ hS2z (fun f hm A cap hH => plan_Fits3 f A cap _ (hfts.2 f hm).1 hH)) (ap_s <| ap_0) <| j_nil <| p_thn <| c_cond rfl (fun hb19 => ?_) (fun hb19 => ?_)
                    · have phb19 := hb19; try simp at phb19
                      refine c_seq <| c_region <| ja rfl rfl <| j_nil <| p_thn <| c_ret <| p_thn_ret <| ?_
                      refine p_ret0 rfl rfl (.tmp rfl <| .nil) ?_
                      have ht : plTouched l p = ts.map FS.f := hts.symm
                      show vi _ = vi _
                      congr 1; symm
                      unfold plFits
                      rw [ht, if_neg (by simp [*]), if_neg (by simp [*]), if_neg (by rw [hall]; simp)]
                      rw [if_neg (fun h => by omega), if_neg (fun h => by omega)]
                      rw [show (if p.kind = 4 then (2 : Int) else 1) = 1 from if_neg (by omega)]
                      rw [if_neg (by rw [hb17]; decide), if_pos hb19]
                    · have phb19 := hb19; try simp at phb19
                      refine c_skip <| p_thn <| c_seq <| c_region <| ja rfl rfl <| j_nil <| p_thn <| c_ret <| ?_
                      refine p_ret0 rfl rfl (.tmp rfl <| .nil) ?_
                      have ht : plTouched l p = ts.map FS.f := hts.symm
                      show vi _ = vi _
                      congr 1; symm
                      unfold plFits
                      rw [ht, if_neg (by simp [*]), if_neg (by simp [*]), if_neg (by rw [hall]; simp)]
                      rw [if_neg (fun h => by omega), if_neg (fun h => by omega)]
                      rw [show (if p.kind = 4 then (2 : Int) else 1) = 1 from if_neg (by omega)]
                      rw [if_neg (by rw [hb17]; decide), if_neg (by rw [hb19]; decide)]
          · have phb9 := hb9; try simp at phb9
            refine c_skip <| p_thn <| c_seq <| c_region <| jalloc (c := [vi 0]) rfl fun B20 => jstw 0 rfl rfl rfl rfl rfl rfl rfl <| j_nil <| p_thn <| c_seq <| c_seq <| c_region <| jfa rfl rfl rfl <| jld1 2 rfl rfl rfl rfl <| jeql rfl rfl rfl <| j_nil <| p_thn <| c_cond rfl (fun hb21 => ?_) (fun hb21 => ?_)
            · have phb21 := hb21; try simp at phb21
              refine c_region <| jstw 0 rfl rfl rfl rfl rfl rfl rfl <| j_nil <| p_thn <| c_seq <| c_seq <| c_region <| j_perm (fr_s <| fr_0) <| j_freeze fun M3z hM3z hz3 => ?_
              obtain ⟨A3z, cap3z, rfl, hS3z⟩ := frz (r := rField) (xs := (ts.map FS.f)) hz3 (hfk.mono hM3z).rows (by simp)
              refine jm rfl rfl <| jfunc rfl rfl rfl <| jcallb rfl rfl rfl (ap_s <| ap_0) (containsFunc_Field _ _ _ hfts (fun f => decide (f.kind ≠ _)) _ hS3z (fun f _ A cap _ => plan_Fits1 f A cap _ _)) (ap_s <| ap_0) <| j_nil <| p_thn <| c_cond rfl (fun hb22 => ?_) (fun hb22 => ?_)
              · have phb22 := hb22; try simp at phb22
                refine c_seq <| c_region <| ja rfl rfl <| j_nil <| p_thn <| c_ret <| p_thn_ret <| ?_
                refine p_ret0 rfl rfl (.tmp rfl <| .nil) ?_
                have ht : plTouched l p = ts.map FS.f := hts.symm
                show vi _ = vi _
                congr 1; symm
                unfold plFits
                rw [ht, if_neg (by simp [*]), if_neg (by simp [*]), if_neg (by rw [hall]; simp)]
                rw [if_neg (fun h => by omega), if_neg (fun h => by omega)]
                rw [show (if p.kind = 4 then (2 : Int) else 1) = 2 from if_pos phb21]
                rw [if_pos hb22]
              · have phb22 := hb22; try simp at phb22
                refine c_skip <| p_thn <| c_seq <| c_region <| jalloc (c := [.nilFunc]) rfl fun B23 => jstw 0 rfl rfl rfl rfl rfl rfl rfl <| j_nil <| p_thn <| c_seq <| c_seq <| c_region <| jm rfl rfl <| jfunc rfl rfl rfl <| jcallb rfl rfl rfl (ap_s <| ap_0) (containsFunc_Field _ _ _ hfts (fun f => f.holds.any isHeld) _ hS3z (fun f hm A cap hH => plan_Fits3 f A cap _ (hfts.2 f hm).1 hH)) (ap_s <| ap_0) <| j_nil <| p_thn <| c_cond rfl (fun hb24 => ?_) (fun hb24 => ?_)
                · have phb24 := hb24; try simp at phb24
                  refine c_seq <| c_region <| ja rfl rfl <| j_nil <| p_thn <| c_ret <| p_thn_ret <| ?_
                  refine p_ret0 rfl rfl (.tmp rfl <| .nil) ?_
                  have ht : plTouched l p = ts.map FS.f := hts.symm
                  show vi _ = vi _
                  congr 1; symm
                  unfold plFits
                  rw [ht, if_neg (by simp [*]), if_neg (by simp [*]), if_neg (by rw [hall]; simp)]
                  rw [if_neg (fun h => by omega), if_neg (fun h => by omega)]
                  rw [show (if p.kind = 4 then (2 : Int) else 1) = 2 from if_pos phb21]
                  rw [if_neg (by rw [hb22]; decide), if_pos hb24]
                · have phb24 := hb24; try simp at phb24
                  refine c_skip <| p_thn <| c_seq <| c_region <| ja rfl rfl <| j_nil <| p_thn <| c_ret <| ?_
                  refine p_ret0 rfl rfl (.tmp rfl <| .nil) ?_
                  have ht : plTouched l p = ts.map FS.f := hts.symm
                  show vi _ = vi _
                  congr 1; symm
                  unfold plFits
                  rw [ht, if_neg (by simp [*]), if_neg (by simp [*]), if_neg (by rw [hall]; simp)]
                  rw [if_neg (fun h => by omega), if_neg (fun h => by omega)]
                  rw [show (if p.kind = 4 then (2 : Int) else 1) = 2 from if_pos phb21]
                  rw [if_neg (by rw [hb22]; decide), if_neg (by rw [hb24]; decide)]
            · have phb21 := hb21; try simp at phb21
              refine c_skip <| p_thn <| c_seq <| c_seq <| c_region <| j_perm (fr_s <| fr_0) <| j_freeze fun M4z hM4z hz4 => ?_
              obtain ⟨A4z, cap4z, rfl, hS4z⟩ := frz (r := rField) (xs := (ts.map FS.f)) hz4 (hfk.mono hM4z).rows (by simp)
              refine jm rfl rfl <| jfunc rfl rfl rfl <| jcallb rfl rfl rfl (ap_s <| ap_0) (containsFunc_Field _ _ _ hfts (fun f => decide (f.kind ≠ _)) _ hS4z (fun f _ A cap _ => plan_Fits1 f A cap _ _)) (ap_s <| ap_0) <| j_nil <| p_thn <| c_cond rfl (fun hb25 => ?_) (fun hb25 => ?_)
              · have phb25 := hb25; try simp at phb25
                refine c_seq <| c_region <| ja rfl rfl <| j_nil <| p_thn <| c_ret <| p_thn_ret <| ?_
                refine p_ret0 rfl rfl (.tmp rfl <| .nil) ?_
                have ht : plTouched l p = ts.map FS.f := hts.symm
                show vi _ = vi _
                congr 1; symm
                unfold plFits
                rw [ht, if_neg (by simp [*]), if_neg (by simp [*]), if_neg (by rw [hall]; simp)]
                rw [if_neg (fun h => by omega), if_neg (fun h => by omega)]
                rw [show (if p.kind = 4 then (2 : Int) else 1) = 1 from if_neg (by omega)]
                rw [if_pos hb25]
              · have phb25 := hb25; try simp at phb25
                refine c_skip <| p_thn <| c_seq <| c_region <| jalloc (c := [.nilFunc]) rfl fun B26 => jstw 0 rfl rfl rfl rfl rfl rfl rfl <| j_nil <| p_thn <| c_seq <| c_seq <| c_region <| jm rfl rfl <| jfunc rfl rfl rfl <| jcallb rfl rfl rfl (ap_s <| ap_0) (containsFunc_Field _ _ _ hfts (fun f => f.holds.any isHeld) _ hS4z (fun f hm A cap hH => plan_Fits3 f A cap _ (hfts.2 f hm).1 hH)) (ap_s <| ap_0) <| j_nil <| p_thn <| c_cond rfl (fun hb27 => ?_) (fun hb27 => ?_)
                · have phb27 := hb27; try simp at phb27
                  refine c_seq <| c_region <| ja rfl rfl <| j_nil <| p_thn <| c_ret <| p_thn_ret <| ?_
                  refine p_ret0 rfl rfl (.tmp rfl <| .nil) ?_
                  have ht : plTouched l p = ts.map FS.f := hts.symm
                  show vi _ = vi _
                  congr 1; symm
                  unfold plFits
                  rw [ht, if_neg (by simp [*]), if_neg (by simp [*]), if_neg (by rw [hall]; simp)]
                  rw [if_neg (fun h => by omega), if_neg (fun h => by omega)]
                  rw [show (if p.kind = 4 then (2 : Int) else 1) = 1 from if_neg (by omega)]
                  rw [if_neg (by rw [hb25]; decide), if_pos hb27]
                · have phb27 := hb27; try simp at phb27
                  refine c_skip <| p_thn <| c_seq <| c_region <| ja rfl rfl <| j_nil <| p_thn <| c_ret <| ?_
                  refine p_ret0 rfl rfl (.tmp rfl <| .nil) ?_
                  have ht : plTouched l p = ts.map FS.f := hts.symm
                  show vi _ = vi _
                  congr 1; symm
                  unfold plFits
                  rw [ht, if_neg (by simp [*]), if_neg (by simp [*]), if_neg (by rw [hall]; simp)]
                  rw [if_neg (fun h => by omega), if_neg (fun h => by omega)]
                  rw [show (if p.kind = 4 then (2 : Int) else 1) = 1 from if_neg (by omega)]
                  rw [if_neg (by rw [hb25]; decide), if_neg (by rw [hb27]; decide)]
end Go.Proofs.YtihgpbpcbbgdiaaGreat

/- Bits; parts of slices that are rows; cells cleared; whole elements put into rows. -/
namespace Go.Proofs.YtihgpbpcbbgdiaaGreat
open Go.RowKit
set_option linter.unusedVariables false
set_option linter.unusedSimpArgs false
def orI (a b : Int) : Int := IntKind.i64.wrap ((BitVec.ofInt 64 a ||| BitVec.ofInt 64 b).toNat)
def shlI (a n : Int) : Int := IntKind.i64.wrap (a * 2 ^ (min n.toNat 64))
theorem ap_all {L : List Ent} : Ap L [] L := List.append_nil L
theorem flatk_putw {α : Type} {f : α → List Value} {k : Nat} (hk : ∀ x, (f x).length = k) {xs : List α} {rs : List Value} {i : Nat} {x : α} (hi : i < xs.length) :
    (xs.flatMap f ++ rs).take (0 + i * k) ++ f x ++ (xs.flatMap f ++ rs).drop (0 + i * k + k) = (xs.set i x).flatMap f ++ rs := by
  have hle : i * k + k ≤ xs.length * k := by
    have : (i + 1) * k ≤ xs.length * k := Nat.mul_le_mul_right k (by omega)
    rw [Nat.add_mul, Nat.one_mul] at this; exact this
  have hl : (xs.flatMap f).length = xs.length * k := flatk_len hk xs
  rw [Nat.zero_add, List.take_append_of_le_length (by omega), List.drop_append_of_le_length (by omega), ← List.append_assoc, flatk_put hk xs hi]
section
variable {cx : Cx} {Q : Post} {E : Env} {M : Mem} {L : List Ent} {ops : Array Oper} {d T : Nat} {pos : String} {af : Array Edge} {rest : List Oper} {x y z : Operand} {v u : Value} {t t' : Nat} {m n : Int}
theorem yor (hx : ev E x = some (.int .i64 m)) (hy : ev E y = some (.int .i64 n)) : Y cx ⟨some d, .binOp .or t x y t', T, pos, af, none⟩ E M L (.int .i64 (orI m n)) := fun a w hs ho => by
  simp only [execOp, hs.ev hx, hs.ev hy, Sem.run_bind, eqGuard_int, Result.andThen_ok, binOp, Op.intBits, IntKind.bits, orI]; rfl
theorem jor (hn : Nat.blt d cx.n = true) (hx : ev E x = some (.int .i64 m)) (hy : ev E y = some (.int .i64 n)) (hk : J cx ops Q rest ((d, .int .i64 (orI m n)) :: E) M L) : J cx ops Q (⟨some d, .binOp .or t x y t', T, pos, af, none⟩ :: rest) E M L := j_y hn (yor hx hy) hk
theorem yshl (hx : ev E x = some (.int .i64 m)) (hy : ev E y = some (.int .i64 n)) (h0 : 0 ≤ n) : Y cx ⟨some d, .binOp .shl t x y t', T, pos, af, none⟩ E M L (.int .i64 (shlI m n)) := fun a w hs ho => by
  simp only [execOp, hs.ev hx, hs.ev hy, Sem.run_bind, eqGuard_int, Result.andThen_ok, binOp, Op.shift, shlI]
  rw [if_neg (by omega)]; rfl
theorem jshl (hn : Nat.blt d cx.n = true) (hx : ev E x = some (.int .i64 m)) (hy : ev E y = some (.int .i64 n)) (h0 : 0 ≤ n) (hk : J cx ops Q rest ((d, .int .i64 (shlI m n)) :: E) M L) : J cx ops Q (⟨some d, .binOp .shl t x y t', T, pos, af, none⟩ :: rest) E M L := j_y hn (yshl hx hy h0) hk
/-- s[i:] -/
theorem yslo {e sz B len cap i : Nat} {ag : Bool} [Sl : SlI cx.P t e] [TyI cx.P e ag sz] (hx : ev E x = some (.slice (some ⟨B, 0, none⟩) len cap)) (hy : ev E y = some (.int .i64 (i : Int))) (hi : i ≤ len) (hl : len ≤ cap) :
    Y cx ⟨some d, .slice t x (some y) none none, T, pos, af, none⟩ E M L (.slice (some ⟨B, if cap = i then 0 else i * sz, none⟩) (len - i) (cap - i)) := fun a w hs ho => by
  have e1 : (if cap = i then some (⟨B, 0, none⟩ : Addr) else some ((⟨B, 0, none⟩ : Addr).add (i * sz))) = some ⟨B, if cap = i then 0 else i * sz, none⟩ := by
    split
    · rfl
    · rw [add_at, Nat.zero_add]
  have hc : (0 : Int) ≤ (i : Int) ∧ (i : Int) ≤ (len : Int) := by omega
  simp only [execOp, hs.ev hx, hs.ev hy, Option.map_some, Option.map_none, Instr.sliceAt, Instr.slice, Sem.run_bind, run_underlying Sl.h, Result.andThen_ok, Instr.sliceBounds, Instr.sliceBound, asIntOf, Sem.run_pure, run_sz, hc, and_self, if_true, Int.toNat_natCast]
  rw [e1]
theorem jslo {e sz B len cap i : Nat} {ag : Bool} [Sl : SlI cx.P t e] [TyI cx.P e ag sz] (hn : Nat.blt d cx.n = true) (hx : ev E x = some (.slice (some ⟨B, 0, none⟩) len cap)) (hy : ev E y = some (.int .i64 (i : Int))) (hi : i ≤ len) (hl : len ≤ cap)
    (hk : J cx ops Q rest ((d, .slice (some ⟨B, if cap = i then 0 else i * sz, none⟩) (len - i) (cap - i)) :: E) M L) : J cx ops Q (⟨some d, .slice t x (some y) none none, T, pos, af, none⟩ :: rest) E M L := j_y hn (yslo hx hy hi hl) hk
/-- s[:i] -/
theorem yshi {e sz B len cap i : Nat} {ag : Bool} [Sl : SlI cx.P t e] [TyI cx.P e ag sz] (hx : ev E x = some (.slice (some ⟨B, 0, none⟩) len cap)) (hy : ev E y = some (.int .i64 (i : Int))) (hi : i ≤ cap) :
    Y cx ⟨some d, .slice t x none (some y) none, T, pos, af, none⟩ E M L (.slice (some ⟨B, 0, none⟩) i cap) := fun a w hs ho => by
  have hc : (0 : Int) ≤ (i : Int) ∧ (i : Int) ≤ (cap : Int) := by omega
  have e1 : (if cap = 0 then some (⟨B, 0, none⟩ : Addr) else some ((⟨B, 0, none⟩ : Addr).add (0 * sz))) = some ⟨B, 0, none⟩ := by
    split
    · rfl
    · rw [add_at, Nat.zero_mul, Nat.zero_add]
  simp only [execOp, hs.ev hx, hs.ev hy, Option.map_some, Option.map_none, Instr.sliceAt, Instr.slice, Sem.run_bind, run_underlying Sl.h, Result.andThen_ok, Instr.sliceBounds, Instr.sliceBound, asIntOf, Sem.run_pure, run_sz, hc, and_self, if_true, Int.toNat_natCast, Nat.sub_zero]
  rw [e1]
theorem jshi {e sz B len cap i : Nat} {ag : Bool} [Sl : SlI cx.P t e] [TyI cx.P e ag sz] (hn : Nat.blt d cx.n = true) (hx : ev E x = some (.slice (some ⟨B, 0, none⟩) len cap)) (hy : ev E y = some (.int .i64 (i : Int))) (hi : i ≤ cap)
    (hk : J cx ops Q rest ((d, .slice (some ⟨B, 0, none⟩) i cap) :: E) M L) : J cx ops Q (⟨some d, .slice t x none (some y) none, T, pos, af, none⟩ :: rest) E M L := j_y hn (yshi hx hy hi) hk
/-- an operation that gives a value to nobody -/
theorem j_skipv {op : Op} {M' : Mem} {L' : List Ent} (h : ∀ a w, Sat cx.ds cx.n E a → Own cx M w L → ∃ v w', (execOp a.eval ⟨none, op, T, pos, af, none⟩).run cx.P w = .ok (.value v) w' ∧ Own cx M' w' L')
    (hk : J cx ops Q rest E M' L') : J cx ops Q (⟨none, op, T, pos, af, none⟩ :: rest) E M L :=
  j_op rfl fun a w hs ho K hK => by
    obtain ⟨v, w', h1, h2⟩ := h a w hs ho
    unfold Oper.wp
    rw [h1, Oper.upon_value]
    exact hK _ _ (hk _ _ hs h2)
/-- the tail of a row is cleared: what lies there then nobody asks -/
theorem jclr {e sz B Tb len cap i : Nat} {ag : Bool} {zc c rs : List Value} (j : Nat) [Sl : SlI cx.P t e] [TyI cx.P e ag sz] [Z : ZeI cx.P e zc] (hx : ev E x = some (.slice (some ⟨B, if cap = i then 0 else i * sz, none⟩) (len - i) (cap - i)))
    (hL : L[j]? = some (.blk B Tb (c ++ rs))) (hc : c.length = len * sz) (hi : i ≤ len) (hl : len ≤ cap) (hzc : zc.length = sz) (h1 : zc.all Value.oneCell' = true)
    (hk : ∀ c', c'.length = c.length → c'.take (i * sz) = c.take (i * sz) → J cx ops Q rest E M (L.set j (.blk B Tb (c' ++ rs)))) : J cx ops Q (⟨none, .call ⟨.builtin .clear, #[x], #[t]⟩, T, pos, af, none⟩ :: rest) E M L := by
  by_cases hlt : i < len
  · have hne : ¬ cap = i := by omega
    rw [if_neg hne] at hx
    let zs : List Value := (Builtin.zeroCells zc.toArray (len - i)).toList
    have hzl : zs.length = (len - i) * sz := by simp [zs, Builtin.zeroCells, hzc]
    have hz1 : ∀ v ∈ zs, v.oneCell' = true := fun v hv => by
      simp only [zs, Builtin.zeroCells, Array.toList_map, List.mem_map] at hv
      obtain ⟨k, hk, rfl⟩ := hv
      have hpos : 0 < zc.length := by
        have hk2 : k < (len - i) * zc.length := by simpa using hk
        rcases Nat.eq_zero_or_pos zc.length with h0 | h0
        · rw [h0] at hk2; omega
        · exact h0
      rw [getElem!_pos _ _ (by simp; exact Nat.mod_lt _ hpos)]
      exact List.all_eq_true.1 h1 _ (by simp)
    have hsum : i * sz + (len - i) * sz = len * sz := by rw [← Nat.add_mul]; congr 1; omega
    have hc' : (c.take (i * sz) ++ zs).length = c.length := by rw [List.length_append, hzl, List.length_take, hc]; omega
    refine j_skipv (M' := M) (L' := L.set j (.blk B Tb ((c.take (i * sz) ++ zs) ++ rs))) (fun a w hs ho => ?_) (hk _ hc' (by rw [List.take_append_of_le_length (by rw [List.length_take, hc]; omega), List.take_take, Nat.min_self]))
    have hB : w.heap[B]? = some (.cells (c ++ rs).toArray Tb (0, 0)) := ho.at' hL
    obtain ⟨z, hz, hzc'⟩ := run_zero (P := cx.P) w (T := e)
    have hst := run_storeCells_at cx.P B (i * sz) Tb zs 0 (c ++ rs).toArray w hB (by simp [hzl]; rw [hc]; omega) hz1
    have e1 : (c ++ rs).take (i * sz) ++ zs ++ (c ++ rs).drop (i * sz + zs.length) = (c.take (i * sz) ++ zs) ++ rs := by
      rw [List.take_append_of_le_length (by rw [hc]; omega), hzl, hsum, ← hc, List.drop_left]
    refine ⟨.tuple #[], _, ?_, ho.set hL ((c.take (i * sz) ++ zs) ++ rs)⟩
    have hz2 : (Builtin.zeroCells z.cells (len - i)).toList = zs := by rw [hzc']
    obtain ⟨q, hq⟩ : ∃ q, len - i = q + 1 := ⟨len - i - 1, by omega⟩
    have hst' : (storeCells ⟨B, i * sz, none⟩ zs).run cx.P w = .ok () (w.setRow B ((c.take (i * sz) ++ zs) ++ rs).toArray) := by
      have := hst
      simp only [Nat.add_zero, List.toList_toArray, e1] at this
      exact this
    simp [execOp, resolve, hs.ev hx, invoke, builtin, Builtin.clear_, Sem.run_bind, run_underlying Sl.h, hq, hz]
    rw [← hq, hz2, hst', List.append_assoc]; rfl
  · have e0 : len - i = 0 := by omega
    rw [e0] at hx
    have hself : L.set j (.blk B Tb (c ++ rs)) = L := by
      apply List.ext_getElem?
      intro k
      rw [List.getElem?_set]
      split
      · rename_i e; subst e
        have := (List.getElem?_eq_some_iff.1 hL).1
        rw [if_pos this, hL]
      · rfl
    refine j_skipv (M' := M) (L' := L) (fun a w hs ho => ⟨.tuple #[], w, ?_, ho⟩) (by have := hk c rfl rfl; rwa [hself] at this)
    simp [execOp, resolve, hs.ev hx, invoke, builtin, Builtin.clear_, Sem.run_bind, run_underlying Sl.h]
end
end Go.Proofs.YtihgpbpcbbgdiaaGreat
