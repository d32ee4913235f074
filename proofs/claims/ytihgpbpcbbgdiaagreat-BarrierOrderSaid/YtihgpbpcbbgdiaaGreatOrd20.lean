/- Several texts in one. -/
import Derived.Test.YtihgpbpcbbgdiaaGreatOrd19
import Derived.Test.YtihgpbpcbbgdiaaGreatOrd14
/- What the functions of package plan that read alone tell. -/
namespace Go.Proofs.YtihgpbpcbbgdiaaGreat
open Go.RowKit
set_option linter.unusedVariables false
set_option linter.unusedSimpArgs false
theorem ix_mem {α : Type} {z : α} {xs : List α} {k : Nat} (h : k < xs.length) : ix z xs k ∈ xs := by rw [ix_eq h]; exact List.getElem_mem _
/-- fields that may be gone through -/
def FOk (f : Field) : Prop := f.holds.length ≤ 10000 ∧ f.name.size ≤ 100000
def FsOk (l : List Field) : Prop := l.length ≤ 10000 ∧ ∀ f ∈ l, FOk f
def fsOk (l : List Field) (i : Nat) : Bool := fRight (ix fZ l i) && (decide (i = 0) || Op.bytesLess (ix fZ l (i - 1)).name.toList (ix fZ l i).name.toList)
def plFields (l : List Field) : Bool := (List.range l.length).all (fsOk l) && decide (l.length ≤ 4)
theorem lFind_any {α : Type} (hs : List α) (p : α → Bool) : decide (0 ≤ lFind hs p) = hs.any p := by
  unfold lFind
  rw [← List.findIdx?_isSome]
  cases e : hs.findIdx? p with
  | none => rfl
  | some i => simp
def plFind (l : List Field) (s : ByteArray) : Int := lFind l (fun f => decide (f.name = s))
theorem plFind_lt {l : List Field} {s : ByteArray} (h : 0 ≤ plFind l s) : (plFind l s).toNat < l.length := by unfold plFind at *; exact lFind_lt h
def nil_ : ByteArray := ⟨#[]⟩
def touched (p : Plan) (s : ByteArray) : Bool := decide (s = p.name) || (decide (p.other ≠ nil_) && decide (s = p.other))
def plNames (p : Plan) : List ByteArray := if p.kind = 6 then [p.name, p.other] else [p.name]
def rNone (p : Plan) : Bool := decide (p.other = nil_)
def rOther (p : Plan) : Bool := nameOk p.other && decide (p.other ≠ p.name)
def rSome (p : Plan) : Bool := rNone p && decide (0 ≤ p.a) && decide (0 ≤ p.b) && decide (0 < IntKind.i64.wrap (p.a + p.b))
def ruleB (p : Plan) : Bool := if p.kind = 1 ∨ p.kind = 2 then rSome p else if p.kind = 3 then rNone p && decide (p.a = 0) && decide (p.b = 0) else if p.kind = 4 then rNone p && decide (p.a ≤ p.b)
  else if p.kind = 5 then rOther p && decide (1 ≤ p.a) && decide (p.b = 0) else rOther p && decide (p.a = 0) && decide (p.b = 0)
def plRight (p : Plan) : Bool := decide (1 ≤ p.kind) && decide (p.kind ≤ 6) && nameOk p.name && isN p.a && isN p.b && ruleB p
instance : KeyI Tryz.prog 3 Int (fun n => .int .i64 n) := KeyI.int Tryz.underlying3
def kI (n : Int) : Value := .int .i64 n
def cl (f B : Nat) : Value := .func (.func f) #[] #[.pointer (some ⟨B, 0, none⟩)]
def ruleM (B1 B2 : Nat) : List (Int × Value) := [(1, cl 169 B1), (2, cl 169 B1), (3, cl 170 B1), (4, cl 171 B1), (5, cl 172 B2), (6, cl 173 B2)]
abbrev rb1 (B : Nat) : Ent := .blk B 91 [.func (.func 167) #[] #[]]
abbrev rb2 (B : Nat) : Ent := .blk B 91 [.func (.func 168) #[] #[]]
attribute [local irreducible] fRight

theorem indexFunc_Field {f : Nat} {ca : List Value} [FnI Tryz.prog f] {Lt : List Ent} (l : List Field) (A : Option Addr) (cap : Nat) (hf : FsOk l) (p : Field → Bool) (M : Mem) (hS : SlR rField M A cap l) (hp : ∀ h, h ∈ l → ∀ A cap, SlR rHold M A cap h.holds → Ctr Tryz.prog f ([.agg (encF h A cap).toArray] ++ ca) M Lt (fun v _ L' => v = .bool (p h) ∧ L' = Lt)) : Ctr Tryz.prog 84 [.slice A l.length cap, .func (.func f) #[] ca.toArray] M Lt (fun v _ L' => v = vi (lFind l p) ∧ L' = Lt) := by
  have hl := hf.1
  refine ctr Tryz.func84 rfl Tryz.ntmps84 rfl fun w => ?_
  refine c_seq <| c_region <| ja rfl rfl <| j_nil <| p_thn <| c_seq <| c_seq <| c_region <| jm rfl rfl <| jlen rfl rfl <| jm rfl rfl <| j_nil <| p_thn <| c_block <| c_lp (X := Nat) (fun k => k ≤ l.length ∧ ∀ j, j < k → p (ix fZ l j) = false) (fun k => l.length - k) (fun k => [(8, vi (k : Int))]) [7, 1, 0] 0 ?_ (sub_c rfl <| sub_c rfl <| sub_c rfl <| sub_c rfl <| sub_n) ?_
  · exact ⟨Nat.zero_le _, fun j hj => absurd hj (Nat.not_lt_zero j)⟩
  · intro k hI
    obtain ⟨hk, hall⟩ := hI
    refine c_seq <| c_region <| jlss rfl rfl rfl <| j_nil <| p_thn <| c_seq <| c_cond rfl (fun hb1 => ?_) (fun hb1 => ?_)
    · have phb1 := hb1; try simp at phb1
      refine c_skip <| p_thn <| c_seq <| c_block <| c_seq <| c_region <| jm rfl rfl <| ja rfl rfl <| j_nil <| p_thn <| c_seq <| c_region <| jm rfl rfl <| jm rfl rfl <| jm rfl rfl <| ji rfl rfl rfl (by omega) (by omega) (hS.adr (i := k) (by omega)) <| jle rfl hS (ix_get (z := fZ) (i := k) (by omega)) rfl rfl fun c15 hc15 => ?_
      obtain ⟨Af15, capf15, rfl, hH15⟩ := hc15
      refine jcallo rfl rfl rfl (ap_0) (hp _ (ix_mem (by omega)) _ _ hH15) (ap_0) <| j_nil <| p_thn <| c_cond rfl (fun hb2 => ?_) (fun hb2 => ?_)
      · have phb2 := hb2; try simp at phb2
        refine c_seq <| c_region <| jm rfl rfl <| ja rfl rfl <| j_nil <| p_thn <| c_ret <| p_inb_ret <| p_thn_ret <| p_lp_ret <| p_inb_ret <| p_thn_ret <| ?_
        refine p_retD (ap_0) rfl rfl (.tmp rfl <| .nil) ?_
        refine ⟨?_, rfl⟩
        show vi _ = _
        unfold lFind; rw [find_some (z := fZ) (by omega) (by assumption) hall]
      · have phb2 := hb2; try simp at phb2
        refine c_skip <| p_inb <| p_thn <| c_region <| jadd rfl rfl rfl (by first | exact wr (by omega) (by omega) | rfl) <| jm rfl rfl <| j_nil <| ?_
        refine p_lp (k + 1) ?_ ?_ (sub_c rfl <| sub_c rfl <| sub_c rfl <| sub_c rfl <| sub_n) rfl rfl
        · refine ⟨by omega, fun j hj => ?_⟩
          rcases Nat.lt_succ_iff_lt_or_eq.1 hj with h | rfl
          · exact hall j h
          · assumption
        · omega
    · have phb1 := hb1; try simp at phb1
      refine c_exit <| p_thn_exit <| p_lp_exit <| p_inb_exit <| p_thn <| c_seq <| c_region <| ja rfl rfl <| j_nil <| p_thn <| c_ret <| ?_
      refine p_retD (ap_0) rfl rfl (.tmp rfl <| .nil) ?_
      refine ⟨?_, rfl⟩
      show vi _ = _
      unfold lFind; rw [find_none (z := fZ) (fun j hj => hall j (by omega))]
theorem containsFunc_Field {f : Nat} {ca : List Value} [FnI Tryz.prog f] {Lt : List Ent} (l : List Field) (A : Option Addr) (cap : Nat) (hf : FsOk l) (p : Field → Bool) (M : Mem) (hS : SlR rField M A cap l) (hp : ∀ h, h ∈ l → ∀ A cap, SlR rHold M A cap h.holds → Ctr Tryz.prog f ([.agg (encF h A cap).toArray] ++ ca) M Lt (fun v _ L' => v = .bool (p h) ∧ L' = Lt)) : Ctr Tryz.prog 79 [.slice A l.length cap, .func (.func f) #[] ca.toArray] M Lt (fun v _ L' => v = .bool (l.any p) ∧ L' = Lt) := by
  refine ctr Tryz.func79 rfl Tryz.ntmps79 rfl fun w => ?_
  refine c_seq <| c_region <| ja rfl rfl <| j_nil <| p_thn <| c_seq <| c_region <| jm rfl rfl <| jm rfl rfl <| jcallo rfl rfl rfl (ap_0) (indexFunc_Field _ _ _ hf p _ hS hp) (ap_0) <| jgeq rfl rfl rfl <| ja rfl rfl <| j_nil <| p_thn <| c_ret <| ?_
  refine p_retD (ap_0) rfl rfl (.tmp rfl <| .nil) ?_
  refine ⟨?_, rfl⟩
  show Value.bool _ = _
  rw [lFind_any]
theorem containsFunc_Hold {f : Nat} {ca : List Value} [FnI Tryz.prog f] {Lt : List Ent} (hs : List Hold) (A : Option Addr) (cap : Nat) (p : Hold → Bool) (hl : hs.length ≤ 100000) (M : Mem) (hS : SlR rHold M A cap hs) (hp : ∀ h, Ctr Tryz.prog f ([.agg (encHold h).toArray] ++ ca) M Lt (fun v _ L' => v = .bool (p h) ∧ L' = Lt)) : Ctr Tryz.prog 83 [.slice A hs.length cap, .func (.func f) #[] ca.toArray] M Lt (fun v _ L' => v = .bool (hs.any p) ∧ L' = Lt) := by
  refine ctr Tryz.func83 rfl Tryz.ntmps83 rfl fun w => ?_
  refine c_seq <| c_region <| ja rfl rfl <| j_nil <| p_thn <| c_seq <| c_region <| jm rfl rfl <| jm rfl rfl <| jcallo rfl rfl rfl (ap_0) (indexFunc_Hold _ _ _ p hl _ hS hp) (ap_0) <| jgeq rfl rfl rfl <| ja rfl rfl <| j_nil <| p_thn <| c_ret <| ?_
  refine p_retD (ap_0) rfl rfl (.tmp rfl <| .nil) ?_
  refine ⟨?_, rfl⟩
  show Value.bool _ = _
  rw [lFind_any]
theorem plan_Find1 (f : Field) (A : Option Addr) (cap : Nat) (s : ByteArray) {X : Nat} (M : Mem) : Ctr Tryz.prog 89 [.agg (encF f A cap).toArray, .pointer (some ⟨X, 0, none⟩)] M [.blk X 9 [.string s]] (fun v _ L' => v = .bool (decide (f.name = s)) ∧ L' = [.blk X 9 [.string s]]) := by
  refine ctr Tryz.func89 rfl Tryz.ntmps89 rfl fun w => ?_
  refine c_seq <| c_region <| jbox rfl rfl rfl fun B1 => ja rfl rfl <| j_nil <| p_thn <| c_seq <| c_region <| jfa rfl rfl rfl <| jld1 0 rfl rfl rfl rfl <| jld1 1 rfl rfl rfl rfl <| jseql rfl rfl rfl <| ja rfl rfl <| j_nil <| p_thn <| c_ret <| ?_
  refine jp_perm (fr_s <| fr_0) <| ?_
  refine p_retK (ap_s <| ap_0) rfl rfl (.tmp rfl <| .nil) ?_
  exact ⟨rfl, rfl⟩
theorem plan_Find (l : List Field) (A : Option Addr) (cap : Nat) (hf : FsOk l) (s : ByteArray) (M : Mem) (hS : SlR rField M A cap l) : Ctr Tryz.prog 44 [.slice A l.length cap, .string s] M [] (fun v _ _ => v = .tuple #[vi (max (plFind l s) 0), .bool (decide (0 ≤ plFind l s))]) := by
  refine ctr Tryz.func44 rfl Tryz.ntmps44 rfl fun w => ?_
  refine c_seq <| c_region <| jbox rfl rfl rfl fun B1 => ja rfl rfl <| ja rfl rfl <| j_nil <| p_thn <| c_seq <| c_region <| jm rfl rfl <| jfunc rfl rfl rfl <| jcallb rfl rfl rfl (ap_s <| ap_0) (indexFunc_Field _ _ _ hf (fun f => decide (f.name = s)) _ hS (fun f _ A cap _ => plan_Find1 f A cap s _)) (ap_s <| ap_0) <| ja rfl rfl <| j_nil <| p_thn <| c_seq <| c_region <| jm rfl rfl <| jmax rfl rfl rfl <| jm rfl rfl <| jgeq rfl rfl rfl <| ja rfl rfl <| ja rfl rfl <| j_nil <| p_thn <| c_ret <| ?_
  refine p_ret0 rfl rfl (.tmp rfl <| .tmp rfl <| .nil) ?_
  rfl
theorem plan_Touched (p : Plan) (s : ByteArray) (M : Mem) : Ctr Tryz.prog 36 [.agg (encPlan p).toArray, .string s] M [] (fun v _ _ => v = .bool (touched p s)) := by
  refine ctr Tryz.func36 rfl Tryz.ntmps36 rfl fun w => ?_
  refine c_seq <| c_region <| jbox rfl rfl rfl fun B1 => ja rfl rfl <| j_nil <| p_thn <| c_seq <| c_region <| jm rfl rfl <| jfa rfl rfl rfl <| jld1 0 rfl rfl rfl rfl <| jseql rfl rfl rfl <| jm rfl rfl <| jgs rfl rfl (fun hb2 => ?_) (fun hb2 => ?_)
  · have phb2 := hb2; try simp at phb2
    refine jg_off rfl rfl rfl hb2 <| jg_off rfl rfl rfl hb2 <| jg_off rfl rfl rfl hb2 <| jg_off rfl rfl rfl hb2 <| jg_u rfl rfl rfl <| jg_u rfl rfl rfl <| jg_u rfl rfl rfl <| jg_u rfl rfl rfl <| jg_off rfl rfl rfl hb2 <| jpick_t rfl rfl hb2 rfl <| ja rfl rfl <| j_nil <| p_thn <| c_ret <| ?_
    refine p_ret0 rfl rfl (.tmp rfl <| .nil) ?_
    show Value.bool _ = _
    congr 1; symm
    simp [touched, nil_, *]
  · have phb2 := hb2; try simp at phb2
    refine jg rfl rfl hb2 <| jfa rfl rfl rfl <| jg rfl rfl hb2 <| jld1 0 rfl rfl rfl rfl <| jg rfl rfl hb2 <| jsneq rfl rfl rfl <| jg rfl rfl hb2 <| jm rfl rfl <| jgs rfl rfl (fun hb3 => ?_) (fun hb3 => ?_)
    · have phb3 := hb3; try simp at phb3
      refine jg rfl rfl hb3 <| jm rfl rfl <| jg rfl rfl hb3 <| jfa rfl rfl rfl <| jg rfl rfl hb3 <| jld1 0 rfl rfl rfl rfl <| jg rfl rfl hb3 <| jseql rfl rfl rfl <| jg rfl rfl hb2 <| jpick_t rfl rfl hb3 rfl <| jpick_f rfl rfl hb2 rfl <| ja rfl rfl <| j_nil <| p_thn <| c_ret <| ?_
      refine p_ret0 rfl rfl (.tmp rfl <| .nil) ?_
      show Value.bool _ = _
      congr 1; symm
      simp [touched, nil_, *]
    · have phb3 := hb3; try simp at phb3
      refine jg_off rfl rfl rfl hb3 <| jg_off rfl rfl rfl hb3 <| jg_off rfl rfl rfl hb3 <| jg_off rfl rfl rfl hb3 <| jg rfl rfl hb2 <| jpick_f rfl rfl hb3 rfl <| jpick_f rfl rfl hb2 rfl <| ja rfl rfl <| j_nil <| p_thn <| c_ret <| ?_
      refine p_ret0 rfl rfl (.tmp rfl <| .nil) ?_
      show Value.bool _ = _
      congr 1; symm
      simp [touched, nil_, *]
theorem plan_names (p : Plan) (M : Mem) : Ctr Tryz.prog 78 [.agg (encPlan p).toArray] M [] (fun v M' _ => ∃ A cap, SlR rStr M' A cap (plNames p) ∧ v = .slice A (plNames p).length cap) := by
  refine ctr Tryz.func78 rfl Tryz.ntmps78 rfl fun w => ?_
  refine c_seq <| c_region <| jbox rfl rfl rfl fun B1 => ja rfl rfl <| j_nil <| p_thn <| c_seq <| c_seq <| c_region <| jfa rfl rfl rfl <| jld1 0 rfl rfl rfl rfl <| jeql rfl rfl rfl <| j_nil <| p_thn <| c_cond rfl (fun hb2 => ?_) (fun hb2 => ?_)
  · have phb2 := hb2; try simp at phb2
    refine c_seq <| c_region <| jfa rfl rfl rfl <| jld1 0 rfl rfl rfl rfl <| jfa rfl rfl rfl <| jld1 0 rfl rfl rfl rfl <| jbsl (vs := [_, _]) [_, _] rfl rfl rfl (by simp) rfl rfl (by decide) (by decide) fun B3 => j_known fun M1 hM1 hK1 => ja rfl rfl <| j_nil <| p_thn <| c_ret <| p_thn_ret <| ?_
    refine p_ret0 rfl rfl (.tmp rfl <| .nil) ?_
    refine ⟨some ⟨B3, 0, none⟩, 2, ?_, ?_⟩
    · have e : plNames p = [p.name, p.other] := by unfold plNames; rw [if_pos phb2]
      rw [e]; exact SlR.frozen1 (f := fun s => .string s) rfl (fun _ _ => rfl) (by simp) (fun _ => ⟨B3, 0, rfl, fun j u hu => by rw [Nat.zero_add]; exact hK1 j u hu⟩)
    · have e : (plNames p).length = 2 := by unfold plNames; rw [if_pos phb2]; rfl
      rw [e]; rfl
  · have phb2 := hb2; try simp at phb2
    refine c_skip <| p_thn <| c_seq <| c_region <| jfa rfl rfl rfl <| jld1 0 rfl rfl rfl rfl <| jbsl (vs := [_]) [_] rfl rfl rfl (by simp) rfl rfl (by decide) (by decide) fun B4 => j_known fun M2 hM2 hK2 => ja rfl rfl <| j_nil <| p_thn <| c_ret <| ?_
    refine p_ret0 rfl rfl (.tmp rfl <| .nil) ?_
    refine ⟨some ⟨B4, 0, none⟩, 1, ?_, ?_⟩
    · have e : plNames p = [p.name] := by unfold plNames; rw [if_neg phb2]
      rw [e]; exact SlR.frozen1 (f := fun s => .string s) rfl (fun _ _ => rfl) (by simp) (fun _ => ⟨B4, 0, rfl, fun j u hu => by rw [Nat.zero_add]; exact hK2 j u hu⟩)
    · have e : (plNames p).length = 1 := by unfold plNames; rw [if_neg phb2]; rfl
      rw [e]; rfl
theorem plan_rules1 (p : Plan) (M : Mem) : Ctr Tryz.prog 167 [.agg (encPlan p).toArray] M [] (fun v _ _ => v = .bool (rNone p)) := by
  refine ctr Tryz.func167 rfl Tryz.ntmps167 rfl fun w => ?_
  refine c_seq <| c_region <| jbox rfl rfl rfl fun B1 => ja rfl rfl <| j_nil <| p_thn <| c_seq <| c_region <| jfa rfl rfl rfl <| jld1 0 rfl rfl rfl rfl <| jseql rfl rfl rfl <| ja rfl rfl <| j_nil <| p_thn <| c_ret <| ?_
  refine p_ret0 rfl rfl (.tmp rfl <| .nil) ?_
  rfl
theorem plan_rules2 (p : Plan) (hs : p.other.size ≤ 100000) (M : Mem) : Ctr Tryz.prog 168 [.agg (encPlan p).toArray] M [] (fun v _ _ => v = .bool (rOther p)) := by
  refine ctr Tryz.func168 rfl Tryz.ntmps168 rfl fun w => ?_
  refine c_seq <| c_region <| jbox rfl rfl rfl fun B1 => ja rfl rfl <| j_nil <| p_thn <| c_seq <| c_region <| jfa rfl rfl rfl <| jld1 0 rfl rfl rfl rfl <| jcallv rfl rfl rfl (field_Name _ hs _) <| jm rfl rfl <| jgs rfl rfl (fun hb2 => ?_) (fun hb2 => ?_)
  · have phb2 := hb2; try simp at phb2
    refine jg rfl rfl hb2 <| jfa rfl rfl rfl <| jg rfl rfl hb2 <| jld1 0 rfl rfl rfl rfl <| jg rfl rfl hb2 <| jfa rfl rfl rfl <| jg rfl rfl hb2 <| jld1 0 rfl rfl rfl rfl <| jg rfl rfl hb2 <| jsneq rfl rfl rfl <| jpick_t rfl rfl hb2 rfl <| ja rfl rfl <| j_nil <| p_thn <| c_ret <| ?_
    refine p_ret0 rfl rfl (.tmp rfl <| .nil) ?_
    show Value.bool _ = _
    congr 1; symm
    simp [rOther, *]
  · have phb2 := hb2; try simp at phb2
    refine jg_off rfl rfl rfl hb2 <| jg_off rfl rfl rfl hb2 <| jg_off rfl rfl rfl hb2 <| jg_off rfl rfl rfl hb2 <| jg_off rfl rfl rfl hb2 <| jpick_f rfl rfl hb2 rfl <| ja rfl rfl <| j_nil <| p_thn <| c_ret <| ?_
    refine p_ret0 rfl rfl (.tmp rfl <| .nil) ?_
    show Value.bool _ = _
    congr 1; symm
    simp [rOther, *]
theorem plan_rules3 (p : Plan) {X : Nat} (M : Mem) : Ctr Tryz.prog 169 [.agg (encPlan p).toArray, .pointer (some ⟨X, 0, none⟩)] M [rb1 X] (fun v _ L' => v = .bool (rSome p) ∧ L' = [rb1 X]) := by
  refine ctr Tryz.func169 rfl Tryz.ntmps169 rfl fun w => ?_
  refine c_seq <| c_region <| jbox rfl rfl rfl fun B1 => ja rfl rfl <| j_nil <| p_thn <| c_seq <| c_region <| jld1 1 rfl rfl rfl rfl <| jldw 0 rfl rfl rfl (len_plan _) <| jcallv rfl rfl rfl (plan_rules1 _ _) <| jm rfl rfl <| jgs rfl rfl (fun hb2 => ?_) (fun hb2 => ?_)
  · have phb2 := hb2; try simp at phb2
    refine jg rfl rfl hb2 <| jfa rfl rfl rfl <| jg rfl rfl hb2 <| jld1 0 rfl rfl rfl rfl <| jg rfl rfl hb2 <| jgeq rfl rfl rfl <| jpick_t rfl rfl hb2 rfl <| jm rfl rfl <| jgs rfl rfl (fun hb3 => ?_) (fun hb3 => ?_)
    · have phb3 := hb3; try simp at phb3
      refine jg rfl rfl hb3 <| jfa rfl rfl rfl <| jg rfl rfl hb3 <| jld1 0 rfl rfl rfl rfl <| jg rfl rfl hb3 <| jgeq rfl rfl rfl <| jpick_t rfl rfl hb3 rfl <| jm rfl rfl <| jgs rfl rfl (fun hb4 => ?_) (fun hb4 => ?_)
      · have phb4 := hb4; try simp at phb4
        refine jg rfl rfl hb4 <| jfa rfl rfl rfl <| jg rfl rfl hb4 <| jld1 0 rfl rfl rfl rfl <| jg rfl rfl hb4 <| jfa rfl rfl rfl <| jg rfl rfl hb4 <| jld1 0 rfl rfl rfl rfl <| jg rfl rfl hb4 <| jadd rfl rfl rfl rfl <| jg rfl rfl hb4 <| jgtr rfl rfl rfl <| jpick_t rfl rfl hb4 rfl <| ja rfl rfl <| j_nil <| p_thn <| c_ret <| ?_
        refine jp_perm (fr_s <| fr_0) <| ?_
        refine p_retK (ap_s <| ap_0) rfl rfl (.tmp rfl <| .nil) ?_
        refine ⟨?_, rfl⟩
        show Value.bool _ = _
        congr 1; symm
        simp [rSome, *]
      · have phb4 := hb4; try simp at phb4
        refine jg_off rfl rfl rfl hb4 <| jg_off rfl rfl rfl hb4 <| jg_off rfl rfl rfl hb4 <| jg_off rfl rfl rfl hb4 <| jg_off rfl rfl rfl hb4 <| jg_off rfl rfl rfl hb4 <| jpick_f rfl rfl hb4 rfl <| ja rfl rfl <| j_nil <| p_thn <| c_ret <| ?_
        refine jp_perm (fr_s <| fr_0) <| ?_
        refine p_retK (ap_s <| ap_0) rfl rfl (.tmp rfl <| .nil) ?_
        refine ⟨?_, rfl⟩
        show Value.bool _ = _
        congr 1; symm
        simp [rSome, *]
    · have phb3 := hb3; try simp at phb3
      refine jg_off rfl rfl rfl hb3 <| jg_off rfl rfl rfl hb3 <| jg_off rfl rfl rfl hb3 <| jpick_f rfl rfl hb3 rfl <| jm rfl rfl <| jg_off rfl rfl rfl rfl <| jg_off rfl rfl rfl rfl <| jg_off rfl rfl rfl rfl <| jg_off rfl rfl rfl rfl <| jg_off rfl rfl rfl rfl <| jg_off rfl rfl rfl rfl <| jpick_f rfl rfl rfl rfl <| ja rfl rfl <| j_nil <| p_thn <| c_ret <| ?_
      refine jp_perm (fr_s <| fr_0) <| ?_
      refine p_retK (ap_s <| ap_0) rfl rfl (.tmp rfl <| .nil) ?_
      refine ⟨?_, rfl⟩
      show Value.bool _ = _
      congr 1; symm
      simp [rSome, *]
  · have phb2 := hb2; try simp at phb2
    refine jg_off rfl rfl rfl hb2 <| jg_off rfl rfl rfl hb2 <| jg_off rfl rfl rfl hb2 <| jpick_f rfl rfl hb2 rfl <| jm rfl rfl <| jg_off rfl rfl rfl rfl <| jg_off rfl rfl rfl rfl <| jg_off rfl rfl rfl rfl <| jpick_f rfl rfl rfl rfl <| jm rfl rfl <| jg_off rfl rfl rfl rfl <| jg_off rfl rfl rfl rfl <| jg_off rfl rfl rfl rfl <| jg_off rfl rfl rfl rfl <| jg_off rfl rfl rfl rfl <| jg_off rfl rfl rfl rfl <| jpick_f rfl rfl rfl rfl <| ja rfl rfl <| j_nil <| p_thn <| c_ret <| ?_
    refine jp_perm (fr_s <| fr_0) <| ?_
    refine p_retK (ap_s <| ap_0) rfl rfl (.tmp rfl <| .nil) ?_
    refine ⟨?_, rfl⟩
    show Value.bool _ = _
    congr 1; symm
    simp [rSome, *]
theorem plan_rules4 (p : Plan) {X : Nat} (M : Mem) : Ctr Tryz.prog 170 [.agg (encPlan p).toArray, .pointer (some ⟨X, 0, none⟩)] M [rb1 X] (fun v _ L' => v = .bool (rNone p && decide (p.a = 0) && decide (p.b = 0)) ∧ L' = [rb1 X]) := by
  refine ctr Tryz.func170 rfl Tryz.ntmps170 rfl fun w => ?_
  refine c_seq <| c_region <| jbox rfl rfl rfl fun B1 => ja rfl rfl <| j_nil <| p_thn <| c_seq <| c_region <| jld1 1 rfl rfl rfl rfl <| jldw 0 rfl rfl rfl (len_plan _) <| jcallv rfl rfl rfl (plan_rules1 _ _) <| jm rfl rfl <| jgs rfl rfl (fun hb2 => ?_) (fun hb2 => ?_)
  · have phb2 := hb2; try simp at phb2
    refine jg rfl rfl hb2 <| jfa rfl rfl rfl <| jg rfl rfl hb2 <| jld1 0 rfl rfl rfl rfl <| jg rfl rfl hb2 <| jeql rfl rfl rfl <| jpick_t rfl rfl hb2 rfl <| jm rfl rfl <| jgs rfl rfl (fun hb3 => ?_) (fun hb3 => ?_)
    · have phb3 := hb3; try simp at phb3
      refine jg rfl rfl hb3 <| jfa rfl rfl rfl <| jg rfl rfl hb3 <| jld1 0 rfl rfl rfl rfl <| jg rfl rfl hb3 <| jeql rfl rfl rfl <| jpick_t rfl rfl hb3 rfl <| ja rfl rfl <| j_nil <| p_thn <| c_ret <| ?_
      refine jp_perm (fr_s <| fr_0) <| ?_
      refine p_retK (ap_s <| ap_0) rfl rfl (.tmp rfl <| .nil) ?_
      refine ⟨?_, rfl⟩
      show Value.bool _ = _
      congr 1; symm
      simp [*]
    · have phb3 := hb3; try simp at phb3
      refine jg_off rfl rfl rfl hb3 <| jg_off rfl rfl rfl hb3 <| jg_off rfl rfl rfl hb3 <| jpick_f rfl rfl hb3 rfl <| ja rfl rfl <| j_nil <| p_thn <| c_ret <| ?_
      refine jp_perm (fr_s <| fr_0) <| ?_
      refine p_retK (ap_s <| ap_0) rfl rfl (.tmp rfl <| .nil) ?_
      refine ⟨?_, rfl⟩
      show Value.bool _ = _
      congr 1; symm
      simp [*]
  · have phb2 := hb2; try simp at phb2
    refine jg_off rfl rfl rfl hb2 <| jg_off rfl rfl rfl hb2 <| jg_off rfl rfl rfl hb2 <| jpick_f rfl rfl hb2 rfl <| jm rfl rfl <| jg_off rfl rfl rfl rfl <| jg_off rfl rfl rfl rfl <| jg_off rfl rfl rfl rfl <| jpick_f rfl rfl rfl rfl <| ja rfl rfl <| j_nil <| p_thn <| c_ret <| ?_
    refine jp_perm (fr_s <| fr_0) <| ?_
    refine p_retK (ap_s <| ap_0) rfl rfl (.tmp rfl <| .nil) ?_
    refine ⟨?_, rfl⟩
    show Value.bool _ = _
    congr 1; symm
    simp [*]
theorem plan_rules5 (p : Plan) {X : Nat} (M : Mem) : Ctr Tryz.prog 171 [.agg (encPlan p).toArray, .pointer (some ⟨X, 0, none⟩)] M [rb1 X] (fun v _ L' => v = .bool (rNone p && decide (p.a ≤ p.b)) ∧ L' = [rb1 X]) := by
  refine ctr Tryz.func171 rfl Tryz.ntmps171 rfl fun w => ?_
  refine c_seq <| c_region <| jbox rfl rfl rfl fun B1 => ja rfl rfl <| j_nil <| p_thn <| c_seq <| c_region <| jld1 1 rfl rfl rfl rfl <| jldw 0 rfl rfl rfl (len_plan _) <| jcallv rfl rfl rfl (plan_rules1 _ _) <| jm rfl rfl <| jgs rfl rfl (fun hb2 => ?_) (fun hb2 => ?_)
  · have phb2 := hb2; try simp at phb2
    refine jg rfl rfl hb2 <| jfa rfl rfl rfl <| jg rfl rfl hb2 <| jld1 0 rfl rfl rfl rfl <| jg rfl rfl hb2 <| jfa rfl rfl rfl <| jg rfl rfl hb2 <| jld1 0 rfl rfl rfl rfl <| jg rfl rfl hb2 <| jleq rfl rfl rfl <| jpick_t rfl rfl hb2 rfl <| ja rfl rfl <| j_nil <| p_thn <| c_ret <| ?_
    refine jp_perm (fr_s <| fr_0) <| ?_
    refine p_retK (ap_s <| ap_0) rfl rfl (.tmp rfl <| .nil) ?_
    refine ⟨?_, rfl⟩
    show Value.bool _ = _
    congr 1; symm
    simp [*]
  · have phb2 := hb2; try simp at phb2
    refine jg_off rfl rfl rfl hb2 <| jg_off rfl rfl rfl hb2 <| jg_off rfl rfl rfl hb2 <| jg_off rfl rfl rfl hb2 <| jg_off rfl rfl rfl hb2 <| jpick_f rfl rfl hb2 rfl <| ja rfl rfl <| j_nil <| p_thn <| c_ret <| ?_
    refine jp_perm (fr_s <| fr_0) <| ?_
    refine p_retK (ap_s <| ap_0) rfl rfl (.tmp rfl <| .nil) ?_
    refine ⟨?_, rfl⟩
    show Value.bool _ = _
    congr 1; symm
    simp [*]
theorem plan_rules6 (p : Plan) (hs : p.other.size ≤ 100000) {X : Nat} (M : Mem) : Ctr Tryz.prog 172 [.agg (encPlan p).toArray, .pointer (some ⟨X, 0, none⟩)] M [rb2 X] (fun v _ L' => v = .bool (rOther p && decide (1 ≤ p.a) && decide (p.b = 0)) ∧ L' = [rb2 X]) := by
  refine ctr Tryz.func172 rfl Tryz.ntmps172 rfl fun w => ?_
  refine c_seq <| c_region <| jbox rfl rfl rfl fun B1 => ja rfl rfl <| j_nil <| p_thn <| c_seq <| c_region <| jld1 1 rfl rfl rfl rfl <| jldw 0 rfl rfl rfl (len_plan _) <| jcallv rfl rfl rfl (plan_rules2 _ hs _) <| jm rfl rfl <| jgs rfl rfl (fun hb2 => ?_) (fun hb2 => ?_)
  · have phb2 := hb2; try simp at phb2
    refine jg rfl rfl hb2 <| jfa rfl rfl rfl <| jg rfl rfl hb2 <| jld1 0 rfl rfl rfl rfl <| jg rfl rfl hb2 <| jgeq rfl rfl rfl <| jpick_t rfl rfl hb2 rfl <| jm rfl rfl <| jgs rfl rfl (fun hb3 => ?_) (fun hb3 => ?_)
    · have phb3 := hb3; try simp at phb3
      refine jg rfl rfl hb3 <| jfa rfl rfl rfl <| jg rfl rfl hb3 <| jld1 0 rfl rfl rfl rfl <| jg rfl rfl hb3 <| jeql rfl rfl rfl <| jpick_t rfl rfl hb3 rfl <| ja rfl rfl <| j_nil <| p_thn <| c_ret <| ?_
      refine jp_perm (fr_s <| fr_0) <| ?_
      refine p_retK (ap_s <| ap_0) rfl rfl (.tmp rfl <| .nil) ?_
      refine ⟨?_, rfl⟩
      show Value.bool _ = _
      congr 1; symm
      simp [*]
    · have phb3 := hb3; try simp at phb3
      refine jg_off rfl rfl rfl hb3 <| jg_off rfl rfl rfl hb3 <| jg_off rfl rfl rfl hb3 <| jpick_f rfl rfl hb3 rfl <| ja rfl rfl <| j_nil <| p_thn <| c_ret <| ?_
      refine jp_perm (fr_s <| fr_0) <| ?_
      refine p_retK (ap_s <| ap_0) rfl rfl (.tmp rfl <| .nil) ?_
      refine ⟨?_, rfl⟩
      show Value.bool _ = _
      congr 1; symm
      simp [*]
  · have phb2 := hb2; try simp at phb2
    refine jg_off rfl rfl rfl hb2 <| jg_off rfl rfl rfl hb2 <| jg_off rfl rfl rfl hb2 <| jpick_f rfl rfl hb2 rfl <| jm rfl rfl <| jg_off rfl rfl rfl rfl <| jg_off rfl rfl rfl rfl <| jg_off rfl rfl rfl rfl <| jpick_f rfl rfl rfl rfl <| ja rfl rfl <| j_nil <| p_thn <| c_ret <| ?_
    refine jp_perm (fr_s <| fr_0) <| ?_
    refine p_retK (ap_s <| ap_0) rfl rfl (.tmp rfl <| .nil) ?_
    refine ⟨?_, rfl⟩
    show Value.bool _ = _
    congr 1; symm
    simp [*]
theorem plan_rules7 (p : Plan) (hs : p.other.size ≤ 100000) {X : Nat} (M : Mem) : Ctr Tryz.prog 173 [.agg (encPlan p).toArray, .pointer (some ⟨X, 0, none⟩)] M [rb2 X] (fun v _ L' => v = .bool (rOther p && decide (p.a = 0) && decide (p.b = 0)) ∧ L' = [rb2 X]) := by
  refine ctr Tryz.func173 rfl Tryz.ntmps173 rfl fun w => ?_
  refine c_seq <| c_region <| jbox rfl rfl rfl fun B1 => ja rfl rfl <| j_nil <| p_thn <| c_seq <| c_region <| jld1 1 rfl rfl rfl rfl <| jldw 0 rfl rfl rfl (len_plan _) <| jcallv rfl rfl rfl (plan_rules2 _ hs _) <| jm rfl rfl <| jgs rfl rfl (fun hb2 => ?_) (fun hb2 => ?_)
  · have phb2 := hb2; try simp at phb2
    refine jg rfl rfl hb2 <| jfa rfl rfl rfl <| jg rfl rfl hb2 <| jld1 0 rfl rfl rfl rfl <| jg rfl rfl hb2 <| jeql rfl rfl rfl <| jpick_t rfl rfl hb2 rfl <| jm rfl rfl <| jgs rfl rfl (fun hb3 => ?_) (fun hb3 => ?_)
    · have phb3 := hb3; try simp at phb3
      refine jg rfl rfl hb3 <| jfa rfl rfl rfl <| jg rfl rfl hb3 <| jld1 0 rfl rfl rfl rfl <| jg rfl rfl hb3 <| jeql rfl rfl rfl <| jpick_t rfl rfl hb3 rfl <| ja rfl rfl <| j_nil <| p_thn <| c_ret <| ?_
      refine jp_perm (fr_s <| fr_0) <| ?_
      refine p_retK (ap_s <| ap_0) rfl rfl (.tmp rfl <| .nil) ?_
      refine ⟨?_, rfl⟩
      show Value.bool _ = _
      congr 1; symm
      simp [*]
    · have phb3 := hb3; try simp at phb3
      refine jg_off rfl rfl rfl hb3 <| jg_off rfl rfl rfl hb3 <| jg_off rfl rfl rfl hb3 <| jpick_f rfl rfl hb3 rfl <| ja rfl rfl <| j_nil <| p_thn <| c_ret <| ?_
      refine jp_perm (fr_s <| fr_0) <| ?_
      refine p_retK (ap_s <| ap_0) rfl rfl (.tmp rfl <| .nil) ?_
      refine ⟨?_, rfl⟩
      show Value.bool _ = _
      congr 1; symm
      simp [*]
  · have phb2 := hb2; try simp at phb2
    refine jg_off rfl rfl rfl hb2 <| jg_off rfl rfl rfl hb2 <| jg_off rfl rfl rfl hb2 <| jpick_f rfl rfl hb2 rfl <| jm rfl rfl <| jg_off rfl rfl rfl rfl <| jg_off rfl rfl rfl rfl <| jg_off rfl rfl rfl rfl <| jpick_f rfl rfl rfl rfl <| ja rfl rfl <| j_nil <| p_thn <| c_ret <| ?_
    refine jp_perm (fr_s <| fr_0) <| ?_
    refine p_retK (ap_s <| ap_0) rfl rfl (.tmp rfl <| .nil) ?_
    refine ⟨?_, rfl⟩
    show Value.bool _ = _
    congr 1; symm
    simp [*]
theorem plan_rules (M : Mem) : Ctr Tryz.prog 128 [] M [] (fun v _ L' => ∃ i : Nat × Nat × Nat, True ∧ v = .map (some i.1) ∧ L' = [.mp i.1 (encMap (fun n => .int .i64 n) (ruleM i.2.1 i.2.2)), rb1 i.2.1, rb2 i.2.2]) := by
  refine ctr Tryz.func128 rfl Tryz.ntmps128 rfl fun w => ?_
  refine c_seq <| c_region <| ja rfl rfl <| j_nil <| p_thn <| c_seq <| c_region <| jalloc (c := [.nilFunc]) rfl fun B1 => jstw 0 rfl rfl rfl rfl rfl rfl rfl <| j_nil <| p_thn <| c_seq <| c_region <| jalloc (c := [.nilFunc]) rfl fun B2 => jstw 0 rfl rfl rfl rfl rfl rfl rfl <| j_nil <| p_thn <| c_seq <| c_region <| jfunc rfl rfl rfl <| ja rfl rfl <| j_nil <| p_thn <| c_seq <| c_region <| jmm rfl fun BM => jm rfl rfl <| jins (m := []) (k := 1) 0 Tryz.underlying169 rfl rfl rfl rfl (by simp) <| jm rfl rfl <| jins (k := 2) 0 Tryz.underlying169 rfl rfl rfl rfl (by simp) <| jfunc rfl rfl rfl <| jins (k := 3) 0 Tryz.underlying169 rfl rfl rfl rfl (by simp) <| jfunc rfl rfl rfl <| jins (k := 4) 0 Tryz.underlying169 rfl rfl rfl rfl (by simp) <| jfunc rfl rfl rfl <| jins (k := 5) 0 Tryz.underlying169 rfl rfl rfl rfl (by simp) <| jfunc rfl rfl rfl <| jins (k := 6) 0 Tryz.underlying169 rfl rfl rfl rfl (by simp) <| jm rfl rfl <| ja rfl rfl <| j_nil <| p_thn <| c_ret <| ?_
  refine jp_perm (fr_s <| fr_0) <| jp_perm (fr_s <| fr_s <| fr_0) <| jp_perm (fr_s <| fr_s <| fr_0) <| ?_
  refine p_retK (ap_s <| ap_s <| ap_s <| ap_0) rfl rfl (.tmp rfl <| .nil) ?_
  exact ⟨(_, _, _), trivial, rfl, rfl⟩
section
variable {cx : Cx} {Q : Post} {E : Env} {M : Mem} {L : List Ent} {ops : Array Oper} {d T : Nat} {pos : String} {af : Array Edge} {rest : List Oper} {x y z : Operand} {v u : Value}
theorem rule_kinds {B1 B2 : Nat} {k : Int} (h : ((ruleM B1 B2).find? fun q => decide (q.1 = k)).isSome = true) : k = 1 ∨ k = 2 ∨ k = 3 ∨ k = 4 ∨ k = 5 ∨ k = 6 := by
  simp only [ruleM, List.find?_cons, List.find?_nil] at h
  by_cases h1 : (1 : Int) = k
  · omega
  by_cases h2 : (2 : Int) = k
  · omega
  by_cases h3 : (3 : Int) = k
  · omega
  by_cases h4 : (4 : Int) = k
  · omega
  by_cases h5 : (5 : Int) = k
  · omega
  by_cases h6 : (6 : Int) = k
  · omega
  simp [h1, h2, h3, h4, h5, h6] at h
theorem rule_some {B1 B2 : Nat} {k : Int} : ((ruleM B1 B2).find? fun q => decide (q.1 = k)).isSome = (decide (1 ≤ k) && decide (k ≤ 6)) := by
  cases h : ((ruleM B1 B2).find? fun q => decide (q.1 = k)).isSome with
  | true => have := rule_kinds h; symm; simp; omega
  | false =>
    symm
    rw [Bool.and_eq_false_iff, decide_eq_false_iff_not, decide_eq_false_iff_not]
    have : ¬ (1 ≤ k ∧ k ≤ 6) := fun hk => by
      have : k = 1 ∨ k = 2 ∨ k = 3 ∨ k = 4 ∨ k = 5 ∨ k = 6 := by omega
      rcases this with rfl | rfl | rfl | rfl | rfl | rfl <;> simp [ruleM, List.find?_cons] at h
    omega
theorem jrule {args tys : Array _} {p : Plan} {B1 B2 : Nat} {Lr : List Ent} (hP : cx.P = Tryz.prog) (hn : Nat.blt d cx.n = true) (hs : p.other.size ≤ 100000) (hk1 : ((ruleM B1 B2).find? fun q => decide (q.1 = p.kind)).isSome = true)
    (hx : ev E x = some ((((ruleM B1 B2).find? fun q => decide (q.1 = p.kind)).map (·.2)).getD .nilFunc)) (ha : evL E args.toList = some [.agg (encPlan p).toArray]) (hL : L = rb1 B1 :: rb2 B2 :: Lr)
    (hk : J cx ops Q rest ((d, .bool (ruleB p)) :: E) M L) : J cx ops Q (⟨some d, .call ⟨.value x, args, tys⟩, T, pos, af, none⟩ :: rest) E M L := by
  subst hL
  haveI : FnI cx.P 169 := by rw [hP]; exact inferInstance
  haveI : FnI cx.P 170 := by rw [hP]; exact inferInstance
  haveI : FnI cx.P 171 := by rw [hP]; exact inferInstance
  haveI : FnI cx.P 172 := by rw [hP]; exact inferInstance
  haveI : FnI cx.P 173 := by rw [hP]; exact inferInstance
  have go1 : ∀ (g : Nat) [FnI cx.P g], ev E x = some (cl g B1) → Ctr cx.P g [.agg (encPlan p).toArray, .pointer (some ⟨B1, 0, none⟩)] M [rb1 B1] (fun v _ L' => v = .bool (ruleB p) ∧ L' = [rb1 B1]) →
      J cx ops Q (⟨some d, .call ⟨.value x, args, tys⟩, T, pos, af, none⟩ :: rest) E M (rb1 B1 :: rb2 B2 :: Lr) := fun g _ hx hc =>
    jcallb (fi := []) (ca := [.pointer (some ⟨B1, 0, none⟩)]) hn hx ha (ap_s ap_0) hc (ap_s ap_0) hk
  have go2 : ∀ (g : Nat) [FnI cx.P g], ev E x = some (cl g B2) → Ctr cx.P g [.agg (encPlan p).toArray, .pointer (some ⟨B2, 0, none⟩)] M [rb2 B2] (fun v _ L' => v = .bool (ruleB p) ∧ L' = [rb2 B2]) →
      J cx ops Q (⟨some d, .call ⟨.value x, args, tys⟩, T, pos, af, none⟩ :: rest) E M (rb1 B1 :: rb2 B2 :: Lr) := fun g _ hx hc =>
    j_perm (fr_s fr_0) (jcallb (fi := []) (ca := [.pointer (some ⟨B2, 0, none⟩)]) hn hx ha (ap_s ap_0) hc (ap_s ap_0) (j_perm (fr_s fr_0) hk))
  rcases rule_kinds hk1 with h | h | h | h | h | h
  · rw [h] at hx
    refine go1 _ hx (by rw [hP]; exact (plan_rules3 p M).mono fun v _ L' hv => ⟨by rw [hv.1]; unfold ruleB; rw [if_pos (.inl h)], hv.2⟩)
  · rw [h] at hx
    refine go1 _ hx (by rw [hP]; exact (plan_rules3 p M).mono fun v _ L' hv => ⟨by rw [hv.1]; unfold ruleB; rw [if_pos (.inr h)], hv.2⟩)
  · rw [h] at hx
    refine go1 _ hx (by rw [hP]; exact (plan_rules4 p M).mono fun v _ L' hv => ⟨by rw [hv.1]; unfold ruleB; rw [if_neg (by omega), if_pos h], hv.2⟩)
  · rw [h] at hx
    refine go1 _ hx (by rw [hP]; exact (plan_rules5 p M).mono fun v _ L' hv => ⟨by rw [hv.1]; unfold ruleB; rw [if_neg (by omega), if_neg (by omega), if_pos h], hv.2⟩)
  · rw [h] at hx
    refine go2 _ hx (by rw [hP]; exact (plan_rules6 p hs M).mono fun v _ L' hv => ⟨by rw [hv.1]; unfold ruleB; rw [if_neg (by omega), if_neg (by omega), if_neg (by omega), if_pos h], hv.2⟩)
  · rw [h] at hx
    refine go2 _ hx (by rw [hP]; exact (plan_rules7 p hs M).mono fun v _ L' hv => ⟨by rw [hv.1]; unfold ruleB; rw [if_neg (by omega), if_neg (by omega), if_neg (by omega), if_neg (by omega)], hv.2⟩)
end
attribute [local irreducible] ruleB

theorem plan_Right (p : Plan) (hs1 : p.name.size ≤ 100000) (hs2 : p.other.size ≤ 100000) (M : Mem) : Ctr Tryz.prog 77 [.agg (encPlan p).toArray] M [] (fun v _ _ => v = .bool (plRight p)) := by
  refine ctr Tryz.func77 rfl Tryz.ntmps77 rfl fun w => ?_
  refine c_seq <| c_region <| jbox rfl rfl rfl fun B1 => ja rfl rfl <| j_nil <| p_thn <| c_seq <| c_draw [2] (by kernel_rfl) <| jd_z (i := 1) rfl rfl (by kernel_rfl) (by kernel_rfl) (by kernel_rfl) (by kernel_rfl) rfl (zfa rfl rfl) <| jd_first (i := 2) rfl rfl (by kernel_rfl) (by kernel_rfl) (by kernel_rfl) (by kernel_rfl) (by kernel_rfl) rfl (fun _ h => h) (yld1 0 rfl rfl rfl) <| jd_one (i := 0) (by kernel_rfl) rfl <| jcallx rfl rfl rfl ap_0 (plan_rules _) (fun _ => ap_s (ap_s (ap_s ap_0))) fun i _ => j_nil <| p_jd rfl (.inr (fun _ h => ((((h.perm (fr_s <| fr_s <| fr_0)).perm (fr_s <| fr_s <| fr_0)).perm (fr_s <| fr_s <| fr_0)).drop (L := [_, _, _])))) <| jd_one (i := 3) (by kernel_rfl) rfl <| jmget (k := p.kind) (m := ruleM i.2.1 i.2.2) 0 rfl Tryz.underlying169 Tryz.zeroValue91 rfl rfl rfl <| j_nil <| p_jd rfl (.inl (by kernel_rfl)) <| jd_z (i := 4) rfl rfl (by kernel_rfl) (by kernel_rfl) (by kernel_rfl) (by kernel_rfl) rfl (zm rfl) <| jd_z (i := 5) rfl rfl (by kernel_rfl) (by kernel_rfl) (by kernel_rfl) (by kernel_rfl) rfl (zext rfl rfl) <| jd_z (i := 6) rfl rfl (by kernel_rfl) (by kernel_rfl) (by kernel_rfl) (by kernel_rfl) rfl (zext rfl rfl) <| jd_z (i := 7) rfl rfl (by kernel_rfl) (by kernel_rfl) (by kernel_rfl) (by kernel_rfl) rfl (za rfl) <| jd_z (i := 8) rfl rfl (by kernel_rfl) (by kernel_rfl) (by kernel_rfl) (by kernel_rfl) rfl (za rfl) <| jd_done (by kernel_rfl) <| p_thn <| c_seq <| c_region <| jm rfl rfl <| jm rfl rfl <| jgs rfl rfl (fun hb2 => ?_) (fun hb2 => ?_)
  · have phb2 := hb2; try simp at phb2
    refine jg rfl rfl hb2 <| jfa rfl rfl rfl <| jg rfl rfl hb2 <| jld1 3 rfl rfl rfl rfl <| jg rfl rfl hb2 <| jcallv rfl rfl rfl (field_Name _ hs1 _) <| jpick_t rfl rfl hb2 rfl <| jm rfl rfl <| jgs rfl rfl (fun hb3 => ?_) (fun hb3 => ?_)
    · have phb3 := hb3; try simp at phb3
      refine jg rfl rfl hb3 <| jfa rfl rfl rfl <| jg rfl rfl hb3 <| jld1 3 rfl rfl rfl rfl <| jg rfl rfl hb3 <| jcallv rfl rfl rfl (num_Is _ _) <| jpick_t rfl rfl hb3 rfl <| jm rfl rfl <| jgs rfl rfl (fun hb4 => ?_) (fun hb4 => ?_)
      · have phb4 := hb4; try simp at phb4
        refine jg rfl rfl hb4 <| jfa rfl rfl rfl <| jg rfl rfl hb4 <| jld1 3 rfl rfl rfl rfl <| jg rfl rfl hb4 <| jcallv rfl rfl rfl (num_Is _ _) <| jpick_t rfl rfl hb4 rfl <| jm rfl rfl <| jgs rfl rfl (fun hb5 => ?_) (fun hb5 => ?_)
        · have phb5 := hb5; try simp at phb5
          refine jg rfl rfl hb5 <| jm rfl rfl <| jg rfl rfl hb5 <| jldw 3 rfl rfl rfl (len_plan _) <| jg rfl rfl hb5 <| j_perm (fr_s <| fr_s <| fr_0) <| j_perm (fr_s <| fr_s <| fr_0) <| jrule rfl rfl hs2 hb2 rfl rfl rfl <| jpick_t rfl rfl hb5 rfl <| ja rfl rfl <| j_nil <| p_thn <| c_ret <| ?_
          refine p_ret0 rfl rfl (.tmp rfl <| .nil) ?_
          show Value.bool _ = _
          congr 1; symm
          simp [plRight, ← rule_some (B1 := i.2.1) (B2 := i.2.2), *]
        · have phb5 := hb5; try simp at phb5
          refine jg_off rfl rfl rfl hb5 <| jg_off rfl rfl rfl hb5 <| jg_off rfl rfl rfl hb5 <| jpick_f rfl rfl hb5 rfl <| ja rfl rfl <| j_nil <| p_thn <| c_ret <| ?_
          refine p_ret0 rfl rfl (.tmp rfl <| .nil) ?_
          show Value.bool _ = _
          congr 1; symm
          simp [plRight, ← rule_some (B1 := i.2.1) (B2 := i.2.2), *]
      · have phb4 := hb4; try simp at phb4
        refine jg_off rfl rfl rfl hb4 <| jg_off rfl rfl rfl hb4 <| jg_off rfl rfl rfl hb4 <| jpick_f rfl rfl hb4 rfl <| jm rfl rfl <| jg_off rfl rfl rfl rfl <| jg_off rfl rfl rfl rfl <| jg_off rfl rfl rfl rfl <| jpick_f rfl rfl rfl rfl <| ja rfl rfl <| j_nil <| p_thn <| c_ret <| ?_
        refine p_ret0 rfl rfl (.tmp rfl <| .nil) ?_
        show Value.bool _ = _
        congr 1; symm
        simp [plRight, ← rule_some (B1 := i.2.1) (B2 := i.2.2), *]
    · have phb3 := hb3; try simp at phb3
      refine jg_off rfl rfl rfl hb3 <| jg_off rfl rfl rfl hb3 <| jg_off rfl rfl rfl hb3 <| jpick_f rfl rfl hb3 rfl <| jm rfl rfl <| jg_off rfl rfl rfl rfl <| jg_off rfl rfl rfl rfl <| jg_off rfl rfl rfl rfl <| jpick_f rfl rfl rfl rfl <| jm rfl rfl <| jg_off rfl rfl rfl rfl <| jg_off rfl rfl rfl rfl <| jg_off rfl rfl rfl rfl <| jpick_f rfl rfl rfl rfl <| ja rfl rfl <| j_nil <| p_thn <| c_ret <| ?_
      refine p_ret0 rfl rfl (.tmp rfl <| .nil) ?_
      show Value.bool _ = _
      congr 1; symm
      simp [plRight, ← rule_some (B1 := i.2.1) (B2 := i.2.2), *]
  · have phb2 := hb2; try simp at phb2
    refine jg_off rfl rfl rfl hb2 <| jg_off rfl rfl rfl hb2 <| jg_off rfl rfl rfl hb2 <| jpick_f rfl rfl hb2 rfl <| jm rfl rfl <| jg_off rfl rfl rfl rfl <| jg_off rfl rfl rfl rfl <| jg_off rfl rfl rfl rfl <| jpick_f rfl rfl rfl rfl <| jm rfl rfl <| jg_off rfl rfl rfl rfl <| jg_off rfl rfl rfl rfl <| jg_off rfl rfl rfl rfl <| jpick_f rfl rfl rfl rfl <| jm rfl rfl <| jg_off rfl rfl rfl rfl <| jg_off rfl rfl rfl rfl <| jg_off rfl rfl rfl rfl <| jpick_f rfl rfl rfl rfl <| ja rfl rfl <| j_nil <| p_thn <| c_ret <| ?_
    refine p_ret0 rfl rfl (.tmp rfl <| .nil) ?_
    show Value.bool _ = _
    congr 1; symm
    simp [plRight, ← rule_some (B1 := i.2.1) (B2 := i.2.2), *]
theorem plan_Fields (l : List Field) (A : Option Addr) (cap : Nat) (hf : FsOk l) (M : Mem) (hS : SlR rField M A cap l) : Ctr Tryz.prog 76 [.slice A l.length cap] M [] (fun v _ _ => v = .bool (plFields l)) := by
  have hl := hf.1
  refine ctr Tryz.func76 rfl Tryz.ntmps76 rfl fun w => ?_
  refine c_seq <| c_region <| ja rfl rfl <| j_nil <| p_thn <| c_seq <| c_seq <| c_region <| jm rfl rfl <| jlen rfl rfl <| jm rfl rfl <| j_nil <| p_thn <| c_block <| c_lp (X := Nat) (fun k => k ≤ l.length ∧ (List.range k).all (fsOk l) = true) (fun k => l.length - k) (fun k => [(7, vi (k : Int))]) [6, 5, 0] 0 ?_ (sub_c rfl <| sub_c rfl <| sub_c rfl <| sub_c rfl <| sub_n) ?_
  · exact ⟨Nat.zero_le _, rfl⟩
  · intro k hI
    obtain ⟨hk, hall⟩ := hI
    refine c_seq <| c_region <| jlss rfl rfl rfl <| j_nil <| p_thn <| c_seq <| c_cond rfl (fun hb1 => ?_) (fun hb1 => ?_)
    · have phb1 := hb1; try simp at phb1
      have hfk := hf.2 _ (ix_mem (z := fZ) (xs := l) (k := k) (by omega))
      refine c_skip <| p_thn <| c_seq <| c_block <| c_seq <| c_region <| jm rfl rfl <| ji rfl rfl rfl (by omega) (by omega) (hS.adr (i := k) (by omega)) <| jle rfl hS (ix_get (z := fZ) (i := k) (by omega)) rfl rfl fun c11 hc11 => ?_
      obtain ⟨Af11, capf11, rfl, hH11⟩ := hc11
      refine jalloc rfl fun B2 => ja rfl rfl <| jstw 0 rfl rfl rfl rfl (len_F _ _ _) (one_F _ _ _) (len_F _ _ _) <| j_nil <| p_thn <| c_seq <| c_draw [0, 2, 4, 5, 6, 7, 8, 9, 10, 11, 12, 13, 14, 15, 16, 17] (by kernel_rfl) <| jd_first (i := 0) rfl rfl (by kernel_rfl) (by kernel_rfl) (by kernel_rfl) (by kernel_rfl) (by kernel_rfl) rfl (fun _ h => h) (yldw 0 rfl rfl (len_F _ _ _)) <| jd_one (i := 1) (by kernel_rfl) rfl <| jcallv rfl rfl rfl (field_Right _ _ _ hfk.1 hfk.2 _ hH11) <| j_nil <| p_jd rfl (.inr (fun _ h => h)) <| jd_first (i := 2) rfl rfl (by kernel_rfl) (by kernel_rfl) (by kernel_rfl) (by kernel_rfl) (by kernel_rfl) rfl (fun _ h => h) (ynot rfl) <| jd_z (i := 3) rfl rfl (by kernel_rfl) (by kernel_rfl) (by kernel_rfl) (by kernel_rfl) rfl (zm rfl) <| jd_split (j := 0) (t := 15) rfl (fun hb3 => ?_) (fun hb3 => ?_)
      · have phb3 := hb3; try simp at phb3
        refine jd_off (i := 4) rfl rfl (by kernel_rfl) (by kernel_rfl) (by kernel_rfl) (by kernel_rfl) rfl rfl rfl hb3 <| jd_off (i := 5) rfl rfl (by kernel_rfl) (by kernel_rfl) (by kernel_rfl) (by kernel_rfl) rfl rfl rfl hb3 <| jd_off (i := 6) rfl rfl (by kernel_rfl) (by kernel_rfl) (by kernel_rfl) (by kernel_rfl) rfl rfl rfl hb3 <| jd_u (i := 7) rfl rfl (by kernel_rfl) (by kernel_rfl) (by kernel_rfl) (by kernel_rfl) rfl rfl rfl <| jd_u (i := 8) rfl rfl (by kernel_rfl) (by kernel_rfl) (by kernel_rfl) (by kernel_rfl) rfl rfl rfl <| jd_u (i := 9) rfl rfl (by kernel_rfl) (by kernel_rfl) (by kernel_rfl) (by kernel_rfl) rfl rfl rfl <| jd_u (i := 10) rfl rfl (by kernel_rfl) (by kernel_rfl) (by kernel_rfl) (by kernel_rfl) rfl rfl rfl <| jd_u (i := 11) rfl rfl (by kernel_rfl) (by kernel_rfl) (by kernel_rfl) (by kernel_rfl) rfl rfl rfl <| jd_u (i := 12) rfl rfl (by kernel_rfl) (by kernel_rfl) (by kernel_rfl) (by kernel_rfl) rfl rfl rfl <| jd_u (i := 13) rfl rfl (by kernel_rfl) (by kernel_rfl) (by kernel_rfl) (by kernel_rfl) rfl rfl rfl <| jd_u (i := 14) rfl rfl (by kernel_rfl) (by kernel_rfl) (by kernel_rfl) (by kernel_rfl) rfl rfl rfl <| jd_u (i := 15) rfl rfl (by kernel_rfl) (by kernel_rfl) (by kernel_rfl) (by kernel_rfl) rfl rfl rfl <| jd_off (i := 16) rfl rfl (by kernel_rfl) (by kernel_rfl) (by kernel_rfl) (by kernel_rfl) rfl rfl rfl hb3 <| jd_first (i := 17) rfl rfl (by kernel_rfl) (by kernel_rfl) (by kernel_rfl) (by kernel_rfl) (by kernel_rfl) rfl (fun _ h => h) (ypick_t rfl hb3 rfl) <| jd_done (by kernel_rfl) <| p_thn <| c_cond_kt rfl rfl <| c_seq <| c_region <| ja rfl rfl <| j_nil <| p_thn <| c_ret <| p_inb_ret <| p_thn_ret <| p_lp_ret <| p_inb_ret <| p_thn_ret <| ?_
        refine p_ret0 rfl rfl (.tmp rfl <| .nil) ?_
        show Value.bool _ = _
        congr 1; symm
        unfold plFields
        rw [range_not (k := k) (by omega) (by unfold fsOk; rw [phb3]; rfl)]; rfl
      · have phb3 := hb3; try simp at phb3
        refine jd_first_g (i := 4) rfl rfl (by kernel_rfl) (by kernel_rfl) (by kernel_rfl) (by kernel_rfl) (by kernel_rfl) rfl rfl rfl hb3 (fun _ h => h) (ym rfl) <| jd_first_g (i := 5) rfl rfl (by kernel_rfl) (by kernel_rfl) (by kernel_rfl) (by kernel_rfl) (by kernel_rfl) rfl rfl rfl hb3 (fun _ h => h) (ygtr rfl rfl) <| jd_first_g (i := 6) rfl rfl (by kernel_rfl) (by kernel_rfl) (by kernel_rfl) (by kernel_rfl) (by kernel_rfl) rfl rfl rfl hb3 (fun _ h => h) (ym rfl) <| jd_split (j := 0) (t := 18) rfl (fun hb4 => ?_) (fun hb4 => ?_)
        · have phb4 := hb4; try simp at phb4
          obtain ⟨j, hj⟩ : ∃ j, k = j + 1 := ⟨k - 1, by omega⟩
          have hj2 : k - 1 = j := by omega
          refine jd_first_g (i := 7) rfl rfl (by kernel_rfl) (by kernel_rfl) (by kernel_rfl) (by kernel_rfl) (by kernel_rfl) rfl rfl rfl hb4 (fun _ h => h) (ym rfl) <| jd_first_g (i := 8) rfl rfl (by kernel_rfl) (by kernel_rfl) (by kernel_rfl) (by kernel_rfl) (by kernel_rfl) rfl rfl rfl hb4 (fun _ h => h) (ym rfl) <| jd_first_g (i := 9) rfl rfl (by kernel_rfl) (by kernel_rfl) (by kernel_rfl) (by kernel_rfl) (by kernel_rfl) rfl rfl rfl hb4 (fun _ h => h) (ysub (r := ((j : Nat) : Int)) rfl rfl (by rw [wr (by omega) (by omega)]; omega)) <| jd_first_g (i := 10) rfl rfl (by kernel_rfl) (by kernel_rfl) (by kernel_rfl) (by kernel_rfl) (by kernel_rfl) rfl rfl rfl hb4 (fun _ h => h) (yi rfl rfl (by omega) (by omega) (hS.adr (i := j) (by omega))) <| jd_first_g (i := 11) rfl rfl (by kernel_rfl) (by kernel_rfl) (by kernel_rfl) (by kernel_rfl) (by kernel_rfl) rfl rfl rfl hb4 (fun _ h => h) (yfe rfl rfl (hS.adr (i := j) (by omega))) <| jd_first_g (i := 12) rfl rfl (by kernel_rfl) (by kernel_rfl) (by kernel_rfl) (by kernel_rfl) (by kernel_rfl) rfl rfl rfl hb4 (fun _ h => h) (yle1 (o := 0) hS (ix_get (z := fZ) (i := j) (by omega)) rfl (fun c h => by obtain ⟨_, _, rfl, _⟩ := h; rfl)) <| jd_first_g (i := 13) rfl rfl (by kernel_rfl) (by kernel_rfl) (by kernel_rfl) (by kernel_rfl) (by kernel_rfl) rfl rfl rfl hb4 (fun _ h => h) (yfa rfl rfl) <| jd_first_g (i := 14) rfl rfl (by kernel_rfl) (by kernel_rfl) (by kernel_rfl) (by kernel_rfl) (by kernel_rfl) rfl rfl rfl hb4 (fun _ h => h) (yld1 0 rfl rfl rfl) <| jd_first_g (i := 15) rfl rfl (by kernel_rfl) (by kernel_rfl) (by kernel_rfl) (by kernel_rfl) (by kernel_rfl) rfl rfl rfl hb4 (fun _ h => h) (ysgeq rfl rfl) <| jd_first_g (i := 16) rfl rfl (by kernel_rfl) (by kernel_rfl) (by kernel_rfl) (by kernel_rfl) (by kernel_rfl) rfl rfl rfl hb3 (fun _ h => h) (ypick_t rfl hb4 rfl) <| jd_first (i := 17) rfl rfl (by kernel_rfl) (by kernel_rfl) (by kernel_rfl) (by kernel_rfl) (by kernel_rfl) rfl (fun _ h => h) (ypick_f rfl hb3 rfl) <| jd_done (by kernel_rfl) <| p_thn <| c_cond rfl (fun hb5 => ?_) (fun hb5 => ?_)
          · have phb5 := hb5; try simp at phb5
            refine c_seq <| c_region <| ja rfl rfl <| j_nil <| p_thn <| c_ret <| p_inb_ret <| p_thn_ret <| p_lp_ret <| p_inb_ret <| p_thn_ret <| ?_
            refine p_ret0 rfl rfl (.tmp rfl <| .nil) ?_
            show Value.bool _ = _
            congr 1; symm
            unfold plFields
            rw [range_not (k := k) (by omega) (by unfold fsOk; rw [hj2, phb5, decide_eq_false (by omega), Bool.or_self, Bool.and_false])]; rfl
          · have phb5 := hb5; try simp at phb5
            refine c_skip <| p_inb <| p_thn <| c_region <| jadd rfl rfl rfl (by first | exact wr (by omega) (by omega) | rfl) <| jm rfl rfl <| j_nil <| jp_tk (ap_0) <| ?_
            refine p_lp (k + 1) ?_ ?_ (sub_c rfl <| sub_c rfl <| sub_c rfl <| sub_c rfl <| sub_n) rfl rfl
            · exact ⟨by omega, range_all hall (by unfold fsOk; rw [phb3, Bool.true_and]; first | (rw [hj2, phb5]; simp; done) | simp [*])⟩
            · omega
        · have phb4 := hb4; try simp at phb4
          refine jd_off (i := 7) rfl rfl (by kernel_rfl) (by kernel_rfl) (by kernel_rfl) (by kernel_rfl) rfl rfl rfl hb4 <| jd_off (i := 8) rfl rfl (by kernel_rfl) (by kernel_rfl) (by kernel_rfl) (by kernel_rfl) rfl rfl rfl hb4 <| jd_off (i := 9) rfl rfl (by kernel_rfl) (by kernel_rfl) (by kernel_rfl) (by kernel_rfl) rfl rfl rfl hb4 <| jd_off (i := 10) rfl rfl (by kernel_rfl) (by kernel_rfl) (by kernel_rfl) (by kernel_rfl) rfl rfl rfl hb4 <| jd_off (i := 11) rfl rfl (by kernel_rfl) (by kernel_rfl) (by kernel_rfl) (by kernel_rfl) rfl rfl rfl hb4 <| jd_off (i := 12) rfl rfl (by kernel_rfl) (by kernel_rfl) (by kernel_rfl) (by kernel_rfl) rfl rfl rfl hb4 <| jd_off (i := 13) rfl rfl (by kernel_rfl) (by kernel_rfl) (by kernel_rfl) (by kernel_rfl) rfl rfl rfl hb4 <| jd_off (i := 14) rfl rfl (by kernel_rfl) (by kernel_rfl) (by kernel_rfl) (by kernel_rfl) rfl rfl rfl hb4 <| jd_off (i := 15) rfl rfl (by kernel_rfl) (by kernel_rfl) (by kernel_rfl) (by kernel_rfl) rfl rfl rfl hb4 <| jd_first_g (i := 16) rfl rfl (by kernel_rfl) (by kernel_rfl) (by kernel_rfl) (by kernel_rfl) (by kernel_rfl) rfl rfl rfl hb3 (fun _ h => h) (ypick_f rfl hb4 rfl) <| jd_first (i := 17) rfl rfl (by kernel_rfl) (by kernel_rfl) (by kernel_rfl) (by kernel_rfl) (by kernel_rfl) rfl (fun _ h => h) (ypick_f rfl hb3 rfl) <| jd_done (by kernel_rfl) <| p_thn <| c_cond_kf rfl rfl <| c_skip <| p_inb <| p_thn <| c_region <| jadd rfl rfl rfl (by first | exact wr (by omega) (by omega) | rfl) <| jm rfl rfl <| j_nil <| jp_tk (ap_0) <| ?_
          refine p_lp (k + 1) ?_ ?_ (sub_c rfl <| sub_c rfl <| sub_c rfl <| sub_c rfl <| sub_n) rfl rfl
          · exact ⟨by omega, range_all hall (by unfold fsOk; rw [phb3, Bool.true_and]; first | (rw [hj2, phb5]; simp; done) | simp [*])⟩
          · omega
    · have phb1 := hb1; try simp at phb1
      refine c_exit <| p_thn_exit <| p_lp_exit <| p_inb_exit <| p_thn <| c_seq <| c_region <| jm rfl rfl <| jlen rfl rfl <| jleq rfl rfl rfl <| ja rfl rfl <| j_nil <| p_thn <| c_ret <| ?_
      refine p_ret0 rfl rfl (.tmp rfl <| .nil) ?_
      show Value.bool _ = _
      congr 1; symm
      obtain rfl : k = l.length := by omega
      unfold plFields
      rw [hall, Bool.true_and]; exact decide_eq_decide.2 (by omega)
end Go.Proofs.YtihgpbpcbbgdiaaGreat
