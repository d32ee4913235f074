/- Several texts in one. -/
import Derived.Test.YtihgpbpcbbgdiaaGreatOrd5
import Derived.Test.YtihgpbpcbbgdiaaGreatOrd6
import Derived.Test.YtihgpbpcbbgdiaaGreatOrd8
/- What the functions of package num tell. -/
namespace Go.Proofs.YtihgpbpcbbgdiaaGreat
open Go.RowKit
set_option linter.unusedVariables false
set_option linter.unusedSimpArgs false
def isN (n : Int) : Bool := decide (-1099511627776 ≤ n ∧ n ≤ 1099511627776)
theorem isN_iff {n : Int} : isN n = true ↔ -1099511627776 ≤ n ∧ n ≤ 1099511627776 := by simp [isN]
theorem isN_not {n : Int} : isN n = false ↔ ¬ (-1099511627776 ≤ n ∧ n ≤ 1099511627776) := by simp [isN]
/-- two results: a number, and an error -/
abbrev pr2 (p : Int × Int) : Value := .tuple #[vi p.1, vi p.2]

theorem num_Is (n : Int) (M : Mem) : Ctr Tryz.prog 104 [vi n] M [] (fun r _ _ => r = .bool (isN n)) := by
  refine ctr Tryz.func104 rfl Tryz.ntmps104 rfl fun w => ?_
  refine c_seq <| c_region <| ja rfl rfl <| j_nil <| p_thn <| c_seq <| c_region <| jm rfl rfl <| jgeq rfl rfl rfl <| jm rfl rfl <| jgs rfl rfl (fun hb1 => ?_) (fun hb1 => ?_)
  · have phb1 := hb1; try simp at phb1
    refine jg rfl rfl hb1 <| jm rfl rfl <| jg rfl rfl hb1 <| jleq rfl rfl rfl <| jpick_t rfl rfl hb1 rfl <| ja rfl rfl <| j_nil <| p_thn <| c_ret <| ?_
    refine p_ret0 rfl rfl (.tmp rfl <| .nil) ?_
    first | (simp [outv, isN, *]; done) | (simp [outv, isN]; omega)
  · have phb1 := hb1; try simp at phb1
    refine jg_off rfl rfl rfl hb1 <| jg_off rfl rfl rfl hb1 <| jpick_f rfl rfl hb1 rfl <| ja rfl rfl <| j_nil <| p_thn <| c_ret <| ?_
    refine p_ret0 rfl rfl (.tmp rfl <| .nil) ?_
    first | (simp [outv, isN, *]; done) | (simp [outv, isN]; omega)

def checkedB (n : Int) (of : List Int) : Bool := of.all isN && isN n
def ck (n : Int) (of : List Int) : Int × Int := if checkedB n of then (n, 0) else (0, 2)
theorem take_all_succ {l : List Int} {k : Nat} {x : Int} (hx : l[k]? = some x) (h : (l.take k).all isN = true) (h1 : isN x = true) : (l.take (k + 1)).all isN = true := by
  rw [List.take_add_one, hx, List.all_append, h]; simp [h1]
theorem all_false {l : List Int} {k : Nat} {x : Int} (hx : l[k]? = some x) (h1 : isN x = false) : l.all isN = false := by
  rw [List.all_eq_false]; exact ⟨x, List.mem_of_getElem? hx, by simp [h1]⟩

theorem num_checked (n : Int) (of : List Int) (A : Option Addr) (M : Mem) (hof : SlR rInt M A of.length of) (hl : of.length ≤ 1000) : Ctr Tryz.prog 144 [vi n, .slice A of.length of.length] M [] (fun r _ _ => r = pr2 (ck n of)) := by
  refine ctr Tryz.func144 rfl Tryz.ntmps144 rfl fun w => ?_
  refine c_seq <| c_region <| ja rfl rfl <| ja rfl rfl <| j_nil <| p_thn <| c_seq <| c_seq <| c_region <| jm rfl rfl <| jm rfl rfl <| jbsl (vs := [_]) [_] rfl rfl rfl (by simp) rfl rfl (by decide) (by decide) fun B1 => japp0 rfl rfl rfl (fun _ _ => hof.src1 rfl (fun _ _ _ h => h) _) (fun _ _ => Src.blk (i := 0) rfl rfl) rfl rfl (by decide) (.inl (by decide)) (by omega) (by omega) fun v1 => j_freeze fun M1 hM1 ⟨A1, cap1, hv1, hc1, hl1, hA1⟩ => ?_
  subst hv1
  have hS : SlR rInt M1 A1 cap1 (of ++ [n]) := SlR.frozen1 rfl (fun _ _ => rfl) (by simp; exact hc1) (fun h => by have := hA1 (Nat.succ_pos _); simpa using this)
  refine jlen rfl rfl <| jm rfl rfl <| j_nil <| p_thn <| c_block <| c_lp (X := Nat) (fun k => k ≤ of.length + 1 ∧ ((of ++ [n]).take k).all isN = true) (fun k => of.length + 1 - k) (fun k => [(13, vi (k : Int))]) [12, 11, 0] 0 ?_ (sub_c rfl <| sub_c rfl <| sub_c rfl <| sub_c rfl <| sub_n) ?_
  · exact ⟨by omega, rfl⟩
  · intro k hI
    obtain ⟨hk, hall⟩ := hI
    refine c_seq <| c_region <| jlss rfl rfl rfl <| j_nil <| p_thn <| c_seq <| c_cond rfl (fun hb2 => ?_) (fun hb2 => ?_)
    · have phb2 := hb2; try simp at phb2
      obtain ⟨x, hx⟩ : ∃ x, (of ++ [n])[k]? = some x := ⟨(of ++ [n])[k]'(by simp; omega), List.getElem?_eq_getElem _⟩
      refine c_skip <| p_thn <| c_seq <| c_block <| c_seq <| c_region <| ji rfl rfl rfl (by omega) (by omega) (hS.adr (i := k) (by simp; omega)) <| jle1 (o := 0) rfl hS hx rfl (fun c h => by cases h; rfl) <| ja rfl rfl <| j_nil <| p_thn <| c_seq <| c_region <| jm rfl rfl <| jcallv rfl rfl rfl (num_Is _ _) <| jnot rfl rfl <| j_nil <| p_thn <| c_cond rfl (fun hb3 => ?_) (fun hb3 => ?_)
      · have phb3 := hb3; try simp at phb3
        refine c_seq <| c_region <| ja rfl rfl <| ja rfl rfl <| j_nil <| p_thn <| c_ret <| p_inb_ret <| p_thn_ret <| p_lp_ret <| p_inb_ret <| p_thn_ret <| ?_
        refine p_ret0 rfl rfl (.tmp rfl <| .tmp rfl <| .nil) ?_
        show pr2 (0, 2) = pr2 (ck n of)
        have h1 := all_false hx (by simpa using hb3)
        rw [List.all_append] at h1
        unfold ck checkedB
        rw [if_neg]
        intro h; rw [Bool.and_eq_true] at h; rw [h.1] at h1; simp [h.2] at h1
      · have phb3 := hb3; try simp at phb3
        refine c_skip <| p_inb <| p_thn <| c_region <| jadd rfl rfl rfl (by first | exact wr (by omega) (by omega) | rfl) <| jm rfl rfl <| j_nil <| ?_
        refine p_lp (k + 1) ?_ ?_ (sub_c rfl <| sub_c rfl <| sub_c rfl <| sub_c rfl <| sub_n) rfl rfl
        · exact ⟨by omega, take_all_succ hx hall (by simpa using hb3)⟩
        · omega
    · have phb2 := hb2; try simp at phb2
      refine c_exit <| p_thn_exit <| p_lp_exit <| p_inb_exit <| p_thn <| c_seq <| c_region <| jm rfl rfl <| ja rfl rfl <| ja rfl rfl <| j_nil <| p_thn <| c_ret <| ?_
      refine p_ret0 rfl rfl (.tmp rfl <| .tmp rfl <| .nil) ?_
      show pr2 (n, 0) = pr2 (ck n of)
      rw [List.take_of_length_le (by simp; omega), List.all_append] at hall
      unfold ck checkedB
      rw [if_pos]
      simpa using hall

def nAdd (a b : Int) : Int × Int := if isN a && isN b && isN (a + b) then (a + b, 0) else (0, 2)
def nSub (a b : Int) : Int × Int := if isN a && isN b && isN (a - b) then (a - b, 0) else (0, 2)
theorem ck_add (a b : Int) : ck (IntKind.i64.wrap (a + b)) [a, b] = nAdd a b := by
  unfold ck checkedB nAdd
  by_cases h : isN a = true ∧ isN b = true
  · have h1 := isN_iff.1 h.1
    have h2 := isN_iff.1 h.2
    rw [wr (by omega) (by omega)]; simp [h.1, h.2]
  · have : (isN a && isN b) = false := by rw [Bool.and_eq_false_iff]; cases ha : isN a <;> cases hb : isN b <;> simp_all
    simp [this]
theorem ck_sub (a b : Int) : ck (IntKind.i64.wrap (a - b)) [a, b] = nSub a b := by
  unfold ck checkedB nSub
  by_cases h : isN a = true ∧ isN b = true
  · have h1 := isN_iff.1 h.1
    have h2 := isN_iff.1 h.2
    rw [wr (by omega) (by omega)]; simp [h.1, h.2]
  · have : (isN a && isN b) = false := by rw [Bool.and_eq_false_iff]; cases ha : isN a <;> cases hb : isN b <;> simp_all
    simp [this]
theorem flat1 (l : List Int) : (l.map (fun n => [vi n])).flatten = l.map vi := by
  induction l with
  | nil => rfl
  | cons a l ih => simp only [List.map_cons, List.flatten_cons, ih]; rfl
theorem two_known {M : Mem} {B : Nat} {l : List Int} (hK : ∀ j u, (l.map (fun n => [vi n])).flatten[j]? = some u → M ⟨B, j, none⟩ = some u) : SlR rInt M (some ⟨B, 0, none⟩) l.length l :=
  SlR.frozen1 rfl (fun _ _ => rfl) (Nat.le_refl _) (fun _ => ⟨B, 0, rfl, fun j u hu => by
    rw [Nat.zero_add]
    refine hK j u ?_
    rw [flat1]
    exact hu⟩)

theorem num_Add (a b : Int) (M : Mem) : Ctr Tryz.prog 156 [vi a, vi b] M [] (fun r _ _ => r = pr2 (nAdd a b)) := by
  refine ctr Tryz.func156 rfl Tryz.ntmps156 rfl fun w => ?_
  refine c_seq <| c_region <| ja rfl rfl <| ja rfl rfl <| j_nil <| p_thn <| c_seq <| c_region <| jm rfl rfl <| jm rfl rfl <| jadd rfl rfl rfl rfl <| jm rfl rfl <| jm rfl rfl <| jbsl (vs := [_, _]) [_, _] rfl rfl rfl (by simp) rfl rfl (by decide) (by decide) fun B1 => j_known fun M1 hM1 hK1 => jcallv rfl rfl rfl (num_checked _ [a, b] _ _ (two_known (l := [a, b]) hK1) (by simp)) <| jext rfl rfl rfl <| jext rfl rfl rfl <| ja rfl rfl <| ja rfl rfl <| j_nil <| p_thn <| c_ret <| ?_
  refine p_ret0 rfl rfl (.tmp rfl <| .tmp rfl <| .nil) ?_
  show pr2 (ck _ _) = _
  rw [ck_add]
theorem num_Sub (a b : Int) (M : Mem) : Ctr Tryz.prog 101 [vi a, vi b] M [] (fun r _ _ => r = pr2 (nSub a b)) := by
  refine ctr Tryz.func101 rfl Tryz.ntmps101 rfl fun w => ?_
  refine c_seq <| c_region <| ja rfl rfl <| ja rfl rfl <| j_nil <| p_thn <| c_seq <| c_region <| jm rfl rfl <| jm rfl rfl <| jsub rfl rfl rfl rfl <| jm rfl rfl <| jm rfl rfl <| jbsl (vs := [_, _]) [_, _] rfl rfl rfl (by simp) rfl rfl (by decide) (by decide) fun B1 => j_known fun M1 hM1 hK1 => jcallv rfl rfl rfl (num_checked _ [a, b] _ _ (two_known (l := [a, b]) hK1) (by simp)) <| jext rfl rfl rfl <| jext rfl rfl rfl <| ja rfl rfl <| ja rfl rfl <| j_nil <| p_thn <| c_ret <| ?_
  refine p_ret0 rfl rfl (.tmp rfl <| .tmp rfl <| .nil) ?_
  show pr2 (ck _ _) = _
  rw [ck_sub]

def sumGo : Int → List Int → Option Int
  | n, [] => some n
  | n, x :: xs => if isN n && isN x && isN (n + x) then sumGo (n + x) xs else none
def sumP : Option Int → Int × Int
  | some n => (n, 0)
  | none => (0, 2)
def nSum (xs : List Int) : Int × Int := sumP (sumGo 0 xs)
def sumE : Option Int → Ending → Prop
  | some n, r => r = .returned (vi n)
  | none, r => r = .panicked [{ v := .iface 30 (vi 2), recovered := false }]
def errnoPanic (e : Int) : List PanicEntry := [{ v := .iface 30 (vi e), recovered := false }]


def MustP (n e : Int) (r : Ending) : Prop := (e = 0 ∧ r = .returned (vi n)) ∨ (e ≠ 0 ∧ r = .panicked (errnoPanic e))
theorem MustP.out {n e : Int} : ¬ MustP n e .outgrown := by intro h; rcases h with ⟨_, h⟩ | ⟨_, h⟩ <;> cases h
theorem MustP.ret {n e : Int} {v : Value} (h : MustP n e (.returned v)) : e = 0 ∧ v = vi n := by
  rcases h with ⟨h0, h⟩ | ⟨_, h⟩
  · injection h with h; exact ⟨h0, h⟩
  · cases h
theorem MustP.pan {n e : Int} {c : List PanicEntry} (h : MustP n e (.panicked c)) : e ≠ 0 ∧ c = errnoPanic e := by
  rcases h with ⟨_, h⟩ | ⟨h0, h⟩
  · cases h
  · injection h with h; exact ⟨h0, h⟩

theorem num_Must (n e : Int) (M : Mem) : CtrE Tryz.prog 166 [vi n, vi e] M [] (fun r _ _ => MustP n e r) := by
  refine ctrE Tryz.func166 rfl Tryz.ntmps166 rfl fun w => ?_
  refine c_seq <| c_region <| ja rfl rfl <| j_nil <| p_thn <| c_seq <| c_seq <| c_region <| jm rfl rfl <| jneq rfl rfl rfl <| j_nil <| p_thn <| c_cond rfl (fun hb1 => ?_) (fun hb1 => ?_)
  · have phb1 := hb1; try simp at phb1
    refine c_region <| jm rfl rfl <| jiface rfl Tryz.underlying30 rfl rfl <| jpanic rfl <| p_thn_pan <| ?_
    refine pE_pan rfl ?_
    exact .inr ⟨phb1, rfl⟩
  · have phb1 := hb1; try simp at phb1
    subst phb1
    refine c_skip <| p_thn <| c_seq <| c_region <| jm rfl rfl <| ja rfl rfl <| j_nil <| p_thn <| c_ret <| ?_
    refine pE_ret rfl rfl (.tmp rfl <| .nil) ?_
    exact .inl ⟨rfl, rfl⟩

theorem sumGo_take {xs : List Int} {k : Nat} {s x : Int} (h : sumGo 0 (xs.take k) = some s) (hx : xs[k]? = some x) : sumGo 0 (xs.take (k + 1)) = if isN s && isN x && isN (s + x) then some (s + x) else none := by
  have key : ∀ (l : List Int) (n s : Int), sumGo n l = some s → sumGo n (l ++ [x]) = if isN s && isN x && isN (s + x) then some (s + x) else none := by
    intro l
    induction l with
    | nil => intro n s h; simp only [sumGo, Option.some.injEq] at h; subst h; simp only [List.nil_append, sumGo]
    | cons a l ih =>
      intro n s h
      simp only [sumGo] at h
      split at h
      · rename_i hc; simp only [List.cons_append, sumGo, hc, if_true]; exact ih _ _ h
      · cases h
  rw [List.take_add_one, hx]
  exact key _ _ _ h
theorem sumGo_none {xs : List Int} : ∀ (n : Int) (k : Nat), sumGo n (xs.take k) = none → sumGo n xs = none := by
  induction xs with
  | nil => intro n k h; simp at h; cases k <;> simp [sumGo] at h
  | cons a l ih =>
    intro n k h
    cases k with
    | zero => simp [sumGo] at h
    | succ k =>
      simp only [List.take_succ_cons, sumGo] at h ⊢
      split at h
      · rename_i hc; simp only [hc, if_true]; exact ih _ _ h
      · rename_i hc; simp only [hc]; rfl
theorem nAdd_e {a b : Int} : (nAdd a b).2 = 0 ∧ (isN a && isN b && isN (a + b)) = true ∧ (nAdd a b).1 = a + b ∨ (nAdd a b).2 = 2 ∧ (isN a && isN b && isN (a + b)) = false := by
  unfold nAdd
  cases h : isN a && isN b && isN (a + b) <;> simp

theorem num_Sum1 (xs : List Int) (A : Option Addr) (cap B : Nat) (M : Mem) (hS : SlR rInt M A cap xs) (hB : M ⟨B, 0, none⟩ = some (.slice A xs.length cap)) (hlen : xs.length ≤ 1000000) : CtrE Tryz.prog 165 [.pointer (some ⟨B, 0, none⟩)] M [] (fun r _ _ => sumE (sumGo 0 xs) r) := by
  refine ctrE Tryz.func165 rfl Tryz.ntmps165 rfl fun w => ?_
  refine c_seq <| c_region <| ja rfl rfl <| j_nil <| p_thn <| c_seq <| c_region <| ja rfl rfl <| j_nil <| p_thn <| c_seq <| c_seq <| c_region <| jlm1 rfl rfl hB <| jlen rfl rfl <| jm rfl rfl <| j_nil <| p_thn <| c_block <| c_lp (X := Nat × Int) (fun k => k.1 ≤ xs.length ∧ sumGo 0 (xs.take k.1) = some k.2) (fun k => xs.length - k.1) (fun k => [(7, vi (k.1 : Int)), (2, vi k.2)]) [6, 5, 1] (0, 0) ?_ (sub_c rfl <| sub_c rfl <| sub_c rfl <| sub_c rfl <| sub_c rfl <| sub_n) ?_
  · exact ⟨Nat.zero_le _, rfl⟩
  · intro ⟨k, s⟩ hI
    obtain ⟨hk, hs⟩ := hI
    simp only at hk hs
    dsimp only
    refine c_seq <| c_region <| jlss rfl rfl rfl <| j_nil <| p_thn <| c_seq <| c_cond rfl (fun hb1 => ?_) (fun hb1 => ?_)
    · have phb1 := hb1; try simp at phb1
      obtain ⟨x, hx⟩ : ∃ x, xs[k]? = some x := ⟨xs[k]'(by omega), List.getElem?_eq_getElem _⟩
      refine c_skip <| p_thn <| c_seq <| c_block <| c_seq <| c_region <| ji rfl rfl rfl (by omega) (by omega) (hS.adr (i := k) (by omega)) <| jle1 (o := 0) rfl hS hx rfl (fun c h => by cases h; rfl) <| ja rfl rfl <| j_nil <| p_thn <| c_region <| jm rfl rfl <| jm rfl rfl <| jcallv rfl rfl rfl (num_Add _ _ _) <| jext rfl rfl rfl <| jext rfl rfl rfl <| jcallE rfl rfl rfl (num_Must _ _ _) (fun _ _ => MustP.out) ?_ ?_
      · intro v _ _ hv
        obtain ⟨he, rfl⟩ := MustP.ret hv
        rcases nAdd_e (a := s) (b := x) with ⟨_, hc, hn⟩ | ⟨he2, _⟩
        rotate_left
        · omega
        rw [hn]
        refine ja rfl rfl <| j_nil <| p_inb <| p_thn <| c_region <| jadd rfl rfl rfl (by first | exact wr (by omega) (by omega) | rfl) <| jm rfl rfl <| j_nil <| ?_
        refine p_lp ((k + 1, s + x)) ?_ ?_ (sub_c rfl <| sub_c rfl <| sub_c rfl <| sub_c rfl <| sub_c rfl <| sub_n) rfl rfl
        · exact ⟨by simp only; omega, by rw [sumGo_take hs hx, if_pos hc]⟩
        · simp only; omega
      · intro pch _ _ hp
        obtain ⟨he, rfl⟩ := MustP.pan hp
        rcases nAdd_e (a := s) (b := x) with ⟨he2, _⟩ | ⟨he2, hc⟩
        · exact absurd he2 he
        rw [he2]
        refine p_inb_pan <| p_thn_pan <| p_lp_pan <| p_inb_pan <| p_thn_pan <| ?_
        refine pE_pan rfl ?_
        rw [sumGo_none 0 (k + 1) (by rw [sumGo_take hs hx, if_neg (by simp [hc])])]
        exact (rfl : Ending.panicked _ = _)
    · have phb1 := hb1; try simp at phb1
      refine c_exit <| p_thn_exit <| p_lp_exit <| p_inb_exit <| p_thn <| c_seq <| c_region <| jm rfl rfl <| ja rfl rfl <| j_nil <| p_thn <| c_ret <| ?_
      refine pE_ret rfl rfl (.tmp rfl <| .nil) ?_
      rw [List.take_of_length_le (by omega)] at hs
      rw [hs]
      rfl

/-- the deferred closure, behind a panic with an error; behind none -/
theorem num_Try1_pan (Be Bn : Nat) (x y : Value) (e : Int) (w : World) (M : Mem) (ho : Own ⟨Tryz.prog, 0, w, [Be, Bn], M, []⟩ M w [.blk Be 30 [x], .blk Bn 3 [y]]) :
    CallsD Tryz.prog 204 #[.pointer (some ⟨Be, 0, none⟩), .pointer (some ⟨Bn, 0, none⟩)] (.panicking (errnoPanic e)) w fun en u' w' =>
      en = .returned (.tuple #[]) ∧ u' = .panicking [{ v := .iface 30 (vi e), recovered := true }] ∧ Own ⟨Tryz.prog, 0, w, [Be, Bn], M, []⟩ M w' [.blk Be 30 [vi e], .blk Bn 3 [vi 0]] := by
  refine callsD_of_wpS Tryz.func204 rfl fun c₀ cs hu => ?_
  apply wpS_seq
  apply wpS_region
  simp [wpOpsS, go_sem, recoverD, hu, errnoPanic, Tryz.ntmps204, Exit.thenS]
  refine wpS_of_wp ?_
  have hJ : ∀ Q : Post, (JP ⟨Tryz.prog, 15, w, [Be, Bn], M, []⟩ Q .normal [] M [.blk Be 30 [vi e], .blk Bn 3 [vi 0]]) → JC ⟨Tryz.prog, 15, w, [Be, Bn], M, []⟩ (match Tryz.f204.body with | some (.seq _ c) => c | _ => .skip) Q [(0, .pointer (some ⟨Be, 0, none⟩)), (1, .pointer (some ⟨Bn, 0, none⟩)), (2, .iface 30 (vi e))] M [.blk Be 30 [x], .blk Bn 3 [y]] := fun Q hQ =>
    c_seq <| c_region <| jm rfl rfl <| jineq rfl Tryz.underlying20 rfl rfl <| j_nil <| p_thn <| c_cond_kt rfl rfl <| c_seq <| c_region <| ja rfl rfl <| j_nil <| p_thn <| c_seq <| c_seq <| c_region <| jm rfl rfl <| jta rfl Tryz.underlying30 rfl rfl <| jm rfl rfl <| jext rfl rfl rfl <| jext rfl rfl rfl <| jstw 0 rfl rfl rfl rfl rfl rfl rfl <| ja rfl rfl <| j_nil <| p_thn <| c_seq <| c_region <| jm rfl rfl <| jnot rfl rfl <| j_nil <| p_thn <| c_cond_kf rfl rfl <| c_skip <| p_thn <| c_region <| jstw 1 rfl rfl rfl rfl rfl rfl rfl <| j_nil <| fun a w hs ho => hQ a w (hs.weaken (by intro t v h; cases h)) ho
  refine hJ _ (fun a w' hs ho' => ?_) _ w ⟨rfl, rfl, ?_⟩ ho.cxn
  · exact ⟨hs.d, _, rfl, _, by simp [results, Tryz.results204], rfl, rfl, ho'.cxn⟩
  · exact alls_get ⟨by simp, by simp, by simp, trivial⟩
theorem num_Try1_ret (w0 w : World) (Br : List Nat) (M0 M : Mem) (L : List Ent) (Be Bn : Nat) (ho : Own ⟨Tryz.prog, 0, w0, Br, M0, []⟩ M w L) :
    CallsD Tryz.prog 204 #[.pointer (some ⟨Be, 0, none⟩), .pointer (some ⟨Bn, 0, none⟩)] .returning w fun en u' w' => en = .returned (.tuple #[]) ∧ u' = .returning ∧ Own ⟨Tryz.prog, 0, w0, Br, M0, []⟩ M w' L := by
  refine callsD_of_wpS Tryz.func204 rfl fun c₀ cs hu => ?_
  apply wpS_seq
  apply wpS_region
  simp [wpOpsS, go_sem, recoverD, hu, Tryz.ntmps204, Exit.thenS]
  refine wpS_of_wp ?_
  have hJ : ∀ Q : Post, (JP ⟨Tryz.prog, 15, w0, Br, M0, []⟩ Q .normal [] M L) → JC ⟨Tryz.prog, 15, w0, Br, M0, []⟩ (match Tryz.f204.body with | some (.seq _ c) => c | _ => .skip) Q [(2, .nilIface)] M L := fun Q hQ =>
    c_seq <| c_region <| jm rfl rfl <| jineq0 rfl Tryz.underlying20 rfl <| j_nil <| p_thn <| c_cond_kf rfl rfl <| c_skip <| fun a w hs ho => hQ a w (hs.weaken (by intro t v h; cases h)) ho
  refine hJ _ (fun a w' hs ho' => ?_) _ w ⟨rfl, rfl, ?_⟩ ho.cxn
  · cases c₀
    exact ⟨hs.d, _, by simp at hu; rw [hu], _, by simp [results, Tryz.results204], rfl, rfl, ho'.cxn⟩
  · exact alls_get ⟨by simp, trivial⟩
theorem num_Try (f : FuncId) (ca : List Value) [FnI Tryz.prog f] (o : Option Int) (M : Mem) (HF : CtrE Tryz.prog f ca M [] (fun r _ _ => sumE o r)) :
    Ctr Tryz.prog 164 [.func (.func f) #[] ca.toArray] M [] (fun r _ _ => r = pr2 (sumP o)) := fun w ho => by
  refine calls_of_wp_defers Tryz.func164 rfl ?_
  have hJ : JC ⟨Tryz.prog, 9, w, [], M, []⟩ (match Tryz.f164.body with | some c => c | _ => .skip) (bodyPostD Tryz.prog Tryz.f164 (fun e w' => ∃ v M' L', e = .returned v ∧ v = pr2 (sumP o) ∧ Own ⟨Tryz.prog, 0, w, [], M, []⟩ M' w' L')) [(0, .func (.func f) #[] ca.toArray)] M [] := by
    refine c_seq <| c_region <| jalloc rfl fun Bn => jalloc rfl fun Be => j_nil <| p_thn <| c_seq <| c_seq <| c_region <| jm rfl rfl <| jfeq rfl Tryz.underlying98 rfl rfl <| j_nil <| p_thn <| c_cond_kf rfl rfl <| c_skip <| p_thn <| ?_
    refine c_seq <| c_region <| jfunc rfl rfl rfl <| jdefer rfl rfl <| j_nil <| p_thn <| c_seq <| c_region <| jm rfl rfl <| jcallE (fi := []) rfl rfl rfl HF (fun _ _ => by cases o <;> (intro h; cases h)) ?_ ?_
    · intro v _ _ hv
      cases o with
      | none => cases hv
      | some n =>
        injection hv with hv
        subst hv
        refine jstw 1 rfl rfl rfl rfl rfl rfl rfl <| jstw 0 rfl rfl rfl rfl rfl rfl rfl <| j_nil <| p_thn <| c_ret <| fun a w' hs ho' => ?_
        show Leaves _ _ _ _ a.defers _ _
        rw [hs.d]
        refine leaves_cons (f := 204) (args := #[.pointer (some ⟨Be, 0, none⟩), .pointer (some ⟨Bn, 0, none⟩)]) (by simp) (by simp [invoke, run_callFunc]) ?_
        refine (num_Try1_ret w w' [] M M _ Be Bn ho'.cxn).mono ?_
        rintro e u' w'' ⟨rfl, rfl, ho''⟩
        refine ⟨pr2 (n, 0), ?_, _, M, _, rfl, rfl, ho''⟩
        exact run_results hs (cx := ⟨Tryz.prog, 9, w, [], M, _⟩) ho''.cxn (rs := [.cell 2 3, .cell 3 30]) rfl (.one 1 inferInstance rfl rfl <| .one 0 inferInstance rfl rfl .nil)
    · intro pch _ _ hp
      cases o with
      | some n => cases hp
      | none =>
        injection hp with hp
        subst hp
        refine p_thn_pan <| fun a w' hs ho' => ?_
        show Leaves _ _ _ _ a.defers _ _
        rw [hs.d]
        refine leaves_cons (f := 204) (args := #[.pointer (some ⟨Be, 0, none⟩), .pointer (some ⟨Bn, 0, none⟩)]) (by simp) (by simp [invoke, run_callFunc]) ?_
        have hl : Own ⟨Tryz.prog, 9, w, [], M, []⟩ M w' ([.blk Be 30 [vi 0], .blk Bn 3 [vi 0]] ++ []) := ho'.cxn
        refine (num_Try1_pan Be Bn _ _ 2 w' M hl.lend).mono ?_
        rintro e u' w'' ⟨rfl, rfl, h2⟩
        have ho'' := hl.call h2
        refine ⟨pr2 (0, 2), ?_, _, M, _, rfl, rfl, ho''.cxn⟩
        exact run_results hs (cx := ⟨Tryz.prog, 9, w, [], M, _⟩) ho''.cxn (rs := [.cell 2 3, .cell 3 30]) rfl (.one 1 inferInstance rfl rfl <| .one 0 inferInstance rfl rfl .nil)
  refine hJ _ w ?_ ho.cxn
  exact ⟨rfl, by simp [Tryz.ntmps164], alls_get ⟨by simp, trivial⟩⟩

theorem num_Sum (xs : List Int) (A : Option Addr) (cap : Nat) (M : Mem) (hS : SlR rInt M A cap xs) (hlen : xs.length ≤ 1000000) : Ctr Tryz.prog 127 [.slice A xs.length cap] M [] (fun r _ _ => r = pr2 (nSum xs)) := by
  refine ctr Tryz.func127 rfl Tryz.ntmps127 rfl fun w => ?_
  refine c_seq <| c_region <| jbox rfl rfl rfl fun B1 => j_known fun M1 hM1 hK1 => ja rfl rfl <| ja rfl rfl <| j_nil <| p_thn <| c_seq <| c_region <| jfunc rfl rfl rfl <| jcallv rfl rfl rfl (num_Try 165 [_] (sumGo 0 xs) _ (num_Sum1 xs A cap _ _ (hS.mono hM1) (hK1 0 _ rfl) hlen)) <| jext rfl rfl rfl <| jext rfl rfl rfl <| ja rfl rfl <| ja rfl rfl <| j_nil <| p_thn <| c_ret <| ?_
  refine p_ret0 rfl rfl (.tmp rfl <| .tmp rfl <| .nil) ?_
  rfl
attribute [irreducible] nAdd nSub nSum
end Go.Proofs.YtihgpbpcbbgdiaaGreat

/- What the functions of packages vec and rights tell. -/
namespace Go.Proofs.YtihgpbpcbbgdiaaGreat
open Go.RowKit
set_option linter.unusedVariables false
set_option linter.unusedSimpArgs false
theorem vget {v : Vec} {k : Nat} (h : k < 16) : (encVec v)[k]? = some (vi v[k]) := by
  unfold encVec
  rw [List.getElem?_map, Vector.getElem?_toList, Vector.getElem?_eq_getElem h]; rfl
theorem vgetI {v : Vec} {k : Nat} (h : k < 16) : (encVec v)[(k : Int).toNat]? = some (vi v[k]) := by rw [Int.toNat_natCast]; exact vget h
def vecRight (v : Vec) : Bool := v.toList.all fun n => decide (0 ≤ n) && isN n
theorem vtake_succ {l : List Int} {p : Int → Bool} {k : Nat} {x : Int} (hx : l[k]? = some x) (h : (l.take k).all p = true) (h1 : p x = true) : (l.take (k + 1)).all p = true := by
  rw [List.take_add_one, hx, List.all_append, h]; simp [h1]
theorem vall_false {l : List Int} {p : Int → Bool} {k : Nat} {x : Int} (hx : l[k]? = some x) (h1 : p x = false) : l.all p = false := by
  rw [List.all_eq_false]; exact ⟨x, List.mem_of_getElem? hx, by simp [h1]⟩
theorem vl {v : Vec} {k : Nat} (h : k < 16) : v.toList[k]? = some v[k] := by rw [Vector.getElem?_toList, Vector.getElem?_eq_getElem h]

def vZ : Vec := Vector.replicate 16 0
def rZ : Rights := ⟨vZ, vZ, Vector.replicate 16 vZ⟩
def cZ : Counter := ⟨0, 0, 0, rZ, rZ⟩
def lZ : Lock := ⟨0, 0, 0, 0⟩
def hZ : Hold := ⟨0, 0, 0, 0, 0⟩
def pZ : Plan := ⟨0, ⟨#[]⟩, ⟨#[]⟩, 0, 0⟩
def fZ : Field := ⟨⟨#[]⟩, 0, 0, cZ, lZ, []⟩
instance : ZeI Tryz.prog 39 (encVec vZ) := ⟨by kernel_rfl⟩
instance : ZeI Tryz.prog 42 (encRights rZ) := ⟨by kernel_rfl⟩
instance : ZeI Tryz.prog 44 (encCounter cZ) := ⟨by kernel_rfl⟩
instance : ZeI Tryz.prog 46 (encLock lZ) := ⟨by kernel_rfl⟩
instance : ZeI Tryz.prog 129 (encHold hZ) := ⟨by kernel_rfl⟩
instance : ZeI Tryz.prog 24 (encPlan pZ) := ⟨by kernel_rfl⟩
instance : ZeI Tryz.prog 49 (encF fZ none 0) := ⟨by kernel_rfl⟩
def vAt (v : Vec) (i : Int) : Int := v.toList.getD i.toNat 0
def vSet (v : Vec) (i : Int) (x : Int) : Vec := v.setIfInBounds i.toNat x
def mAt (m : Vector Vec 16) (i : Int) : Vec := m.toList.getD i.toNat vZ
def mSet (m : Vector Vec 16) (i : Int) (x : Vec) : Vector Vec 16 := m.setIfInBounds i.toNat x
theorem vAt_nat {v : Vec} {k : Nat} (h : k < 16) : vAt v (k : Int) = v[k] := by simp [vAt, List.getD, Vector.getElem?_toList, Vector.getElem?_eq_getElem h]
theorem gV {v : Vec} {i : Int} (h0 : 0 ≤ i) (h1 : i < 16) : (encVec v)[0 + i.toNat * 1]? = some (vi (vAt v i)) := by
  rw [Nat.zero_add, Nat.mul_one]
  unfold encVec vAt
  have h : i.toNat < 16 := by omega
  rw [List.getElem?_map, List.getD, Vector.getElem?_toList, Vector.getElem?_eq_getElem h]; rfl
theorem uV {v : Vec} {i x : Int} (h0 : 0 ≤ i) (h1 : i < 16) : (encVec v).take (0 + i.toNat * 1) ++ [vi x] ++ (encVec v).drop (0 + i.toNat * 1 + 1) = encVec (vSet v i x) := by
  rw [Nat.zero_add, Nat.mul_one]
  unfold encVec vSet
  rw [Vector.toList_setIfInBounds, ← List.map_take, ← List.map_drop, List.set_eq_take_append_cons_drop]
  have h : i.toNat < v.toList.length := by simp; omega
  rw [if_pos h]
  simp
/-- joined up to k -/
def vJoinTo (a b : Vec) (k : Nat) : Vec := Vector.ofFn fun i => if i.val < k then max a[i] b[i] else a[i]
def vJoin (a b : Vec) : Vec := Vector.zipWith max a b
theorem vJoinTo_0 (a b : Vec) : vJoinTo a b 0 = a := by ext i h; simp [vJoinTo]
theorem vJoinTo_16 (a b : Vec) : vJoinTo a b 16 = vJoin a b := by ext i h; simp [vJoinTo, vJoin, h]
theorem vJoinTo_succ (a b : Vec) {k : Nat} (h : k < 16) : vSet (vJoinTo a b k) (k : Int) (max (vAt (vJoinTo a b k) (k : Int)) (vAt b (k : Int))) = vJoinTo a b (k + 1) := by
  rw [vAt_nat h, vAt_nat h]
  ext i hi
  simp only [vSet, Int.toNat_natCast, vJoinTo, Vector.getElem_setIfInBounds, Vector.getElem_ofFn]
  by_cases e : k = i
  · subst e; simp
  · simp only [e, if_false]
    have : (i < k + 1) = (i < k) := by apply propext; omega
    simp only [this]
abbrev pV (p : Vec × Int) : Value := .tuple #[.agg (encVec p.1).toArray, vi p.2]
def vGrow (v : Vec) (k n : Int) : Vec × Int :=
  if 0 ≤ k ∧ k < 16 ∧ 0 ≤ n then (if (nAdd (vAt v k) n).2 = 0 then (vSet v k (nAdd (vAt v k) n).1, 0) else (vZ, (nAdd (vAt v k) n).2)) else (vZ, 1)
theorem vec_known {M : Mem} {B : Nat} {v : Vec} (hK : ∀ j u, (encVec v)[j]? = some u → M ⟨B, j, none⟩ = some u) : SlR rInt M (some ⟨B, 0, none⟩) 16 v.toList :=
  SlR.frozen1 (f := vi) rfl (fun _ _ => rfl) (by simp) (fun _ => ⟨B, 0, rfl, fun j u hu => by rw [Nat.zero_add]; exact hK j u hu⟩)
theorem num_SumN {xs : List Int} {n : Nat} {A : Option Addr} {cap : Nat} {M : Mem} (hS : SlR rInt M A cap xs) (hn : xs.length = n) (hlen : n ≤ 1000000) : Ctr Tryz.prog 127 [.slice A n cap] M [] (fun r _ _ => r = pr2 (nSum xs)) := by
  subst hn; exact num_Sum xs A cap M hS hlen

theorem vec_Right (v : Vec) (M : Mem) : Ctr Tryz.prog 194 [.agg (encVec v).toArray] M [] (fun r _ _ => r = .bool (vecRight v)) := by
  refine ctr Tryz.func194 rfl Tryz.ntmps194 rfl fun w => ?_
  refine c_seq <| c_region <| jbox rfl rfl rfl fun B1 => ja rfl rfl <| j_nil <| p_thn <| c_seq <| c_seq <| c_region <| jldw 0 rfl rfl rfl (len_vec _) <| jm rfl rfl <| j_nil <| p_thn <| c_block <| c_lp (X := Nat) (fun k => k ≤ 16 ∧ (v.toList.take k).all (fun n => decide (0 ≤ n) && isN n) = true) (fun k => 16 - k) (fun k => [(6, vi (k : Int))]) [5] 0 ?_ (sub_c rfl <| sub_c rfl <| sub_n) ?_
  · exact ⟨by omega, rfl⟩
  · intro k hI
    obtain ⟨hk, hall⟩ := hI
    refine c_seq <| c_region <| jlss rfl rfl rfl <| j_nil <| p_thn <| c_seq <| c_cond rfl (fun hb2 => ?_) (fun hb2 => ?_)
    · have phb2 := hb2; try simp at phb2
      refine c_skip <| p_thn <| c_seq <| c_block <| c_seq <| c_region <| jidx1 rfl rfl rfl rfl (by omega) (by omega) (vgetI (by omega)) <| ja rfl rfl <| j_nil <| p_thn <| c_seq <| c_region <| jm rfl rfl <| jlss rfl rfl rfl <| jm rfl rfl <| jgs rfl rfl (fun hb3 => ?_) (fun hb3 => ?_)
      · have phb3 := hb3; try simp at phb3
        refine jg_off rfl rfl rfl hb3 <| jg_off rfl rfl rfl hb3 <| jg_off rfl rfl rfl hb3 <| jpick_t rfl rfl hb3 rfl <| j_nil <| p_thn <| c_cond_kt rfl rfl <| c_seq <| c_region <| ja rfl rfl <| j_nil <| p_thn <| c_ret <| p_inb_ret <| p_thn_ret <| p_lp_ret <| p_inb_ret <| p_thn_ret <| ?_
        refine p_ret0 rfl rfl (.tmp rfl <| .nil) ?_
        show Value.bool false = _
        congr 1; symm
        exact vall_false (vl (k := k) (by omega)) (by simp [*]; omega)
      · have phb3 := hb3; try simp at phb3
        refine jg rfl rfl hb3 <| jm rfl rfl <| jg rfl rfl hb3 <| jcallv rfl rfl rfl (num_Is _ _) <| jg rfl rfl hb3 <| jnot rfl rfl <| jpick_f rfl rfl hb3 rfl <| j_nil <| p_thn <| c_cond rfl (fun hb4 => ?_) (fun hb4 => ?_)
        · have phb4 := hb4; try simp at phb4
          refine c_seq <| c_region <| ja rfl rfl <| j_nil <| p_thn <| c_ret <| p_inb_ret <| p_thn_ret <| p_lp_ret <| p_inb_ret <| p_thn_ret <| ?_
          refine p_ret0 rfl rfl (.tmp rfl <| .nil) ?_
          show Value.bool false = _
          congr 1; symm
          exact vall_false (vl (k := k) (by omega)) (by simp [*])
        · have phb4 := hb4; try simp at phb4
          refine c_skip <| p_inb <| p_thn <| c_region <| jadd rfl rfl rfl (by first | exact wr (by omega) (by omega) | rfl) <| jm rfl rfl <| j_nil <| ?_
          refine p_lp (k + 1) ?_ ?_ (sub_c rfl <| sub_c rfl <| sub_n) rfl rfl
          · exact ⟨by omega, vtake_succ (vl (by omega)) hall (by simp [*])⟩
          · omega
    · have phb2 := hb2; try simp at phb2
      refine c_exit <| p_thn_exit <| p_lp_exit <| p_inb_exit <| p_thn <| c_seq <| c_region <| ja rfl rfl <| j_nil <| p_thn <| c_ret <| ?_
      refine p_ret0 rfl rfl (.tmp rfl <| .nil) ?_
      show Value.bool true = _
      congr 1; symm
      rw [List.take_of_length_le (by simp [*]; omega)] at hall
      exact hall
theorem vec_Join (a b : Vec) (M : Mem) : Ctr Tryz.prog 180 [.agg (encVec a).toArray, .agg (encVec b).toArray] M [] (fun r _ _ => r = .agg (encVec (vJoin a b)).toArray) := by
  refine ctr Tryz.func180 rfl Tryz.ntmps180 rfl fun w => ?_
  refine c_seq <| c_region <| jbox rfl rfl rfl fun B1 => jbox rfl rfl rfl fun B2 => jalloc rfl fun B3 => j_nil <| p_thn <| c_seq <| c_seq <| c_region <| jm rfl rfl <| j_nil <| p_thn <| c_block <| c_lpL (X := Nat) (fun k => k ≤ 16) (fun k => 16 - k) (fun k => [(6, vi (k : Int))]) [4, 3, 2] (fun k => [.blk B3 39 (encVec vZ), .blk B2 39 (encVec b), .blk B1 39 (encVec (vJoinTo a b k))]) 0 ?_ (sub_c rfl <| sub_c rfl <| sub_c rfl <| sub_c rfl <| sub_n) (by rw [vJoinTo_0]) ?_
  · omega
  · intro k hI
    refine c_seq <| c_region <| jlss rfl rfl rfl <| j_nil <| p_thn <| c_seq <| c_cond rfl (fun hb4 => ?_) (fun hb4 => ?_)
    · have phb4 := hb4; try simp at phb4
      refine c_skip <| p_thn <| c_seq <| c_block <| c_seq <| c_region <| jm rfl rfl <| ja rfl rfl <| j_nil <| p_thn <| c_draw [3, 6, 7] (by kernel_rfl) <| jd_z (i := 0) rfl rfl (by kernel_rfl) (by kernel_rfl) (by kernel_rfl) (by kernel_rfl) rfl (zm rfl) <| jd_z (i := 1) rfl rfl (by kernel_rfl) (by kernel_rfl) (by kernel_rfl) (by kernel_rfl) rfl (zm rfl) <| jd_z (i := 2) rfl rfl (by kernel_rfl) (by kernel_rfl) (by kernel_rfl) (by kernel_rfl) rfl (zia rfl rfl (by omega) (by omega)) <| jd_first (i := 3) rfl rfl (by kernel_rfl) (by kernel_rfl) (by kernel_rfl) (by kernel_rfl) (by kernel_rfl) rfl (fun _ h => h) (yld1 2 rfl rfl (gV (by omega) (by omega))) <| jd_z (i := 4) rfl rfl (by kernel_rfl) (by kernel_rfl) (by kernel_rfl) (by kernel_rfl) rfl (zm rfl) <| jd_z (i := 5) rfl rfl (by kernel_rfl) (by kernel_rfl) (by kernel_rfl) (by kernel_rfl) rfl (zia rfl rfl (by omega) (by omega)) <| jd_first (i := 6) rfl rfl (by kernel_rfl) (by kernel_rfl) (by kernel_rfl) (by kernel_rfl) (by kernel_rfl) rfl (fun _ h => h) (yld1 1 rfl rfl (gV (by omega) (by omega))) <| jd_first (i := 7) rfl rfl (by kernel_rfl) (by kernel_rfl) (by kernel_rfl) (by kernel_rfl) (by kernel_rfl) rfl (fun _ h => h) (ymax rfl rfl) <| jd_z (i := 8) rfl rfl (by kernel_rfl) (by kernel_rfl) (by kernel_rfl) (by kernel_rfl) rfl (zia rfl rfl (by omega) (by omega)) <| jd_one (i := 9) (by kernel_rfl) rfl <| jst 2 rfl rfl rfl rfl rfl rfl (by simp [len_vec]; omega) (uV (by omega) (by omega)) <| j_nil <| p_jd rfl (.inl (by kernel_rfl)) <| jd_done (by kernel_rfl) <| p_inb <| p_thn <| c_region <| jadd rfl rfl rfl (by first | exact wr (by omega) (by omega) | rfl) <| jm rfl rfl <| j_nil <| ?_
      refine p_lp (k + 1) ?_ ?_ (sub_c rfl <| sub_c rfl <| sub_c rfl <| sub_c rfl <| sub_n) rfl (by rw [← vJoinTo_succ a b (by omega)]; rfl)
      · omega
      · omega
    · have phb4 := hb4; try simp at phb4
      refine c_exit <| p_thn_exit <| p_lp_exit <| p_inb_exit <| p_thn <| c_seq <| c_region <| jldw 2 rfl rfl rfl (len_vec _) <| jstw 0 rfl rfl rfl rfl (len_vec _) (one_vec _) (len_vec _) <| j_nil <| p_thn <| c_ret <| ?_
      refine p_ret0 rfl rfl (.agg 0 inferInstance rfl rfl (len_vec _) <| .nil) ?_
      show Value.agg _ = _
      obtain rfl : k = 16 := by omega
      rw [vJoinTo_16]
theorem vec_Sum (v : Vec) (M : Mem) : Ctr Tryz.prog 195 [.agg (encVec v).toArray] M [] (fun r _ _ => r = pr2 (nSum v.toList)) := by
  refine ctr Tryz.func195 rfl Tryz.ntmps195 rfl fun w => ?_
  refine c_seq <| c_region <| jbox rfl rfl rfl fun B1 => j_known fun M1 hM1 hK1 => ja rfl rfl <| ja rfl rfl <| j_nil <| p_thn <| c_seq <| c_region <| jsa rfl rfl <| jcallv rfl rfl rfl (num_SumN (vec_known hK1) (by simp) (by omega)) <| jext rfl rfl rfl <| jext rfl rfl rfl <| ja rfl rfl <| ja rfl rfl <| j_nil <| p_thn <| c_ret <| ?_
  refine p_ret0 rfl rfl (.tmp rfl <| .tmp rfl <| .nil) ?_
  rfl
theorem vec_Grow (v : Vec) (k n : Int) (M : Mem) : Ctr Tryz.prog 163 [.agg (encVec v).toArray, vi k, vi n] M [] (fun r _ _ => r = pV (vGrow v k n)) := by
  refine ctr Tryz.func163 rfl Tryz.ntmps163 rfl fun w => ?_
  refine c_seq <| c_region <| jbox rfl rfl rfl fun B1 => jalloc rfl fun B2 => ja rfl rfl <| j_nil <| p_thn <| c_seq <| c_seq <| c_region <| jm rfl rfl <| jlss rfl rfl rfl <| jm rfl rfl <| jgs rfl rfl (fun hb3 => ?_) (fun hb3 => ?_)
  · have phb3 := hb3; try simp at phb3
    refine jg_off rfl rfl rfl hb3 <| jg_off rfl rfl rfl hb3 <| jpick_t rfl rfl hb3 rfl <| jm rfl rfl <| jg_off rfl rfl rfl rfl <| jg_off rfl rfl rfl rfl <| jpick_t rfl rfl rfl rfl <| j_nil <| p_thn <| c_cond_kt rfl rfl <| c_seq <| c_region <| jbua0 rfl <| jstw 0 rfl rfl rfl rfl (len_vec _) (one_vec _) (len_vec _) <| ja rfl rfl <| j_nil <| p_thn <| c_ret <| p_thn_ret <| ?_
    refine p_ret0 rfl rfl (.agg 0 inferInstance rfl rfl (len_vec _) <| .tmp rfl <| .nil) ?_
    show pV (_, _) = pV _
    unfold vGrow
    simp only [if_neg (show ¬ (0 ≤ k ∧ k < 16 ∧ 0 ≤ n) by omega)]
    rfl
  · have phb3 := hb3; try simp at phb3
    refine jg rfl rfl hb3 <| jm rfl rfl <| jg rfl rfl hb3 <| jgeq rfl rfl rfl <| jpick_f rfl rfl hb3 rfl <| jm rfl rfl <| jgs rfl rfl (fun hb4 => ?_) (fun hb4 => ?_)
    · have phb4 := hb4; try simp at phb4
      refine jg_off rfl rfl rfl hb4 <| jg_off rfl rfl rfl hb4 <| jpick_t rfl rfl hb4 rfl <| j_nil <| p_thn <| c_cond_kt rfl rfl <| c_seq <| c_region <| jbua0 rfl <| jstw 0 rfl rfl rfl rfl (len_vec _) (one_vec _) (len_vec _) <| ja rfl rfl <| j_nil <| p_thn <| c_ret <| p_thn_ret <| ?_
      refine p_ret0 rfl rfl (.agg 0 inferInstance rfl rfl (len_vec _) <| .tmp rfl <| .nil) ?_
      show pV (_, _) = pV _
      unfold vGrow
      simp only [if_neg (show ¬ (0 ≤ k ∧ k < 16 ∧ 0 ≤ n) by omega)]
      rfl
    · have phb4 := hb4; try simp at phb4
      refine jg rfl rfl hb4 <| jm rfl rfl <| jg rfl rfl hb4 <| jlss rfl rfl rfl <| jpick_f rfl rfl hb4 rfl <| j_nil <| p_thn <| c_cond rfl (fun hb5 => ?_) (fun hb5 => ?_)
      · have phb5 := hb5; try simp at phb5
        refine c_seq <| c_region <| jbua0 rfl <| jstw 0 rfl rfl rfl rfl (len_vec _) (one_vec _) (len_vec _) <| ja rfl rfl <| j_nil <| p_thn <| c_ret <| p_thn_ret <| ?_
        refine p_ret0 rfl rfl (.agg 0 inferInstance rfl rfl (len_vec _) <| .tmp rfl <| .nil) ?_
        show pV (_, _) = pV _
        unfold vGrow
        simp only [if_neg (show ¬ (0 ≤ k ∧ k < 16 ∧ 0 ≤ n) by omega)]
        rfl
      · have phb5 := hb5; try simp at phb5
        refine c_skip <| p_thn <| c_seq <| c_region <| jm rfl rfl <| jia rfl rfl rfl (by omega) (by omega) <| jld1 1 rfl rfl rfl (gV (by omega) (by omega)) <| jm rfl rfl <| jcallv rfl rfl rfl (num_Add _ _ _) <| jm rfl rfl <| jext rfl rfl rfl <| jext rfl rfl rfl <| ja rfl rfl <| ja rfl rfl <| j_nil <| p_thn <| c_seq <| c_seq <| c_region <| jm rfl rfl <| jneq rfl rfl rfl <| j_nil <| p_thn <| c_cond rfl (fun hb6 => ?_) (fun hb6 => ?_)
        · have phb6 := hb6; try simp at phb6
          refine c_seq <| c_region <| jbua0 rfl <| jm rfl rfl <| jstw 0 rfl rfl rfl rfl (len_vec _) (one_vec _) (len_vec _) <| ja rfl rfl <| j_nil <| p_thn <| c_ret <| p_thn_ret <| ?_
          refine p_ret0 rfl rfl (.agg 0 inferInstance rfl rfl (len_vec _) <| .tmp rfl <| .nil) ?_
          show pV (_, _) = pV _
          unfold vGrow
          rw [if_pos (by omega)]
          simp [*, vZ, vSet] <;> rfl
        · have phb6 := hb6; try simp at phb6
          refine c_skip <| p_thn <| c_seq <| c_region <| jm rfl rfl <| jm rfl rfl <| jia rfl rfl rfl (by omega) (by omega) <| jst 1 rfl rfl rfl rfl rfl rfl (by simp [len_vec]; omega) (uV (by omega) (by omega)) <| j_nil <| p_thn <| c_seq <| c_region <| jldw 1 rfl rfl rfl (len_vec _) <| jstw 0 rfl rfl rfl rfl (len_vec _) (one_vec _) (len_vec _) <| ja rfl rfl <| j_nil <| p_thn <| c_ret <| ?_
          refine p_ret0 rfl rfl (.agg 0 inferInstance rfl rfl (len_vec _) <| .tmp rfl <| .nil) ?_
          show pV (_, _) = pV _
          unfold vGrow
          rw [if_pos (by omega)]
          simp [*, vZ, vSet] <;> rfl
attribute [irreducible] vecRight vGrow vJoin
end Go.Proofs.YtihgpbpcbbgdiaaGreat

/- Where elements lie in what holds vectors and matrices; what is put there. -/
namespace Go.Proofs.YtihgpbpcbbgdiaaGreat
open Go.RowKit
set_option linter.unusedVariables false
set_option linter.unusedSimpArgs false
theorem flat_part {i : Nat} : ∀ (l : List Vec) {i : Nat} {v : Vec}, l[i]? = some v → ((l.flatMap encVec).drop (i * 16)).take 16 = encVec v
  | [], _, _, h => by cases h
  | a :: l, 0, v, h => by cases h; rw [Nat.zero_mul]; exact take_app (len_vec _)
  | a :: l, i + 1, v, h => by
    rw [List.flatMap_cons, show (i + 1) * 16 = 16 + i * 16 by omega, drop_drop_app (len_vec _)]
    exact flat_part (i := i) l h
theorem flat_put : ∀ (l : List Vec) {i : Nat} {v : Vec}, i < l.length → (l.flatMap encVec).take (i * 16) ++ encVec v ++ (l.flatMap encVec).drop (i * 16 + 16) = (l.set i v).flatMap encVec
  | [], _, _, h => by cases h
  | a :: l, 0, v, h => by
    rw [Nat.zero_mul, List.flatMap_cons, Nat.zero_add, drop_app (len_vec _)]; rfl
  | a :: l, i + 1, v, h => by
    rw [List.flatMap_cons, show (i + 1) * 16 = 16 + i * 16 by omega, Nat.add_assoc, drop_drop_app (len_vec _), List.take_append, len_vec, List.take_of_length_le (by rw [len_vec]; omega), Nat.add_sub_cancel_left]
    rw [List.set_cons_succ, List.flatMap_cons, ← flat_put l (i := i) (v := v) (by simpa using h), List.append_assoc, List.append_assoc, List.append_assoc]
theorem mAt_get {m : Vector Vec 16} {i : Int} (h1 : i.toNat < 16) : m.toList[i.toNat]? = some (mAt m i) := by
  unfold mAt
  rw [List.getD, Vector.getElem?_toList, Vector.getElem?_eq_getElem h1]; rfl
theorem gM {m : Vector Vec 16} {i : Int} (h0 : 0 ≤ i) (h1 : i < 16) : ((encMoved m).drop (i.toNat * 16)).take 16 = encVec (mAt m i) :=
  flat_part (i := 0) _ (mAt_get (by omega))
theorem gM0 {m : Vector Vec 16} {i : Int} (h0 : 0 ≤ i) (h1 : i < 16) : ((encMoved m).drop (0 + i.toNat * 16)).take 16 = encVec (mAt m i) := by rw [Nat.zero_add]; exact gM h0 h1
section
variable {r : Rights} {c : Counter} {v : Vec} {i : Int} (h0 : 0 ≤ i) (h1 : i < 16)
include h0 h1
theorem gR_given : (encRights r)[0 + i.toNat * 1]? = some (vi (vAt r.given i)) := by
  unfold encRights
  rw [List.getElem?_append_left (by rw [len_vec]; omega)]; exact gV h0 h1
theorem gR_used : (encRights r)[16 + i.toNat * 1]? = some (vi (vAt r.used i)) := by
  unfold encRights
  rw [get_app (len_vec _), List.getElem?_append_left (by rw [len_vec]; omega), ← Nat.zero_add (i.toNat * 1)]; exact gV h0 h1
theorem gR_row : ((encRights r).drop (32 + i.toNat * 16)).take 16 = encVec (mAt r.moved i) := by
  unfold encRights
  rw [show 32 + i.toNat * 16 = 16 + (16 + i.toNat * 16) by omega, drop_drop_app (len_vec _), drop_drop_app (len_vec _)]
  exact gM h0 h1
omit h0 in
theorem uR_row : (encRights r).take (32 + i.toNat * 16) ++ encVec v ++ (encRights r).drop (32 + i.toNat * 16 + 16) = encRights { r with moved := mSet r.moved i v } := by
  unfold encRights
  rw [show 32 + i.toNat * 16 = 16 + (16 + i.toNat * 16) by omega, Nat.add_assoc, drop_drop_app (len_vec _), Nat.add_assoc, drop_drop_app (len_vec _)]
  rw [List.take_append, len_vec, List.take_of_length_le (by rw [len_vec]; omega), Nat.add_sub_cancel_left]
  rw [List.take_append, len_vec, List.take_of_length_le (by rw [len_vec]; omega), Nat.add_sub_cancel_left]
  have h := flat_put r.moved.toList (i := i.toNat) (v := v) (by simp; omega)
  simp only [List.append_assoc]
  unfold encMoved mSet
  rw [← List.append_assoc _ (encVec v), h, Vector.toList_setIfInBounds]
omit h0 h1
theorem uR_given : (encRights r).take 0 ++ encVec v ++ (encRights r).drop (0 + 16) = encRights { r with given := v } := by
  unfold encRights; rw [Nat.zero_add, drop_app (len_vec _)]; rfl
theorem uR_used : (encRights r).take 16 ++ encVec v ++ (encRights r).drop (16 + 16) = encRights { r with used := v } := by
  unfold encRights; rw [take_app (len_vec _), drop_drop_app (len_vec _), drop_app (len_vec _), List.append_assoc]
theorem uC_down {d : Rights} : (encCounter c).take 3 ++ encRights d ++ (encCounter c).drop (3 + 288) = encCounter { c with down := d } := by
  unfold encCounter
  simp only [List.drop_succ_cons, List.take_succ_cons, List.take_zero, List.cons_append, List.nil_append]
  rw [drop_app (len_rights _)]
theorem uC_up {d : Rights} : (encCounter c).take 291 ++ encRights d ++ (encCounter c).drop (291 + 288) = encCounter { c with up := d } := by
  unfold encCounter
  simp only [List.drop_succ_cons, List.take_succ_cons, List.take_zero, List.cons_append, List.nil_append]
  rw [take_app (len_rights _), show 288 + 288 = 288 + 288 from rfl, drop_drop_app (len_rights _), List.drop_of_length_le (by rw [len_rights]; omega), List.append_nil]
end
theorem put_nest {c x P : List Value} {o sz j k : Nat} (hP : (c.drop o).take sz = P) (h2 : j + k ≤ sz) (h3 : o + sz ≤ c.length) :
    c.take (o + j) ++ x ++ c.drop (o + j + k) = c.take o ++ (P.take j ++ x ++ P.drop (j + k)) ++ c.drop (o + sz) := by
  subst hP
  have e1 : c.take (o + j) = c.take o ++ ((c.drop o).take sz).take j := by
    rw [List.take_take, Nat.min_eq_left (by omega), List.take_add]
  have e2 : c.drop (o + j + k) = ((c.drop o).take sz).drop (j + k) ++ c.drop (o + sz) := by
    rw [Nat.add_assoc, ← List.drop_drop, ← List.drop_drop (i := sz), ]
    generalize hd : c.drop o = d
    have hl : sz ≤ d.length := by rw [← hd, List.length_drop]; omega
    rw [← List.take_append_drop sz d, List.drop_append_of_le_length (by rw [List.length_take]; omega), List.take_append_drop]
  rw [e1, e2]; simp only [List.append_assoc]
theorem get_nest {c P : List Value} {o sz j : Nat} {v : Value} (hP : (c.drop o).take sz = P) (h : P[j]? = some v) : c[o + j]? = some v := by
  subst hP
  rw [List.getElem?_take] at h
  split at h
  · simpa using h
  · cases h
theorem uR_given1 {r : Rights} {i n : Int} (h0 : 0 ≤ i) (h1 : i < 16) : (encRights r).take (0 + i.toNat * 1) ++ [vi n] ++ (encRights r).drop (0 + i.toNat * 1 + 1) = encRights { r with given := vSet r.given i n } := by
  have e := uV (v := r.given) (x := n) h0 h1
  simp only [Nat.zero_add] at e
  rw [put_nest (pR_given r) (by omega) (by rw [len_rights]; omega), e]
  exact uR_given
theorem uC_dgiven1 {c : Counter} {i n : Int} (h0 : 0 ≤ i) (h1 : i < 16) : (encCounter c).take (3 + i.toNat * 1) ++ [vi n] ++ (encCounter c).drop (3 + i.toNat * 1 + 1) = encCounter { c with down := { c.down with given := vSet c.down.given i n } } := by
  have e := uR_given1 (r := c.down) (n := n) h0 h1
  simp only [Nat.zero_add] at e
  rw [put_nest (pC_down c) (by omega) (by rw [len_counter]; omega), e]
  exact uC_down
theorem uC_ugiven1 {c : Counter} {i n : Int} (h0 : 0 ≤ i) (h1 : i < 16) : (encCounter c).take (291 + i.toNat * 1) ++ [vi n] ++ (encCounter c).drop (291 + i.toNat * 1 + 1) = encCounter { c with up := { c.up with given := vSet c.up.given i n } } := by
  have e := uR_given1 (r := c.up) (n := n) h0 h1
  simp only [Nat.zero_add] at e
  rw [put_nest (pC_up c) (by omega) (by rw [len_counter]; omega), e]
  exact uC_up
end Go.Proofs.YtihgpbpcbbgdiaaGreat
