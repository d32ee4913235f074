/- What the functions of package num tell. -/
import Derived.Test.YtihgpbpcbbgdiaaGreatCore8
import Derived.Test.YtihgpbpcbbgdiaaGreatEnc
import Derived.Test.YtihgpbpcbbgdiaaGreatTyp
namespace Go.Proofs.YtihgpbpcbbgdiaaGreat
open Go.RowKit
set_option linter.unusedVariables false
set_option linter.unusedSimpArgs false
def isN (n : Int) : Bool := decide (-1099511627776 ≤ n ∧ n ≤ 1099511627776)
theorem isN_iff {n : Int} : isN n = true ↔ -1099511627776 ≤ n ∧ n ≤ 1099511627776 := by simp [isN]
theorem isN_not {n : Int} : isN n = false ↔ ¬ (-1099511627776 ≤ n ∧ n ≤ 1099511627776) := by simp [isN]
/-- two results: a number, and an error -/
abbrev pr2 (p : Int × Int) : Value := .tuple #[vi p.1, vi p.2]

theorem num_Is (n : Int) (M : Mem) : Ctr Tryz.prog 104 [vi n] M [] (fun r _ _ => r = .bool (isN n)) := by
  refine ctr Tryz.func104 rfl Tryz.ntmps104 rfl fun w => ?_
  refine c_seq <| c_region <| ja rfl rfl <| j_nil <| p_thn <| c_seq <| c_region <| jm rfl rfl <| jgeq rfl rfl rfl <| jm rfl rfl <| jgs rfl rfl (fun hb1 => ?_) (fun hb1 => ?_)
  · have phb1 := hb1; try simp at phb1
    refine jg rfl rfl hb1 <| jm rfl rfl <| jg rfl rfl hb1 <| jleq rfl rfl rfl <| jpick_t rfl rfl hb1 rfl <| ja rfl rfl <| j_nil <| p_thn <| c_ret <| ?_
    refine p_ret0 rfl rfl (.tmp rfl <| .nil) ?_
    first | (simp [outv, isN, *]; done) | (simp [outv, isN]; omega)
  · have phb1 := hb1; try simp at phb1
    refine jg_off rfl rfl rfl hb1 <| jg_off rfl rfl rfl hb1 <| jpick_f rfl rfl hb1 rfl <| ja rfl rfl <| j_nil <| p_thn <| c_ret <| ?_
    refine p_ret0 rfl rfl (.tmp rfl <| .nil) ?_
    first | (simp [outv, isN, *]; done) | (simp [outv, isN]; omega)

def checkedB (n : Int) (of : List Int) : Bool := of.all isN && isN n
def ck (n : Int) (of : List Int) : Int × Int := if checkedB n of then (n, 0) else (0, 2)
theorem take_all_succ {l : List Int} {k : Nat} {x : Int} (hx : l[k]? = some x) (h : (l.take k).all isN = true) (h1 : isN x = true) : (l.take (k + 1)).all isN = true := by
  rw [List.take_add_one, hx, List.all_append, h]; simp [h1]
theorem all_false {l : List Int} {k : Nat} {x : Int} (hx : l[k]? = some x) (h1 : isN x = false) : l.all isN = false := by
  rw [List.all_eq_false]; exact ⟨x, List.mem_of_getElem? hx, by simp [h1]⟩

theorem num_checked (n : Int) (of : List Int) (A : Option Addr) (M : Mem) (hof : SlR rInt M A of.length of) (hl : of.length ≤ 1000) : Ctr Tryz.prog 144 [vi n, .slice A of.length of.length] M [] (fun r _ _ => r = pr2 (ck n of)) := by
  refine ctr Tryz.func144 rfl Tryz.ntmps144 rfl fun w => ?_
  refine c_seq <| c_region <| ja rfl rfl <| ja rfl rfl <| j_nil <| p_thn <| c_seq <| c_seq <| c_region <| jm rfl rfl <| jm rfl rfl <| jbsl (vs := [_]) [_] rfl rfl rfl (by simp) rfl rfl (by decide) (by decide) fun B1 => japp0 rfl rfl rfl (fun _ _ => hof.src1 rfl (fun _ _ _ h => h) _) (fun _ _ => Src.blk (i := 0) rfl rfl) rfl rfl (by decide) (.inl (by decide)) (by omega) (by omega) fun v1 => j_freeze fun M1 hM1 ⟨A1, cap1, hv1, hc1, hl1, hA1⟩ => ?_
  subst hv1
  have hS : SlR rInt M1 A1 cap1 (of ++ [n]) := SlR.frozen1 rfl (fun _ _ => rfl) (by simp; exact hc1) (fun h => by have := hA1 (Nat.succ_pos _); simpa using this)
  refine jlen rfl rfl <| jm rfl rfl <| j_nil <| p_thn <| c_block <| c_lp (X := Nat) (fun k => k ≤ of.length + 1 ∧ ((of ++ [n]).take k).all isN = true) (fun k => of.length + 1 - k) (fun k => [(13, vi (k : Int))]) [12, 11, 0] 0 ?_ (sub_c rfl <| sub_c rfl <| sub_c rfl <| sub_c rfl <| sub_n) ?_
  · exact ⟨by omega, rfl⟩
  · intro k hI
    obtain ⟨hk, hall⟩ := hI
    refine c_seq <| c_region <| jlss rfl rfl rfl <| j_nil <| p_thn <| c_seq <| c_cond rfl (fun hb2 => ?_) (fun hb2 => ?_)
    · have phb2 := hb2; try simp at phb2
      obtain ⟨x, hx⟩ : ∃ x, (of ++ [n])[k]? = some x := ⟨(of ++ [n])[k]'(by simp; omega), List.getElem?_eq_getElem _⟩
      refine c_skip <| p_thn <| c_seq <| c_block <| c_seq <| c_region <| ji rfl rfl rfl (by omega) (by omega) (hS.adr (i := k) (by simp; omega)) <| jle1 (o := 0) rfl hS hx rfl (fun c h => by cases h; rfl) <| ja rfl rfl <| j_nil <| p_thn <| c_seq <| c_region <| jm rfl rfl <| jcallv rfl rfl rfl (num_Is _ _) <| jnot rfl rfl <| j_nil <| p_thn <| c_cond rfl (fun hb3 => ?_) (fun hb3 => ?_)
      · have phb3 := hb3; try simp at phb3
        refine c_seq <| c_region <| ja rfl rfl <| ja rfl rfl <| j_nil <| p_thn <| c_ret <| p_inb_ret <| p_thn_ret <| p_lp_ret <| p_inb_ret <| p_thn_ret <| ?_
        refine p_ret0 rfl rfl (.tmp rfl <| .tmp rfl <| .nil) ?_
        show pr2 (0, 2) = pr2 (ck n of)
        have h1 := all_false hx (by simpa using hb3)
        rw [List.all_append] at h1
        unfold ck checkedB
        rw [if_neg]
        intro h; rw [Bool.and_eq_true] at h; rw [h.1] at h1; simp [h.2] at h1
      · have phb3 := hb3; try simp at phb3
        refine c_skip <| p_inb <| p_thn <| c_region <| jadd rfl rfl rfl (by first | exact wr (by omega) (by omega) | rfl) <| jm rfl rfl <| j_nil <| ?_
        refine p_lp (k + 1) ?_ ?_ (sub_c rfl <| sub_c rfl <| sub_c rfl <| sub_c rfl <| sub_n) rfl rfl
        · exact ⟨by omega, take_all_succ hx hall (by simpa using hb3)⟩
        · omega
    · have phb2 := hb2; try simp at phb2
      refine c_exit <| p_thn_exit <| p_lp_exit <| p_inb_exit <| p_thn <| c_seq <| c_region <| jm rfl rfl <| ja rfl rfl <| ja rfl rfl <| j_nil <| p_thn <| c_ret <| ?_
      refine p_ret0 rfl rfl (.tmp rfl <| .tmp rfl <| .nil) ?_
      show pr2 (n, 0) = pr2 (ck n of)
      rw [List.take_of_length_le (by simp; omega), List.all_append] at hall
      unfold ck checkedB
      rw [if_pos]
      simpa using hall

def nAdd (a b : Int) : Int × Int := if isN a && isN b && isN (a + b) then (a + b, 0) else (0, 2)
def nSub (a b : Int) : Int × Int := if isN a && isN b && isN (a - b) then (a - b, 0) else (0, 2)
theorem ck_add (a b : Int) : ck (IntKind.i64.wrap (a + b)) [a, b] = nAdd a b := by
  unfold ck checkedB nAdd
  by_cases h : isN a = true ∧ isN b = true
  · have h1 := isN_iff.1 h.1
    have h2 := isN_iff.1 h.2
    rw [wr (by omega) (by omega)]; simp [h.1, h.2]
  · have : (isN a && isN b) = false := by rw [Bool.and_eq_false_iff]; cases ha : isN a <;> cases hb : isN b <;> simp_all
    simp [this]
theorem ck_sub (a b : Int) : ck (IntKind.i64.wrap (a - b)) [a, b] = nSub a b := by
  unfold ck checkedB nSub
  by_cases h : isN a = true ∧ isN b = true
  · have h1 := isN_iff.1 h.1
    have h2 := isN_iff.1 h.2
    rw [wr (by omega) (by omega)]; simp [h.1, h.2]
  · have : (isN a && isN b) = false := by rw [Bool.and_eq_false_iff]; cases ha : isN a <;> cases hb : isN b <;> simp_all
    simp [this]
theorem flat1 (l : List Int) : (l.map (fun n => [vi n])).flatten = l.map vi := by
  induction l with
  | nil => rfl
  | cons a l ih => simp only [List.map_cons, List.flatten_cons, ih]; rfl
theorem two_known {M : Mem} {B : Nat} {l : List Int} (hK : ∀ j u, (l.map (fun n => [vi n])).flatten[j]? = some u → M ⟨B, j, none⟩ = some u) : SlR rInt M (some ⟨B, 0, none⟩) l.length l :=
  SlR.frozen1 rfl (fun _ _ => rfl) (Nat.le_refl _) (fun _ => ⟨B, 0, rfl, fun j u hu => by
    rw [Nat.zero_add]
    refine hK j u ?_
    rw [flat1]
    exact hu⟩)

theorem num_Add (a b : Int) (M : Mem) : Ctr Tryz.prog 156 [vi a, vi b] M [] (fun r _ _ => r = pr2 (nAdd a b)) := by
  refine ctr Tryz.func156 rfl Tryz.ntmps156 rfl fun w => ?_
  refine c_seq <| c_region <| ja rfl rfl <| ja rfl rfl <| j_nil <| p_thn <| c_seq <| c_region <| jm rfl rfl <| jm rfl rfl <| jadd rfl rfl rfl rfl <| jm rfl rfl <| jm rfl rfl <| jbsl (vs := [_, _]) [_, _] rfl rfl rfl (by simp) rfl rfl (by decide) (by decide) fun B1 => j_known fun M1 hM1 hK1 => jcallv rfl rfl rfl (num_checked _ [a, b] _ _ (two_known (l := [a, b]) hK1) (by simp)) <| jext rfl rfl rfl <| jext rfl rfl rfl <| ja rfl rfl <| ja rfl rfl <| j_nil <| p_thn <| c_ret <| ?_
  refine p_ret0 rfl rfl (.tmp rfl <| .tmp rfl <| .nil) ?_
  show pr2 (ck _ _) = _
  rw [ck_add]
theorem num_Sub (a b : Int) (M : Mem) : Ctr Tryz.prog 101 [vi a, vi b] M [] (fun r _ _ => r = pr2 (nSub a b)) := by
  refine ctr Tryz.func101 rfl Tryz.ntmps101 rfl fun w => ?_
  refine c_seq <| c_region <| ja rfl rfl <| ja rfl rfl <| j_nil <| p_thn <| c_seq <| c_region <| jm rfl rfl <| jm rfl rfl <| jsub rfl rfl rfl rfl <| jm rfl rfl <| jm rfl rfl <| jbsl (vs := [_, _]) [_, _] rfl rfl rfl (by simp) rfl rfl (by decide) (by decide) fun B1 => j_known fun M1 hM1 hK1 => jcallv rfl rfl rfl (num_checked _ [a, b] _ _ (two_known (l := [a, b]) hK1) (by simp)) <| jext rfl rfl rfl <| jext rfl rfl rfl <| ja rfl rfl <| ja rfl rfl <| j_nil <| p_thn <| c_ret <| ?_
  refine p_ret0 rfl rfl (.tmp rfl <| .tmp rfl <| .nil) ?_
  show pr2 (ck _ _) = _
  rw [ck_sub]

def sumGo : Int → List Int → Option Int
  | n, [] => some n
  | n, x :: xs => if isN n && isN x && isN (n + x) then sumGo (n + x) xs else none
def sumP : Option Int → Int × Int
  | some n => (n, 0)
  | none => (0, 2)
def nSum (xs : List Int) : Int × Int := sumP (sumGo 0 xs)
def sumE : Option Int → Ending → Prop
  | some n, r => r = .returned (vi n)
  | none, r => r = .panicked [{ v := .iface 30 (vi 2), recovered := false }]
def errnoPanic (e : Int) : List PanicEntry := [{ v := .iface 30 (vi e), recovered := false }]


def MustP (n e : Int) (r : Ending) : Prop := (e = 0 ∧ r = .returned (vi n)) ∨ (e ≠ 0 ∧ r = .panicked (errnoPanic e))
theorem MustP.out {n e : Int} : ¬ MustP n e .outgrown := by intro h; rcases h with ⟨_, h⟩ | ⟨_, h⟩ <;> cases h
theorem MustP.ret {n e : Int} {v : Value} (h : MustP n e (.returned v)) : e = 0 ∧ v = vi n := by
  rcases h with ⟨h0, h⟩ | ⟨_, h⟩
  · injection h with h; exact ⟨h0, h⟩
  · cases h
theorem MustP.pan {n e : Int} {c : List PanicEntry} (h : MustP n e (.panicked c)) : e ≠ 0 ∧ c = errnoPanic e := by
  rcases h with ⟨_, h⟩ | ⟨h0, h⟩
  · cases h
  · injection h with h; exact ⟨h0, h⟩

theorem num_Must (n e : Int) (M : Mem) : CtrE Tryz.prog 166 [vi n, vi e] M [] (fun r _ _ => MustP n e r) := by
  refine ctrE Tryz.func166 rfl Tryz.ntmps166 rfl fun w => ?_
  refine c_seq <| c_region <| ja rfl rfl <| j_nil <| p_thn <| c_seq <| c_seq <| c_region <| jm rfl rfl <| jneq rfl rfl rfl <| j_nil <| p_thn <| c_cond rfl (fun hb1 => ?_) (fun hb1 => ?_)
  · have phb1 := hb1; try simp at phb1
    refine c_region <| jm rfl rfl <| jiface rfl Tryz.underlying30 rfl rfl <| jpanic rfl <| p_thn_pan <| ?_
    refine pE_pan rfl ?_
    exact .inr ⟨phb1, rfl⟩
  · have phb1 := hb1; try simp at phb1
    subst phb1
    refine c_skip <| p_thn <| c_seq <| c_region <| jm rfl rfl <| ja rfl rfl <| j_nil <| p_thn <| c_ret <| ?_
    refine pE_ret rfl rfl (.tmp rfl <| .nil) ?_
    exact .inl ⟨rfl, rfl⟩

theorem sumGo_take {xs : List Int} {k : Nat} {s x : Int} (h : sumGo 0 (xs.take k) = some s) (hx : xs[k]? = some x) : sumGo 0 (xs.take (k + 1)) = if isN s && isN x && isN (s + x) then some (s + x) else none := by
  have key : ∀ (l : List Int) (n s : Int), sumGo n l = some s → sumGo n (l ++ [x]) = if isN s && isN x && isN (s + x) then some (s + x) else none := by
    intro l
    induction l with
    | nil => intro n s h; simp only [sumGo, Option.some.injEq] at h; subst h; simp only [List.nil_append, sumGo]
    | cons a l ih =>
      intro n s h
      simp only [sumGo] at h
      split at h
      · rename_i hc; simp only [List.cons_append, sumGo, hc, if_true]; exact ih _ _ h
      · cases h
  rw [List.take_add_one, hx]
  exact key _ _ _ h
theorem sumGo_none {xs : List Int} : ∀ (n : Int) (k : Nat), sumGo n (xs.take k) = none → sumGo n xs = none := by
  induction xs with
  | nil => intro n k h; simp at h; cases k <;> simp [sumGo] at h
  | cons a l ih =>
    intro n k h
    cases k with
    | zero => simp [sumGo] at h
    | succ k =>
      simp only [List.take_succ_cons, sumGo] at h ⊢
      split at h
      · rename_i hc; simp only [hc, if_true]; exact ih _ _ h
      · rename_i hc; simp only [hc]; rfl
theorem nAdd_e {a b : Int} : (nAdd a b).2 = 0 ∧ (isN a && isN b && isN (a + b)) = true ∧ (nAdd a b).1 = a + b ∨ (nAdd a b).2 = 2 ∧ (isN a && isN b && isN (a + b)) = false := by
  unfold nAdd
  cases h : isN a && isN b && isN (a + b) <;> simp

theorem num_Sum1 (xs : List Int) (A : Option Addr) (cap B : Nat) (M : Mem) (hS : SlR rInt M A cap xs) (hB : M ⟨B, 0, none⟩ = some (.slice A xs.length cap)) (hlen : xs.length ≤ 1000000) : CtrE Tryz.prog 165 [.pointer (some ⟨B, 0, none⟩)] M [] (fun r _ _ => sumE (sumGo 0 xs) r) := by
  refine ctrE Tryz.func165 rfl Tryz.ntmps165 rfl fun w => ?_
  refine c_seq <| c_region <| ja rfl rfl <| j_nil <| p_thn <| c_seq <| c_region <| ja rfl rfl <| j_nil <| p_thn <| c_seq <| c_seq <| c_region <| jlm1 rfl rfl hB <| jlen rfl rfl <| jm rfl rfl <| j_nil <| p_thn <| c_block <| c_lp (X := Nat × Int) (fun k => k.1 ≤ xs.length ∧ sumGo 0 (xs.take k.1) = some k.2) (fun k => xs.length - k.1) (fun k => [(7, vi (k.1 : Int)), (2, vi k.2)]) [6, 5, 1] (0, 0) ?_ (sub_c rfl <| sub_c rfl <| sub_c rfl <| sub_c rfl <| sub_c rfl <| sub_n) ?_
  · exact ⟨Nat.zero_le _, rfl⟩
  · intro ⟨k, s⟩ hI
    obtain ⟨hk, hs⟩ := hI
    simp only at hk hs
    dsimp only
    refine c_seq <| c_region <| jlss rfl rfl rfl <| j_nil <| p_thn <| c_seq <| c_cond rfl (fun hb1 => ?_) (fun hb1 => ?_)
    · have phb1 := hb1; try simp at phb1
      obtain ⟨x, hx⟩ : ∃ x, xs[k]? = some x := ⟨xs[k]'(by omega), List.getElem?_eq_getElem _⟩
      refine c_skip <| p_thn <| c_seq <| c_block <| c_seq <| c_region <| ji rfl rfl rfl (by omega) (by omega) (hS.adr (i := k) (by omega)) <| jle1 (o := 0) rfl hS hx rfl (fun c h => by cases h; rfl) <| ja rfl rfl <| j_nil <| p_thn <| c_region <| jm rfl rfl <| jm rfl rfl <| jcallv rfl rfl rfl (num_Add _ _ _) <| jext rfl rfl rfl <| jext rfl rfl rfl <| jcallE rfl rfl rfl (num_Must _ _ _) (fun _ _ => MustP.out) ?_ ?_
      · intro v _ _ hv
        obtain ⟨he, rfl⟩ := MustP.ret hv
        rcases nAdd_e (a := s) (b := x) with ⟨_, hc, hn⟩ | ⟨he2, _⟩
        rotate_left
        · omega
        rw [hn]
        refine ja rfl rfl <| j_nil <| p_inb <| p_thn <| c_region <| jadd rfl rfl rfl (by first | exact wr (by omega) (by omega) | rfl) <| jm rfl rfl <| j_nil <| ?_
        refine p_lp ((k + 1, s + x)) ?_ ?_ (sub_c rfl <| sub_c rfl <| sub_c rfl <| sub_c rfl <| sub_c rfl <| sub_n) rfl rfl
        · exact ⟨by simp only; omega, by rw [sumGo_take hs hx, if_pos hc]⟩
        · simp only; omega
      · intro pch _ _ hp
        obtain ⟨he, rfl⟩ := MustP.pan hp
        rcases nAdd_e (a := s) (b := x) with ⟨he2, _⟩ | ⟨he2, hc⟩
        · exact absurd he2 he
        rw [he2]
        refine p_inb_pan <| p_thn_pan <| p_lp_pan <| p_inb_pan <| p_thn_pan <| ?_
        refine pE_pan rfl ?_
        rw [sumGo_none 0 (k + 1) (by rw [sumGo_take hs hx, if_neg (by simp [hc])])]
        exact (rfl : Ending.panicked _ = _)
    · have phb1 := hb1; try simp at phb1
      refine c_exit <| p_thn_exit <| p_lp_exit <| p_inb_exit <| p_thn <| c_seq <| c_region <| jm rfl rfl <| ja rfl rfl <| j_nil <| p_thn <| c_ret <| ?_
      refine pE_ret rfl rfl (.tmp rfl <| .nil) ?_
      rw [List.take_of_length_le (by omega)] at hs
      rw [hs]
      rfl

/-- the deferred closure, behind a panic with an error; behind none -/
theorem num_Try1_pan (Be Bn : Nat) (x y : Value) (e : Int) (w : World) (M : Mem) (ho : Own ⟨Tryz.prog, 0, w, [Be, Bn], M, []⟩ M w [.blk Be 30 [x], .blk Bn 3 [y]]) :
    CallsD Tryz.prog 204 #[.pointer (some ⟨Be, 0, none⟩), .pointer (some ⟨Bn, 0, none⟩)] (.panicking (errnoPanic e)) w fun en u' w' =>
      en = .returned (.tuple #[]) ∧ u' = .panicking [{ v := .iface 30 (vi e), recovered := true }] ∧ Own ⟨Tryz.prog, 0, w, [Be, Bn], M, []⟩ M w' [.blk Be 30 [vi e], .blk Bn 3 [vi 0]] := by
  refine callsD_of_wpS Tryz.func204 rfl fun c₀ cs hu => ?_
  apply wpS_seq
  apply wpS_region
  simp [wpOpsS, go_sem, recoverD, hu, errnoPanic, Tryz.ntmps204, Exit.thenS]
  refine wpS_of_wp ?_
  have hJ : ∀ Q : Post, (JP ⟨Tryz.prog, 15, w, [Be, Bn], M, []⟩ Q .normal [] M [.blk Be 30 [vi e], .blk Bn 3 [vi 0]]) → JC ⟨Tryz.prog, 15, w, [Be, Bn], M, []⟩ (match Tryz.f204.body with | some (.seq _ c) => c | _ => .skip) Q [(0, .pointer (some ⟨Be, 0, none⟩)), (1, .pointer (some ⟨Bn, 0, none⟩)), (2, .iface 30 (vi e))] M [.blk Be 30 [x], .blk Bn 3 [y]] := fun Q hQ =>
    c_seq <| c_region <| jm rfl rfl <| jineq rfl Tryz.underlying20 rfl rfl <| j_nil <| p_thn <| c_cond_kt rfl rfl <| c_seq <| c_region <| ja rfl rfl <| j_nil <| p_thn <| c_seq <| c_seq <| c_region <| jm rfl rfl <| jta rfl Tryz.underlying30 rfl rfl <| jm rfl rfl <| jext rfl rfl rfl <| jext rfl rfl rfl <| jstw 0 rfl rfl rfl rfl rfl rfl rfl <| ja rfl rfl <| j_nil <| p_thn <| c_seq <| c_region <| jm rfl rfl <| jnot rfl rfl <| j_nil <| p_thn <| c_cond_kf rfl rfl <| c_skip <| p_thn <| c_region <| jstw 1 rfl rfl rfl rfl rfl rfl rfl <| j_nil <| fun a w hs ho => hQ a w (hs.weaken (by intro t v h; cases h)) ho
  refine hJ _ (fun a w' hs ho' => ?_) _ w ⟨rfl, rfl, ?_⟩ ho.cxn
  · exact ⟨hs.d, _, rfl, _, by simp [results, Tryz.results204], rfl, rfl, ho'.cxn⟩
  · exact alls_get ⟨by simp, by simp, by simp, trivial⟩
theorem num_Try1_ret (w0 w : World) (Br : List Nat) (M0 M : Mem) (L : List Ent) (Be Bn : Nat) (ho : Own ⟨Tryz.prog, 0, w0, Br, M0, []⟩ M w L) :
    CallsD Tryz.prog 204 #[.pointer (some ⟨Be, 0, none⟩), .pointer (some ⟨Bn, 0, none⟩)] .returning w fun en u' w' => en = .returned (.tuple #[]) ∧ u' = .returning ∧ Own ⟨Tryz.prog, 0, w0, Br, M0, []⟩ M w' L := by
  refine callsD_of_wpS Tryz.func204 rfl fun c₀ cs hu => ?_
  apply wpS_seq
  apply wpS_region
  simp [wpOpsS, go_sem, recoverD, hu, Tryz.ntmps204, Exit.thenS]
  refine wpS_of_wp ?_
  have hJ : ∀ Q : Post, (JP ⟨Tryz.prog, 15, w0, Br, M0, []⟩ Q .normal [] M L) → JC ⟨Tryz.prog, 15, w0, Br, M0, []⟩ (match Tryz.f204.body with | some (.seq _ c) => c | _ => .skip) Q [(2, .nilIface)] M L := fun Q hQ =>
    c_seq <| c_region <| jm rfl rfl <| jineq0 rfl Tryz.underlying20 rfl <| j_nil <| p_thn <| c_cond_kf rfl rfl <| c_skip <| fun a w hs ho => hQ a w (hs.weaken (by intro t v h; cases h)) ho
  refine hJ _ (fun a w' hs ho' => ?_) _ w ⟨rfl, rfl, ?_⟩ ho.cxn
  · cases c₀
    exact ⟨hs.d, _, by simp at hu; rw [hu], _, by simp [results, Tryz.results204], rfl, rfl, ho'.cxn⟩
  · exact alls_get ⟨by simp, trivial⟩
theorem num_Try (f : FuncId) (ca : List Value) [FnI Tryz.prog f] (o : Option Int) (M : Mem) (HF : CtrE Tryz.prog f ca M [] (fun r _ _ => sumE o r)) :
    Ctr Tryz.prog 164 [.func (.func f) #[] ca.toArray] M [] (fun r _ _ => r = pr2 (sumP o)) := fun w ho => by
  refine calls_of_wp_defers Tryz.func164 rfl ?_
  have hJ : JC ⟨Tryz.prog, 9, w, [], M, []⟩ (match Tryz.f164.body with | some c => c | _ => .skip) (bodyPostD Tryz.prog Tryz.f164 (fun e w' => ∃ v M' L', e = .returned v ∧ v = pr2 (sumP o) ∧ Own ⟨Tryz.prog, 0, w, [], M, []⟩ M' w' L')) [(0, .func (.func f) #[] ca.toArray)] M [] := by
    refine c_seq <| c_region <| jalloc rfl fun Bn => jalloc rfl fun Be => j_nil <| p_thn <| c_seq <| c_seq <| c_region <| jm rfl rfl <| jfeq rfl Tryz.underlying98 rfl rfl <| j_nil <| p_thn <| c_cond_kf rfl rfl <| c_skip <| p_thn <| ?_
    refine c_seq <| c_region <| jfunc rfl rfl rfl <| jdefer rfl rfl <| j_nil <| p_thn <| c_seq <| c_region <| jm rfl rfl <| jcallE (fi := []) rfl rfl rfl HF (fun _ _ => by cases o <;> (intro h; cases h)) ?_ ?_
    · intro v _ _ hv
      cases o with
      | none => cases hv
      | some n =>
        injection hv with hv
        subst hv
        refine jstw 1 rfl rfl rfl rfl rfl rfl rfl <| jstw 0 rfl rfl rfl rfl rfl rfl rfl <| j_nil <| p_thn <| c_ret <| fun a w' hs ho' => ?_
        show Leaves _ _ _ _ a.defers _ _
        rw [hs.d]
        refine leaves_cons (f := 204) (args := #[.pointer (some ⟨Be, 0, none⟩), .pointer (some ⟨Bn, 0, none⟩)]) (by simp) (by simp [invoke, run_callFunc]) ?_
        refine (num_Try1_ret w w' [] M M _ Be Bn ho'.cxn).mono ?_
        rintro e u' w'' ⟨rfl, rfl, ho''⟩
        refine ⟨pr2 (n, 0), ?_, _, M, _, rfl, rfl, ho''⟩
        exact run_results hs (cx := ⟨Tryz.prog, 9, w, [], M, _⟩) ho''.cxn (rs := [.cell 2 3, .cell 3 30]) rfl (.one 1 inferInstance rfl rfl <| .one 0 inferInstance rfl rfl .nil)
    · intro pch _ _ hp
      cases o with
      | some n => cases hp
      | none =>
        injection hp with hp
        subst hp
        refine p_thn_pan <| fun a w' hs ho' => ?_
        show Leaves _ _ _ _ a.defers _ _
        rw [hs.d]
        refine leaves_cons (f := 204) (args := #[.pointer (some ⟨Be, 0, none⟩), .pointer (some ⟨Bn, 0, none⟩)]) (by simp) (by simp [invoke, run_callFunc]) ?_
        have hl : Own ⟨Tryz.prog, 9, w, [], M, []⟩ M w' ([.blk Be 30 [vi 0], .blk Bn 3 [vi 0]] ++ []) := ho'.cxn
        refine (num_Try1_pan Be Bn _ _ 2 w' M hl.lend).mono ?_
        rintro e u' w'' ⟨rfl, rfl, h2⟩
        have ho'' := hl.call h2
        refine ⟨pr2 (0, 2), ?_, _, M, _, rfl, rfl, ho''.cxn⟩
        exact run_results hs (cx := ⟨Tryz.prog, 9, w, [], M, _⟩) ho''.cxn (rs := [.cell 2 3, .cell 3 30]) rfl (.one 1 inferInstance rfl rfl <| .one 0 inferInstance rfl rfl .nil)
  refine hJ _ w ?_ ho.cxn
  exact ⟨rfl, by simp [Tryz.ntmps164], alls_get ⟨by simp, trivial⟩⟩

theorem num_Sum (xs : List Int) (A : Option Addr) (cap : Nat) (M : Mem) (hS : SlR rInt M A cap xs) (hlen : xs.length ≤ 1000000) : Ctr Tryz.prog 127 [.slice A xs.length cap] M [] (fun r _ _ => r = pr2 (nSum xs)) := by
  refine ctr Tryz.func127 rfl Tryz.ntmps127 rfl fun w => ?_
  refine c_seq <| c_region <| jbox rfl rfl rfl fun B1 => j_known fun M1 hM1 hK1 => ja rfl rfl <| ja rfl rfl <| j_nil <| p_thn <| c_seq <| c_region <| jfunc rfl rfl rfl <| jcallv rfl rfl rfl (num_Try 165 [_] (sumGo 0 xs) _ (num_Sum1 xs A cap _ _ (hS.mono hM1) (hK1 0 _ rfl) hlen)) <| jext rfl rfl rfl <| jext rfl rfl rfl <| ja rfl rfl <| ja rfl rfl <| j_nil <| p_thn <| c_ret <| ?_
  refine p_ret0 rfl rfl (.tmp rfl <| .tmp rfl <| .nil) ?_
  rfl
attribute [irreducible] nAdd nSub nSum
end Go.Proofs.YtihgpbpcbbgdiaaGreat
