/- Several texts in one. -/
import Derived.Test.YtihgpbpcbbgdiaaGreatOrd3
/- Appends, slices that are made, rows that become known, parts of slices, the form of a row laid open. -/
namespace Go.Proofs.YtihgpbpcbbgdiaaGreat
open Go.RowKit
set_option linter.unusedVariables false
set_option linter.unusedSimpArgs false

class ByI (P : Program) (T : Nat) (by_ : outParam Nat) : Prop where
  h : (P.info? T).map (·.bytes) = some by_
theorem Own.drew {cx : Cx} {M : Mem} {w : World} {L : List Ent} (ho : Own cx M w L) : Own cx M w.drew L := ⟨ho.os, ho.tape, ho.output, Nat.le_succ_of_le ho.dr, ho.size, ho.keep, ho.mem, ho.new, ho.old, ho.off, ho.ent, ho.nd, ho.brf⟩
section
variable {P : Program} (w : World)
theorem run_first {sz m : Nat} {xv : Value} {cs : List Value} (hl : cs.length = m * sz) {A : Option Addr} {cap : Nat} (hx : xv = .slice A m cap) (hn : A = none → cs = [])
    (hc : ∀ a, A = some a → ∀ j u, cs[j]? = some u → w.cell? (a.add j) = some u) : (Builtin.firstCells sz m xv).run P w = .ok cs.toArray w := by
  subst hx
  cases A with
  | none => rw [hn rfl]; simp [Builtin.firstCells]
  | some a => exact run_firstCells_some w sz m a m cap cs hl (hc a rfl)
theorem run_app_stay {t t' ty e sz n m cap : Nat} {ag : Bool} {xv : Value} {cs : List Value} [Sl : SlI P t e] [Sl' : SlI P t' e] [TyI P e ag sz] (hm : Builtin.lenOf xv = pure m)
    (hf : (Builtin.firstCells sz m xv).run P w = .ok cs.toArray w) (hcs : cs = []) (A : Option Addr) (hroom : n + m ≤ cap) (hA : ∀ a, A = some a → (storeCells (a.add (n * sz)) []).run P w = .ok () w) :
    (Builtin.append_ #[t, t'] ty #[.slice A n cap, xv]).run P w = .ok (.slice A (n + m) cap) w := by
  subst hcs
  cases A with
  | none => simp [Builtin.append_, run_underlying Sl.h, run_underlying Sl'.h, run_sz, hm, hroom, hf]
  | some a => simp [Builtin.append_, run_underlying Sl.h, run_underlying Sl'.h, run_sz, hm, hroom, hf, storeCells]
theorem run_app_room {t t' ty e sz n m cap B : Nat} {ag : Bool} {xv : Value} {cs : List Value} {cur : List Value} [Sl : SlI P t e] [Sl' : SlI P t' e] [TyI P e ag sz] (hm : Builtin.lenOf xv = pure m)
    (hf : (Builtin.firstCells sz m xv).run P w = .ok cs.toArray w) (h1 : cs.all Value.oneCell' = true) (hroom : n + m ≤ cap) (hB : w.heap[B]? = some (.cells cur.toArray e (0, 0))) (hfit : n * sz + cs.length ≤ cur.length) :
    (Builtin.append_ #[t, t'] ty #[.slice (some ⟨B, 0, none⟩) n cap, xv]).run P w = .ok (.slice (some ⟨B, 0, none⟩) (n + m) cap) (w.setRow B (cur.take (n * sz) ++ cs ++ cur.drop (n * sz + cs.length)).toArray) := by
  have hst := run_storeCells_at P B (n * sz) e cs 0 cur.toArray w hB (by simpa using hfit) (all_one h1)
  simp only [Nat.add_zero] at hst
  simp [Builtin.append_, run_underlying Sl.h, run_underlying Sl'.h, run_sz, hm, hroom, hf, Addr.add_lit, hst]
theorem run_app_grow {t t' ty e sz n m cap by_ : Nat} {ag : Bool} {xv : Value} {A : Option Addr} {c cs zc : List Value} [Sl : SlI P t e] [Sl' : SlI P t' e] [TyI P e ag sz] [By : ByI P e by_] [Z : ZeI P e zc] (hzc : zc.length = sz) (hsz : 0 < sz)
    (hm : Builtin.lenOf xv = pure m) (hf : (Builtin.firstCells sz m xv).run P w.drew = .ok cs.toArray w.drew) (hb : (Builtin.firstCells sz n (.slice A n cap)).run P w.drew = .ok c.toArray w.drew)
    (hgrow : cap < n + m) (hby : (n + m) * by_ ≤ 140737488355328) (hbig : n + m ≤ 9223372036854775807) :
    ∃ nc rest, n + m ≤ nc ∧ rest.length = (nc - (n + m)) * sz ∧ (Builtin.append_ #[t, t'] ty #[.slice A n cap, xv]).run P w = .ok (.slice (some ⟨w.heap.size, 0, none⟩) (n + m) nc) (w.drew.alloc (.cells (c ++ cs ++ rest).toArray e)) := by
  obtain ⟨z, hz, hzz⟩ := run_zero (P := P) w.drew (T := e)
  have hinfo : ∃ i, P.info? e = some i ∧ i.bytes = by_ := by
    have := By.h
    cases hi : P.info? e with
    | none => simp [hi] at this
    | some i => exact ⟨i, rfl, by simpa [hi] using this⟩
  obtain ⟨i, hi, hib⟩ := hinfo
  refine ⟨grownCap w (n + m) cap e, (Builtin.zeroCells z.cells (grownCap w (n + m) cap e - (n + m))).toList, grownCap_ge w _ _ _, ?_, ?_⟩
  · have := size_zeroCells z.cells (grownCap w (n + m) cap e - (n + m))
    rw [Array.length_toList, this, hzz]
    simp [hzc]
  · have hn : ¬ (n + m ≤ cap) := by omega
    have h63' : ¬ (9223372036854775807 < ((n : Int) + (m : Int))) := by omega
    have hfit : Builtin.nextslicecap (n + m) cap * i.bytes ≤ 281474976710656 := growslice_fits hgrow (by rw [hib]; exact hby)
    have h48' : ¬ (281474976710656 < Builtin.nextslicecap (n + m) cap * i.bytes) := by omega
    have hsz' := run_sz (P := P) w (T := e)
    have hT : (typeInfo e).run P w = .ok i w := by simp [typeInfo, hi]
    have hT' : (typeInfo e).run P w.drew = .ok i w.drew := by simp [typeInfo, hi]
    simp [Builtin.append_, run_underlying Sl.h, run_underlying Sl'.h, hsz', hm, hn, h63', hT, hT', h48', Question.forced, hf, hb, hz, newRow, grownCap]
    congr 2
    apply Array.ext'
    simp [List.append_assoc]
end

theorem blks_cons (e : Ent) (L : List Ent) : blks (e :: L) = e.bs ++ blks L := rfl
/-- an entry stands for another one with the same blocks -/
theorem Own.alter {cx : Cx} {M : Mem} {w : World} {L : List Ent} {e e' : Ent} (ho : Own cx M w (e :: L)) (hb : e'.bs = e.bs) (h : e'.holds w) : Own cx M w (e' :: L) := by
  have hbl : blks (e' :: L) = blks (e :: L) := by rw [blks_cons, blks_cons, hb]
  refine ⟨ho.os, ho.tape, ho.output, ho.dr, ho.size, ho.keep, ho.mem, ho.new, ho.old, by rw [hbl]; exact ho.off, ?_, by rw [hbl]; exact ho.nd, by rw [hbl]; exact ho.brf⟩
  intro x hx
  rcases List.mem_cons.1 hx with rfl | hx
  · exact h
  · exact ho.ent x (List.mem_cons_of_mem _ hx)
/-- one that has no block may come, and go -/
theorem Own.cons0 {cx : Cx} {M : Mem} {w : World} {L : List Ent} {e : Ent} (ho : Own cx M w L) (hb : e.bs = []) (h : e.holds w) : Own cx M w (e :: L) := by
  have hbl : blks (e :: L) = blks L := by rw [blks_cons, hb]; rfl
  refine ⟨ho.os, ho.tape, ho.output, ho.dr, ho.size, ho.keep, ho.mem, ho.new, ho.old, by rw [hbl]; exact ho.off, ?_, by rw [hbl]; exact ho.nd, by rw [hbl]; exact ho.brf⟩
  intro x hx
  rcases List.mem_cons.1 hx with rfl | hx
  · exact h
  · exact ho.ent x hx
theorem Own.tail {cx : Cx} {M : Mem} {w : World} {L : List Ent} {e : Ent} (ho : Own cx M w (e :: L)) : Own cx M w L := Own.drop (L := [e]) ho
theorem row_of {w : World} {B T sz n cap : Nat} {c rest : List Value} (hc : c.length = n * sz) (h0 : 0 < cap) (h1 : n ≤ cap) (h2 : rest.length = (cap - n) * sz) (hB : w.heap[B]? = some (.cells (c ++ rest).toArray T (0, 0))) :
    (Ent.row (.slice (some ⟨B, 0, none⟩) n cap) T sz n c).holds w := ⟨hc, .inr ⟨B, cap, rest, rfl, h0, h1, h2, hB⟩⟩
theorem len_of_row {w : World} {v : Value} {T sz n : Nat} {c : List Value} (h : (Ent.row v T sz n c).holds w) : ∃ A cap, v = .slice A n cap := by
  rcases h.2 with ⟨rfl, A, rfl⟩ | ⟨B, cap, rest, rfl, _⟩
  · exact ⟨A, 0, rfl⟩
  · exact ⟨_, cap, rfl⟩

section
variable {cx : Cx} {Q : Post} {E : Env} {M : Mem} {L : List Ent} {ops : Array Oper} {d T : Nat} {pos : String} {af : Array Edge} {rest : List Oper} {x y z : Operand} {v u : Value}
theorem run_append_op {t t' ty : Nat} {pos : String} {af : Array Edge} {a : Act} {w w' : World} {r bv xv : Value} (hs : Sat cx.ds cx.n E a) (hx : ev E x = some bv) (hy : ev E y = some xv) (h : (Builtin.append_ #[t, t'] ty #[bv, xv]).run cx.P w = .ok r w') :
    (execOp a.eval ⟨some d, .call ⟨.builtin .append, #[x, y], #[t, t']⟩, ty, pos, af, none⟩).run cx.P w = .ok (.value r) w' := by
  simp [execOp, resolve, invoke, builtin, hs.ev hx, hs.ev hy, h]
/-- append to a row that is owned (it stands first) -/
theorem japp {t t' e sz by_ n m : Nat} {ag : Bool} {zc c cs : List Value} {xv : Value} [Sl : SlI cx.P t e] [Sl' : SlI cx.P t' e] [TyI cx.P e ag sz] [ByI cx.P e by_] [Z : ZeI cx.P e zc] (hn : Nat.blt d cx.n = true)
    (hx : ev E x = some v) (hy : ev E y = some xv) (hs : ∀ w, Own cx M w (.row v e sz n c :: L) → Src M (.row v e sz n c :: L) xv sz m cs) (h1 : cs.all Value.oneCell' = true) (hzc : zc.length = sz) (hsz : 0 < sz)
    (hby : (n + m) * by_ ≤ 140737488355328) (hbig : n + m ≤ 9223372036854775807) (hk : ∀ v', J cx ops Q rest ((d, v') :: E) M (.row v' e sz (n + m) (c ++ cs) :: L)) :
    J cx ops Q (⟨some d, .call ⟨.builtin .append, #[x, y], #[t, t']⟩, T, pos, af, none⟩ :: rest) E M (.row v e sz n c :: L) :=
  j_new (M' := M) (fun a w hsat ho => by
    have hrow := ho.at' (i := 0) rfl
    obtain ⟨hcs, X, xcap, rfl, hX0, hX⟩ := hs w ho
    have hf : (Builtin.firstCells sz m (.slice X m xcap)).run cx.P w = .ok cs.toArray w := run_first w hcs rfl hX0 (fun a ha => hX cx w ho a ha)
    have hf' : (Builtin.firstCells sz m (.slice X m xcap)).run cx.P w.drew = .ok cs.toArray w.drew := run_first w.drew hcs rfl hX0 (fun a ha => hX cx w.drew ho.drew a ha)
    have hc := hrow.1
    have hlen : (c ++ cs).length = (n + m) * sz := by rw [List.length_append, hc, hcs, Nat.add_mul]
    rcases hrow.2 with ⟨rfl, A, rfl⟩ | ⟨B, cap, rs, rfl, h0, h2, h3, h4⟩
    · have hc0 : c = [] := by simpa using hc
      by_cases hm : m = 0
      · have hcs0 : cs = [] := by rw [hm] at hcs; simpa using hcs
        refine ⟨.slice A 0 0, w, .row (.slice A 0 0) e sz (0 + m) (c ++ cs) :: L, run_append_op hsat hx hy ?_, ?_, hk _⟩
        · subst hm; exact run_app_stay w rfl hf hcs0 A (Nat.le_refl _) (fun a ha => rfl)
        · refine ho.alter (by cases A <;> rfl) ⟨hlen, .inl ⟨by omega, A, rfl⟩⟩
      · have hb : (Builtin.firstCells sz 0 (.slice A 0 0)).run cx.P w.drew = .ok c.toArray w.drew := run_first w.drew hc rfl (fun _ => hc0) (fun a ha j u hu => by rw [hc0] at hu; cases hu)
        obtain ⟨nc, rs, g1, g2, g3⟩ := run_app_grow (P := cx.P) (t := t) (t' := t') (ty := T) w hzc hsz rfl hf' hb (by omega) hby hbig
        refine ⟨_, _, .row (.slice (some ⟨w.heap.size, 0, none⟩) (0 + m) nc) e sz (0 + m) (c ++ cs) :: L, run_append_op hsat hx hy g3, ?_, hk _⟩
        have h5 := (ho.tail.drew).alloc e (c ++ cs ++ rs)
        refine h5.alter (by simp [Ent.bs]; omega) (row_of hlen (by omega) g1 g2 ?_)
        exact heap_alloc_new _ _
    · by_cases hroom : n + m ≤ cap
      · refine ⟨_, _, .row (.slice (some ⟨B, 0, none⟩) (n + m) cap) e sz (n + m) (c ++ cs) :: L, run_append_op hsat hx hy (run_app_room w rfl hf h1 hroom h4 ?_), ?_, hk _⟩
        · rw [List.length_append, hc, hcs, h3, ← Nat.add_mul, ← Nat.add_mul]; exact Nat.mul_le_mul_right _ (by omega)
        · have ho' : Own cx M w (.blk B e (c ++ rs) :: L) := ho.alter (by simp [Ent.bs, Nat.ne_of_gt h0]) h4
          have e1 : (c ++ rs).take (n * sz) ++ cs ++ (c ++ rs).drop (n * sz + cs.length) = (c ++ cs) ++ rs.drop (m * sz) := by
            rw [← hc, List.take_left, hcs, ← List.drop_drop, List.drop_left]
          have h5 := ho'.set (i := 0) rfl ((c ++ cs) ++ rs.drop (m * sz))
          rw [e1]
          refine Own.alter (e := .blk B e ((c ++ cs) ++ rs.drop (m * sz))) h5 (by simp [Ent.bs, Nat.ne_of_gt h0]) (row_of hlen h0 hroom ?_ (h5.at' (i := 0) rfl))
          rw [List.length_drop, h3, ← Nat.sub_mul, Nat.sub_sub]
      · have hb : (Builtin.firstCells sz n (.slice (some ⟨B, 0, none⟩) n cap)).run cx.P w.drew = .ok c.toArray w.drew := run_first w.drew hc rfl (by intro h; cases h) (fun a ha j u hu => by
          cases ha
          have : w.drew.heap[B]? = some (Obj.cells (c ++ rs).toArray e (0, 0)) := h4
          rw [add_at, cell_of_heap this, Nat.zero_add, List.getElem?_append_left (List.getElem?_eq_some_iff.1 hu).1]; exact hu)
        obtain ⟨nc, rs', g1, g2, g3⟩ := run_app_grow (P := cx.P) (t := t) (t' := t') (ty := T) w hzc hsz rfl hf' hb (by omega) hby hbig
        refine ⟨_, _, .row (.slice (some ⟨w.heap.size, 0, none⟩) (n + m) nc) e sz (n + m) (c ++ cs) :: L, run_append_op hsat hx hy g3, ?_, hk _⟩
        have h5 := (ho.tail.drew).alloc e (c ++ cs ++ rs')
        refine h5.alter (by simp [Ent.bs]; omega) (row_of hlen (by omega) g1 g2 ?_)
        exact heap_alloc_new _ _) hn
/-- append to a slice that is full: a row of its own comes of it -/
theorem japp0 {t t' e sz by_ n m : Nat} {ag : Bool} {zc c cs : List Value} {xv : Value} [Sl : SlI cx.P t e] [Sl' : SlI cx.P t' e] [TyI cx.P e ag sz] [ByI cx.P e by_] [Z : ZeI cx.P e zc] (hn : Nat.blt d cx.n = true) {A : Option Addr}
    (hx : ev E x = some (.slice A n n)) (hy : ev E y = some xv) (hb : ∀ w, Own cx M w L → Src M L (.slice A n n) sz n c) (hs : ∀ w, Own cx M w L → Src M L xv sz m cs) (h1 : cs.all Value.oneCell' = true) (hzc : zc.length = sz) (hsz : 0 < sz) (hm : 0 < m ∨ n = 0)
    (hby : (n + m) * by_ ≤ 140737488355328) (hbig : n + m ≤ 9223372036854775807) (hk : ∀ v', J cx ops Q rest ((d, v') :: E) M (.row v' e sz (n + m) (c ++ cs) :: L)) :
    J cx ops Q (⟨some d, .call ⟨.builtin .append, #[x, y], #[t, t']⟩, T, pos, af, none⟩ :: rest) E M L :=
  j_new (M' := M) (fun a w hsat ho => by
    obtain ⟨hcs, X, xcap, rfl, hX0, hX⟩ := hs w ho
    obtain ⟨hc, A', cap', e0, hA0, hAc⟩ := hb w ho
    cases e0
    have hf : (Builtin.firstCells sz m (.slice X m xcap)).run cx.P w = .ok cs.toArray w := run_first w hcs rfl hX0 (fun a ha => hX cx w ho a ha)
    have hf' : (Builtin.firstCells sz m (.slice X m xcap)).run cx.P w.drew = .ok cs.toArray w.drew := run_first w.drew hcs rfl hX0 (fun a ha => hX cx w.drew ho.drew a ha)
    have hlen : (c ++ cs).length = (n + m) * sz := by rw [List.length_append, hc, hcs, Nat.add_mul]
    by_cases hm0 : m = 0
    · have hn0 : n = 0 := by omega
      subst hn0; subst hm0
      have hcs0 : cs = [] := by simpa using hcs
      have hc0 : c = [] := by simpa using hc
      refine ⟨.slice A 0 0, w, .row (.slice A 0 0) e sz (0 + 0) (c ++ cs) :: L, run_append_op hsat hx hy ?_, ?_, hk _⟩
      · exact run_app_stay w rfl hf hcs0 A (Nat.le_refl _) (fun a ha => rfl)
      · exact ho.cons0 (by cases A <;> rfl) ⟨hlen, .inl ⟨rfl, A, rfl⟩⟩
    · have hbb : (Builtin.firstCells sz n (.slice A n n)).run cx.P w.drew = .ok c.toArray w.drew := run_first w.drew hc rfl hA0 (fun a ha => hAc cx w.drew ho.drew a ha)
      obtain ⟨nc, rs', g1, g2, g3⟩ := run_app_grow (P := cx.P) (t := t) (t' := t') (ty := T) w hzc hsz rfl hf' hbb (by omega) hby hbig
      refine ⟨_, _, .row (.slice (some ⟨w.heap.size, 0, none⟩) (n + m) nc) e sz (n + m) (c ++ cs) :: L, run_append_op hsat hx hy g3, ?_, hk _⟩
      have h5 := ho.drew.alloc e (c ++ cs ++ rs')
      refine h5.alter (by simp [Ent.bs]; omega) (row_of hlen (by omega) g1 g2 ?_)
      exact heap_alloc_new _ _) hn

/-- a row becomes known -/
theorem j_freeze {sz n e : Nat} {c : List Value} (hk : ∀ M', MLe M M' → (∃ A cap, v = .slice A n cap ∧ n ≤ cap ∧ c.length = n * sz ∧ (0 < n → ∃ b o, A = some ⟨b, o, none⟩ ∧ ∀ j u, c[j]? = some u → M' ⟨b, o + j, none⟩ = some u)) → J cx ops Q rest E M' L) :
    J cx ops Q rest E M (.row v e sz n c :: L) := fun a w hs ho => by
  have hrow := ho.at' (i := 0) rfl
  rcases hrow.2 with ⟨rfl, A, rfl⟩ | ⟨B, cap, rs, rfl, h0, h2, h3, h4⟩
  · exact hk M (MLe.refl M) ⟨A, 0, rfl, Nat.le_refl _, hrow.1, fun h => absurd h (Nat.lt_irrefl 0)⟩ a w hs ho.tail
  · let M' : Mem := fun p => if p.block = B ∧ p.spot = none then c[p.off]? else M p
    have hbl : (Ent.row (.slice (some ⟨B, 0, none⟩) n cap) e sz n c).bs = [B] := by simp [Ent.bs, Nat.ne_of_gt h0]
    have hBn : B ∉ blks L := by
      have := ho.nd
      rw [blks_cons, hbl] at this
      exact (List.nodup_cons.1 this).1
    have hBm : B ∈ blks (Ent.row (.slice (some ⟨B, 0, none⟩) n cap) e sz n c :: L) := by rw [blks_cons, hbl]; simp
    have hle : MLe M M' := fun p q hq => by
      have : p.block ≠ B := fun e => ho.off p q hq (e ▸ hBm)
      simp [M', this, hq]
    have hcell : ∀ j u, c[j]? = some u → w.cell? ⟨B, j, none⟩ = some u := fun j u hu => by
      rw [cell_of_heap h4, List.getElem?_append_left (List.getElem?_eq_some_iff.1 hu).1]; exact hu
    have ht := ho.tail
    refine hk M' hle ⟨_, cap, rfl, h2, hrow.1, fun _ => ⟨B, 0, rfl, fun j u hu => by simp [M', hu]⟩⟩ a w hs ⟨ht.os, ht.tape, ht.output, ht.dr, ht.size, ht.keep, ?_, ?_, fun p q hq => hle p q (ho.old p q hq), ?_, ht.ent, ht.nd, ht.brf⟩
    · intro p q hq
      by_cases hp : p.block = B ∧ p.spot = none
      · obtain ⟨b, o, s⟩ := p
        simp only at hp
        obtain ⟨rfl, rfl⟩ := hp
        simp [M'] at hq
        exact hcell o q hq
      · simp only [M', hp, if_false] at hq; exact ho.mem p q hq
    · intro p q hq
      by_cases hp : p.block = B ∧ p.spot = none
      · exact .inr (hp.1 ▸ ho.brf B hBm)
      · simp only [M', hp, if_false] at hq; exact ho.new p q hq
    · intro p q hq
      by_cases hp : p.block = B ∧ p.spot = none
      · rw [hp.1]; exact hBn
      · simp only [M', hp, if_false] at hq; exact ht.off p q hq
end
end Go.Proofs.YtihgpbpcbbgdiaaGreat

/- Small rules that the printed proofs use. -/
namespace Go.Proofs.YtihgpbpcbbgdiaaGreat
open Go.RowKit
set_option linter.unusedVariables false
theorem wr {x : Int} (h0 : -9223372036854775808 ≤ x) (h1 : x ≤ 9223372036854775807) : IntKind.i64.wrap x = x := by
  rw [IntKind.wrap_i64]; omega
theorem sub_n {E : Env} : sub E [] := trivial
theorem sub_c {E E' : Env} {k : Nat} {v : Value} (h : find E k = some v) (h' : sub E E') : sub E ((k, v) :: E') := ⟨h, h'⟩
theorem sub_get {E E' : Env} {a : Act} (h : ∀ t v, find E t = some v → a.tmps[t]? = some v) (hs : sub E E') : ∀ t v, find E' t = some v → a.tmps[t]? = some v := fun t v ht => h t v (sub_find hs t v ht)
/-- the bindings one by one -/
def alls (a : Array Value) : Env → Prop
  | [] => True
  | (k, v) :: E => a[k]? = some v ∧ alls a E
theorem alls_get {a : Array Value} : ∀ {E : Env}, alls a E → ∀ t v, find E t = some v → a[t]? = some v
  | [], _, t, v, h => by cases h
  | (k, u) :: E, h, t, v, ht => by
    by_cases e : k = t
    · subst e; rw [find_eq] at ht; cases ht; exact h.1
    · rw [find_ne e] at ht; exact alls_get h.2 t v ht
def pickE : List Nat → Env → Env
  | [], _ => []
  | t :: ts, E => match find E t with
    | some v => (t, v) :: pickE ts E
    | none => pickE ts E
section
variable {cx : Cx} {Q : Post} {E : Env} {M : Mem} {L : List Ent} {ops : Array Oper} {d T : Nat} {pos : String} {af : Array Edge} {rest : List Oper} {x y z : Operand} {v u : Value}
theorem c_cond_kt {c : Operand} {x y : Code} {b : Bool} (hc : ev E c = some (.bool b)) (hb : b = true) (ht : JC cx x Q E M L) : JC cx (.cond c x y) Q E M L := by subst hb; exact c_cond_t hc ht
theorem c_cond_kf {c : Operand} {x y : Code} {b : Bool} (hc : ev E c = some (.bool b)) (hb : b = false) (ht : JC cx y Q E M L) : JC cx (.cond c x y) Q E M L := by subst hb; exact c_cond_f hc ht
theorem jgs {j t : Nat} {want b : Bool} {dst : Option Nat} {op : Op} (hd : (ops[j]?).bind (·.dst) = some t) (hb : find E t = some (.bool b))
    (ht : b = true → J cx ops Q (⟨dst, op, T, pos, af, some (j, want)⟩ :: rest) E M L) (hf : b = false → J cx ops Q (⟨dst, op, T, pos, af, some (j, want)⟩ :: rest) E M L) :
    J cx ops Q (⟨dst, op, T, pos, af, some (j, want)⟩ :: rest) E M L := by
  cases b
  · exact hf rfl
  · exact ht rfl
theorem yldw {t sz B B' : Nat} {c : List Value} (i : Nat) [TyI cx.P t true sz] (hx : ev E x = some (.pointer (some ⟨B, 0, none⟩))) (hL : L[i]? = some (.blk B B' c))
    (hl : c.length = sz) : Y cx ⟨some d, .load t x, T, pos, af, none⟩ E M L (.agg c.toArray) := yld i hx hL (by rw [List.drop_zero, ← hl, List.take_length]) hl
theorem jldw {t sz B B' : Nat} {c : List Value} (i : Nat) [TyI cx.P t true sz] (hn : Nat.blt d cx.n = true) (hx : ev E x = some (.pointer (some ⟨B, 0, none⟩))) (hL : L[i]? = some (.blk B B' c))
    (hl : c.length = sz) (hk : J cx ops Q rest ((d, .agg c.toArray) :: E) M L) : J cx ops Q (⟨some d, .load t x, T, pos, af, none⟩ :: rest) E M L := j_y hn (yldw i hx hL hl) hk
theorem p_ret0 {fn : Func} {Ps : Value → Mem → List Ent → Prop} {rs : List ResultVar} {vs : List Value} (hds : cx.ds = []) (hr : fn.results = rs.toArray) (h : Res cx.P E L rs vs) (hp : Ps (outv vs) M []) : JP cx (bq cx fn Ps) .ret E M L := p_ret hds hr h (here0 hp)
theorem p_retL {fn : Func} {Ps : Value → Mem → List Ent → Prop} {rs : List ResultVar} {vs : List Value} (hds : cx.ds = []) (hr : fn.results = rs.toArray) (h : Res cx.P E L rs vs) (hp : Ps (outv vs) M L) : JP cx (bq cx fn Ps) .ret E M L := p_ret hds hr h (here hp)
theorem p_end0 {fn : Func} {Ps : Value → Mem → List Ent → Prop} {rs : List ResultVar} {vs : List Value} (hds : cx.ds = []) (hr : fn.results = rs.toArray) (h : Res cx.P E L rs vs) (hp : Ps (outv vs) M []) : JP cx (bq cx fn Ps) .normal E M L := p_end hds hr h (here0 hp)
theorem p_endL {fn : Func} {Ps : Value → Mem → List Ent → Prop} {rs : List ResultVar} {vs : List Value} (hds : cx.ds = []) (hr : fn.results = rs.toArray) (h : Res cx.P E L rs vs) (hp : Ps (outv vs) M L) : JP cx (bq cx fn Ps) .normal E M L := p_end hds hr h (here hp)
/-- a loop in which nothing is known anew, and the owned blocks stay -/
theorem c_lp {X : Type} (I : X → Prop) (μ : X → Nat) (ch : X → Env) (ks : List Nat) {c : Code} (k0 : X) (hi : I k0) (hE : sub E (ch k0 ++ pickE ks E))
    (h : ∀ k, I k → JC cx c (lpQ cx I μ (μ k) (fun k => ch k ++ pickE ks E) (fun _ => M) (fun _ => L) Q) (ch k ++ pickE ks E) M L) : JC cx (.loop c) Q E M L :=
  c_loop I μ (fun k => ch k ++ pickE ks E) (fun _ => M) (fun _ => L) k0 hi hE rfl rfl h
/-- .. in which the owned blocks turn -/
theorem c_lpL {X : Type} (I : X → Prop) (μ : X → Nat) (ch : X → Env) (ks : List Nat) (L' : X → List Ent) {c : Code} (k0 : X) (hi : I k0) (hE : sub E (ch k0 ++ pickE ks E)) (hL : L' k0 = L)
    (h : ∀ k, I k → JC cx c (lpQ cx I μ (μ k) (fun k => ch k ++ pickE ks E) (fun _ => M) L' Q) (ch k ++ pickE ks E) M (L' k)) : JC cx (.loop c) Q E M L :=
  c_loop I μ (fun k => ch k ++ pickE ks E) (fun _ => M) L' k0 hi hE rfl hL h
/-- .. in which more becomes known, too -/
theorem c_lpML {X : Type} (I : X → Prop) (μ : X → Nat) (ch : X → Env) (ks : List Nat) (M' : X → Mem) (L' : X → List Ent) {c : Code} (k0 : X) (hi : I k0) (hE : sub E (ch k0 ++ pickE ks E)) (hM : M' k0 = M) (hL : L' k0 = L)
    (h : ∀ k, I k → JC cx c (lpQ cx I μ (μ k) (fun k => ch k ++ pickE ks E) M' L' Q) (ch k ++ pickE ks E) (M' k) (L' k)) : JC cx (.loop c) Q E M L :=
  c_loop I μ (fun k => ch k ++ pickE ks E) M' L' k0 hi hE hM hL h
/-- a slice written out: its row -/
theorem jbs {t n e sz : Nat} {ag : Bool} {ps : Array (Nat × Operand)} {pv : List (Nat × Value)} {c : List Value} {zc : List Value} [Sl : SlI cx.P t e] [TyI cx.P e ag sz] [Z : ZeI cx.P e zc] (hn : Nat.blt d cx.n = true)
    (hp : evP E ps.toList = some pv) (hzc : zc.length = sz) (h0 : n * sz ≠ 0) (h24 : n * sz ≤ 16777216) (hf : Instr.fill (fun i => some (i * sz, sz)) ((Array.range (n * sz)).map (zc.toArray[· % sz]!)) pv = some c.toArray)
    (hk : ∀ B, J cx ops Q rest ((d, .slice (some ⟨B, 0, none⟩) n n) :: E) M (.blk B e c :: L)) : J cx ops Q (⟨some d, .buildSlice t n ps, T, pos, af, none⟩ :: rest) E M L :=
  j_new (M' := M) (fun a w hs ho => by
    have key : ∀ (l : List (Nat × Operand)) (r : List (Nat × Value)), evP E l = some r → l.map (fun p => (p.1, a.eval p.2)) = r := by
      intro l
      induction l with
      | nil => intro r h; simp [evP] at h; simp [h]
      | cons o l ih =>
        obtain ⟨i, o⟩ := o
        intro r h
        simp only [evP] at h
        cases hv : ev E o with
        | none => simp [hv] at h
        | some v =>
          cases hl : evP E l with
          | none => simp [hv, hl] at h
          | some vs => simp [hv, hl] at h; subst h; simp [hs.ev hv, ih vs hl]
    have hpv := key _ _ hp
    have hpa : (ps.map fun (i, x) => (i, a.eval x)).toList = pv := by simpa using hpv
    obtain ⟨z, hz, hzz⟩ := run_zero (P := cx.P) w (T := e)
    refine ⟨.slice (some ⟨w.heap.size, 0, none⟩) n n, _, _, ?_, ho.alloc e c, hk _⟩
    have hsz := run_sz (P := cx.P) w (T := e)
    have h24' : ¬ (16777216 < n * sz) := by omega
    simp only [execOp, Instr.buildSlice, Sem.run_bind, run_underlying Sl.h, Result.andThen_ok, hsz]
    have hzs : z.cells.size = sz := by rw [hzz]; simpa using hzc
    have h24'' : ¬ (n * sz > 2 ^ 24) := by omega
    have hzm : (fun x => z.cells[x % z.cells.size]! : Nat → Value) = (fun x => zc.toArray[x % sz]!) := by rw [hzz, List.size_toArray, hzc]
    simp only [h24'', if_false, h0, Sem.run_bind, hz, Result.andThen_ok, Sem.run_pure, hpa, hzm, hf, newRow, run_newObj_alloc, pure_bind]) hn
theorem jbs0 {t e sz : Nat} {ag : Bool} [Sl : SlI cx.P t e] [TyI cx.P e ag sz] (hn : Nat.blt d cx.n = true)
    (hk : ∀ B, J cx ops Q rest ((d, .slice (some ⟨B, 0, none⟩) 0 0) :: E) M (.blk B e [] :: L)) : J cx ops Q (⟨some d, .buildSlice t 0 #[], T, pos, af, none⟩ :: rest) E M L :=
  j_new (M' := M) (fun a w hs ho => by
    refine ⟨.slice (some ⟨w.heap.size, 0, none⟩) 0 0, _, _, ?_, ho.alloc e [], hk _⟩
    have hsz := run_sz (P := cx.P) w (T := e)
    simp [execOp, Instr.buildSlice, Sem.run_bind, run_underlying Sl.h, hsz, Instr.fill, newRow]
    congr 2
    apply Array.ext
    · simp
    · intro i h1 h2; simp at h2) hn
end
end Go.Proofs.YtihgpbpcbbgdiaaGreat

/- Slices written out; what a frozen row says of typed elements; sub-slices; appends by name. -/
namespace Go.Proofs.YtihgpbpcbbgdiaaGreat
open Go.RowKit
set_option linter.unusedVariables false
set_option linter.unusedSimpArgs false

theorem foldl_set (cs : List Value) : ∀ (X : List Value) (o k : Nat), o + k + cs.length ≤ X.length →
    ((cs.zipIdx k).foldl (fun (a : Array Value) (p : Value × Nat) => a.setIfInBounds (o + p.2) p.1) X.toArray) = (X.take (o + k) ++ cs ++ X.drop (o + k + cs.length)).toArray := by
  induction cs with
  | nil => intro X o k h; simp
  | cons c cs ih =>
    intro X o k h
    simp only [List.zipIdx_cons, List.foldl_cons, List.setIfInBounds_toArray]
    rw [ih _ o (k + 1) (by simp at h ⊢; omega)]
    congr 1
    have := list_seg_step X (o + k) c cs (by simpa [Nat.add_assoc] using h)
    simpa [Nat.add_assoc] using this
theorem fill_step {sz n : Nat} {v : Value} {c X : List Value} {i : Nat} {rest : List (Nat × Value)} (hc : v.cells = c.toArray) (hl : c.length = sz) (hX : i * sz + sz ≤ X.length) :
    Instr.fill (fun i => some (i * sz, sz)) X.toArray ((i, v) :: rest) = Instr.fill (fun i => some (i * sz, sz)) (X.take (i * sz) ++ c ++ X.drop (i * sz + sz)).toArray rest := by
  have h2 : v.cells.zipIdx.foldl (fun (a : Array Value) (p : Value × Nat) => a.setIfInBounds (i * sz + p.2) p.1) X.toArray = (X.take (i * sz) ++ c ++ X.drop (i * sz + sz)).toArray := by
    have := foldl_set c X (i * sz) 0 (by omega)
    simp only [Nat.add_zero, hl] at this
    rw [← this, hc]
    simp [List.mapIdx_eq_zipIdx_map]
  rw [Instr.fill]
  have h1 : ¬ ((v.cells.size != sz || decide (i * sz + v.cells.size > X.toArray.size)) = true) := by
    rw [hc]; simp [hl]; omega
  have h3 : (if v.cells.size ≠ sz || i * sz + v.cells.size > X.toArray.size then (none : Option (Array Value)) else Instr.fill (fun i => some (i * sz, sz)) (v.cells.zipIdx.foldl (fun cs x => cs.setIfInBounds (i * sz + x.2) x.1) X.toArray) rest) = Instr.fill (fun i => some (i * sz, sz)) (X.take (i * sz) ++ c ++ X.drop (i * sz + sz)).toArray rest := by
    rw [if_neg (by rw [hc]; simp [hl]; omega), h2]
  exact h3
theorem fill_list {sz : Nat} : ∀ (vs : List Value) (cs : List (List Value)) (k : Nat) (pre X : List Value), vs.map Value.cells = cs.map List.toArray → (∀ c ∈ cs, c.length = sz) → pre.length = k * sz → X.length = vs.length * sz →
    Instr.fill (fun i => some (i * sz, sz)) (pre ++ X).toArray ((vs.zipIdx k).map fun p => (p.2, p.1)) = some (pre ++ cs.flatten).toArray
  | [], cs, k, pre, X, h, _, _, hX => by
    have hcs : cs = [] := by cases cs <;> simp_all
    have hX0 : X = [] := by simpa using hX
    subst hcs; subst hX0; simp [Instr.fill]
  | v :: vs, cs, k, pre, X, h, hc, hp, hX => by
    cases cs with
    | nil => simp at h
    | cons c cs =>
      simp only [List.map_cons, List.cons.injEq] at h
      have hl := hc c (by simp)
      have hX' : X.length = sz + vs.length * sz := by rw [hX, List.length_cons, Nat.add_mul]; omega
      simp only [List.zipIdx_cons, List.map_cons]
      rw [fill_step (n := 0) h.1 hl (by rw [List.length_append]; omega)]
      have e : (pre ++ X).take (k * sz) ++ c ++ (pre ++ X).drop (k * sz + sz) = (pre ++ c) ++ X.drop sz := by
        rw [← hp, List.take_left, ← List.drop_drop, List.drop_left]
      rw [e]
      have := fill_list vs cs (k + 1) (pre ++ c) (X.drop sz) h.2 (fun x hx => hc x (List.mem_cons_of_mem _ hx)) (by rw [List.length_append, hp, hl, Nat.add_mul, Nat.one_mul]) (by rw [List.length_drop, hX']; omega)
      simpa [List.append_assoc] using this
section
variable {cx : Cx} {Q : Post} {E : Env} {M : Mem} {L : List Ent} {ops : Array Oper} {d T : Nat} {pos : String} {af : Array Edge} {rest : List Oper} {x y z : Operand} {v u : Value}
/-- a slice written out, element by element -/
theorem jbsl {t n e sz : Nat} {ag : Bool} {ps : Array (Nat × Operand)} {vs : List Value} {zc : List Value} (cs : List (List Value)) [Sl : SlI cx.P t e] [TyI cx.P e ag sz] [Z : ZeI cx.P e zc] (hn : Nat.blt d cx.n = true)
    (hp : evP E ps.toList = some ((vs.zipIdx 0).map fun p => (p.2, p.1))) (hv : vs.map Value.cells = cs.map List.toArray) (hc : ∀ c ∈ cs, c.length = sz) (hln : vs.length = n) (hzc : zc.length = sz) (h0 : n * sz ≠ 0) (h24 : n * sz ≤ 16777216)
    (hk : ∀ B, J cx ops Q rest ((d, .slice (some ⟨B, 0, none⟩) n n) :: E) M (.blk B e cs.flatten :: L)) : J cx ops Q (⟨some d, .buildSlice t n ps, T, pos, af, none⟩ :: rest) E M L := by
  refine jbs (c := cs.flatten) hn hp hzc h0 h24 ?_ hk
  have := fill_list (sz := sz) vs cs 0 [] ((List.range (n * sz)).map (fun x => zc.toArray[x % sz]!)) hv hc (by simp) (by simp [hln])
  simp only [List.nil_append] at this
  rw [← this]
  congr 1
  apply Array.ext'
  simp
end
/-- what a frozen row says -/
theorem SlR.frozen {α : Type} {r : Rep α} {M : Mem} {A : Option Addr} {cap : Nat} {xs : List α} {c : List Value} (hcap : xs.length ≤ cap)
    (hA : 0 < xs.length → ∃ b o, A = some ⟨b, o, none⟩ ∧ ∀ j u, c[j]? = some u → M ⟨b, o + j, none⟩ = some u) (hel : ∀ i x, xs[i]? = some x → r.R M x ((c.drop (i * r.sz)).take r.sz)) : SlR r M A cap xs :=
  ⟨hcap, fun i x hx => by
    have hi := (List.getElem?_eq_some_iff.1 hx).1
    obtain ⟨b, o, rfl, hm⟩ := hA (by omega)
    refine ⟨b, o, _, rfl, hel i x hx, fun j u hu => hm _ u ?_⟩
    rw [List.getElem?_take] at hu
    split at hu
    · simpa using hu
    · cases hu⟩
theorem SlR.frozen1 {α : Type} {r : Rep α} {f : α → Value} {M : Mem} {A : Option Addr} {cap : Nat} {xs : List α} (hsz : r.sz = 1) (hf : ∀ M x, r.R M x [f x]) (hcap : xs.length ≤ cap)
    (hA : 0 < xs.length → ∃ b o, A = some ⟨b, o, none⟩ ∧ ∀ j u, (xs.map f)[j]? = some u → M ⟨b, o + j, none⟩ = some u) : SlR r M A cap xs :=
  ⟨hcap, fun i x hx => by
    have hi := (List.getElem?_eq_some_iff.1 hx).1
    obtain ⟨b, o, rfl, hm⟩ := hA (by omega)
    refine ⟨b, o, [f x], rfl, hf M x, fun j u hu => ?_⟩
    cases j with
    | zero =>
      simp at hu; subst hu
      rw [hsz, Nat.mul_one, Nat.add_zero]
      exact hm i (f x) (by simp [hx])
    | succ j => simp at hu⟩
/-- one-cell elements: the cells that may be read -/
theorem SlR.src1 {α : Type} {r : Rep α} {f : α → Value} {M : Mem} {A : Option Addr} {cap : Nat} {xs : List α} (h : SlR r M A cap xs) (hsz : r.sz = 1) (hf : ∀ M x c, r.R M x c → c = [f x]) (L : List Ent) :
    Src M L (.slice A xs.length cap) 1 xs.length (xs.map f) := by
  obtain ⟨cs, h1, h2, h3⟩ := h.src L
  have : cs = xs.map f := by
    have hl := h1.1
    rw [hsz, Nat.mul_one] at hl
    apply List.ext_getElem?
    intro i
    by_cases hi : i < xs.length
    · have := hf _ _ _ (h3 i xs[i] (List.getElem?_eq_getElem hi))
      rw [hsz, Nat.mul_one] at this
      have e := congrArg (fun l => l[0]?) this
      simp only [List.getElem?_take, List.getElem?_drop, Nat.add_zero, Nat.lt_add_one, if_true, List.getElem?_cons_zero, Nat.zero_lt_one] at e
      rw [e]; simp [hi]
    · rw [List.getElem?_eq_none (by omega), List.getElem?_eq_none (by simp; omega)]
  rw [← this, ← hsz]
  simpa using h1
end Go.Proofs.YtihgpbpcbbgdiaaGreat
