/- Appends, slices that are made, rows that become known, parts of slices, the form of a row laid open. -/
import Derived.Test.YtihgpbpcbbgdiaaGreatCore4
namespace Go.Proofs.YtihgpbpcbbgdiaaGreat
open Go.RowKit
set_option linter.unusedVariables false
set_option linter.unusedSimpArgs false

class ByI (P : Program) (T : Nat) (by_ : outParam Nat) : Prop where
  h : (P.info? T).map (·.bytes) = some by_
theorem Own.drew {cx : Cx} {M : Mem} {w : World} {L : List Ent} (ho : Own cx M w L) : Own cx M w.drew L := ⟨ho.os, ho.tape, ho.output, Nat.le_succ_of_le ho.dr, ho.size, ho.keep, ho.mem, ho.new, ho.old, ho.off, ho.ent, ho.nd, ho.brf⟩
section
variable {P : Program} (w : World)
theorem run_first {sz m : Nat} {xv : Value} {cs : List Value} (hl : cs.length = m * sz) {A : Option Addr} {cap : Nat} (hx : xv = .slice A m cap) (hn : A = none → cs = [])
    (hc : ∀ a, A = some a → ∀ j u, cs[j]? = some u → w.cell? (a.add j) = some u) : (Builtin.firstCells sz m xv).run P w = .ok cs.toArray w := by
  subst hx
  cases A with
  | none => rw [hn rfl]; simp [Builtin.firstCells]
  | some a => exact run_firstCells_some w sz m a m cap cs hl (hc a rfl)
theorem run_app_stay {t t' ty e sz n m cap : Nat} {ag : Bool} {xv : Value} {cs : List Value} [Sl : SlI P t e] [Sl' : SlI P t' e] [TyI P e ag sz] (hm : Builtin.lenOf xv = pure m)
    (hf : (Builtin.firstCells sz m xv).run P w = .ok cs.toArray w) (hcs : cs = []) (A : Option Addr) (hroom : n + m ≤ cap) (hA : ∀ a, A = some a → (storeCells (a.add (n * sz)) []).run P w = .ok () w) :
    (Builtin.append_ #[t, t'] ty #[.slice A n cap, xv]).run P w = .ok (.slice A (n + m) cap) w := by
  subst hcs
  cases A with
  | none => simp [Builtin.append_, run_underlying Sl.h, run_underlying Sl'.h, run_sz, hm, hroom, hf]
  | some a => simp [Builtin.append_, run_underlying Sl.h, run_underlying Sl'.h, run_sz, hm, hroom, hf, storeCells]
theorem run_app_room {t t' ty e sz n m cap B : Nat} {ag : Bool} {xv : Value} {cs : List Value} {cur : List Value} [Sl : SlI P t e] [Sl' : SlI P t' e] [TyI P e ag sz] (hm : Builtin.lenOf xv = pure m)
    (hf : (Builtin.firstCells sz m xv).run P w = .ok cs.toArray w) (h1 : cs.all Value.oneCell' = true) (hroom : n + m ≤ cap) (hB : w.heap[B]? = some (.cells cur.toArray e (0, 0))) (hfit : n * sz + cs.length ≤ cur.length) :
    (Builtin.append_ #[t, t'] ty #[.slice (some ⟨B, 0, none⟩) n cap, xv]).run P w = .ok (.slice (some ⟨B, 0, none⟩) (n + m) cap) (w.setRow B (cur.take (n * sz) ++ cs ++ cur.drop (n * sz + cs.length)).toArray) := by
  have hst := run_storeCells_at P B (n * sz) e cs 0 cur.toArray w hB (by simpa using hfit) (all_one h1)
  simp only [Nat.add_zero] at hst
  simp [Builtin.append_, run_underlying Sl.h, run_underlying Sl'.h, run_sz, hm, hroom, hf, Addr.add_lit, hst]
theorem run_app_grow {t t' ty e sz n m cap by_ : Nat} {ag : Bool} {xv : Value} {A : Option Addr} {c cs zc : List Value} [Sl : SlI P t e] [Sl' : SlI P t' e] [TyI P e ag sz] [By : ByI P e by_] [Z : ZeI P e zc] (hzc : zc.length = sz) (hsz : 0 < sz)
    (hm : Builtin.lenOf xv = pure m) (hf : (Builtin.firstCells sz m xv).run P w.drew = .ok cs.toArray w.drew) (hb : (Builtin.firstCells sz n (.slice A n cap)).run P w.drew = .ok c.toArray w.drew)
    (hgrow : cap < n + m) (hby : (n + m) * by_ ≤ 140737488355328) (hbig : n + m ≤ 9223372036854775807) :
    ∃ nc rest, n + m ≤ nc ∧ rest.length = (nc - (n + m)) * sz ∧ (Builtin.append_ #[t, t'] ty #[.slice A n cap, xv]).run P w = .ok (.slice (some ⟨w.heap.size, 0, none⟩) (n + m) nc) (w.drew.alloc (.cells (c ++ cs ++ rest).toArray e)) := by
  obtain ⟨z, hz, hzz⟩ := run_zero (P := P) w.drew (T := e)
  have hinfo : ∃ i, P.info? e = some i ∧ i.bytes = by_ := by
    have := By.h
    cases hi : P.info? e with
    | none => simp [hi] at this
    | some i => exact ⟨i, rfl, by simpa [hi] using this⟩
  obtain ⟨i, hi, hib⟩ := hinfo
  refine ⟨grownCap w (n + m) cap e, (Builtin.zeroCells z.cells (grownCap w (n + m) cap e - (n + m))).toList, grownCap_ge w _ _ _, ?_, ?_⟩
  · have := size_zeroCells z.cells (grownCap w (n + m) cap e - (n + m))
    rw [Array.length_toList, this, hzz]
    simp [hzc]
  · have hn : ¬ (n + m ≤ cap) := by omega
    have h63' : ¬ (9223372036854775807 < ((n : Int) + (m : Int))) := by omega
    have hfit : Builtin.nextslicecap (n + m) cap * i.bytes ≤ 281474976710656 := growslice_fits hgrow (by rw [hib]; exact hby)
    have h48' : ¬ (281474976710656 < Builtin.nextslicecap (n + m) cap * i.bytes) := by omega
    have hsz' := run_sz (P := P) w (T := e)
    have hT : (typeInfo e).run P w = .ok i w := by simp [typeInfo, hi]
    have hT' : (typeInfo e).run P w.drew = .ok i w.drew := by simp [typeInfo, hi]
    simp [Builtin.append_, run_underlying Sl.h, run_underlying Sl'.h, hsz', hm, hn, h63', hT, hT', h48', Question.forced, hf, hb, hz, newRow, grownCap]
    congr 2
    apply Array.ext'
    simp [List.append_assoc]
end

theorem blks_cons (e : Ent) (L : List Ent) : blks (e :: L) = e.bs ++ blks L := rfl
/-- an entry stands for another one with the same blocks -/
theorem Own.alter {cx : Cx} {M : Mem} {w : World} {L : List Ent} {e e' : Ent} (ho : Own cx M w (e :: L)) (hb : e'.bs = e.bs) (h : e'.holds w) : Own cx M w (e' :: L) := by
  have hbl : blks (e' :: L) = blks (e :: L) := by rw [blks_cons, blks_cons, hb]
  refine ⟨ho.os, ho.tape, ho.output, ho.dr, ho.size, ho.keep, ho.mem, ho.new, ho.old, by rw [hbl]; exact ho.off, ?_, by rw [hbl]; exact ho.nd, by rw [hbl]; exact ho.brf⟩
  intro x hx
  rcases List.mem_cons.1 hx with rfl | hx
  · exact h
  · exact ho.ent x (List.mem_cons_of_mem _ hx)
/-- one that has no block may come, and go -/
theorem Own.cons0 {cx : Cx} {M : Mem} {w : World} {L : List Ent} {e : Ent} (ho : Own cx M w L) (hb : e.bs = []) (h : e.holds w) : Own cx M w (e :: L) := by
  have hbl : blks (e :: L) = blks L := by rw [blks_cons, hb]; rfl
  refine ⟨ho.os, ho.tape, ho.output, ho.dr, ho.size, ho.keep, ho.mem, ho.new, ho.old, by rw [hbl]; exact ho.off, ?_, by rw [hbl]; exact ho.nd, by rw [hbl]; exact ho.brf⟩
  intro x hx
  rcases List.mem_cons.1 hx with rfl | hx
  · exact h
  · exact ho.ent x hx
theorem Own.tail {cx : Cx} {M : Mem} {w : World} {L : List Ent} {e : Ent} (ho : Own cx M w (e :: L)) : Own cx M w L := Own.drop (L := [e]) ho
theorem row_of {w : World} {B T sz n cap : Nat} {c rest : List Value} (hc : c.length = n * sz) (h0 : 0 < cap) (h1 : n ≤ cap) (h2 : rest.length = (cap - n) * sz) (hB : w.heap[B]? = some (.cells (c ++ rest).toArray T (0, 0))) :
    (Ent.row (.slice (some ⟨B, 0, none⟩) n cap) T sz n c).holds w := ⟨hc, .inr ⟨B, cap, rest, rfl, h0, h1, h2, hB⟩⟩
theorem len_of_row {w : World} {v : Value} {T sz n : Nat} {c : List Value} (h : (Ent.row v T sz n c).holds w) : ∃ A cap, v = .slice A n cap := by
  rcases h.2 with ⟨rfl, A, rfl⟩ | ⟨B, cap, rest, rfl, _⟩
  · exact ⟨A, 0, rfl⟩
  · exact ⟨_, cap, rfl⟩

section
variable {cx : Cx} {Q : Post} {E : Env} {M : Mem} {L : List Ent} {ops : Array Oper} {d T : Nat} {pos : String} {af : Array Edge} {rest : List Oper} {x y z : Operand} {v u : Value}
theorem run_append_op {t t' ty : Nat} {pos : String} {af : Array Edge} {a : Act} {w w' : World} {r bv xv : Value} (hs : Sat cx.ds cx.n E a) (hx : ev E x = some bv) (hy : ev E y = some xv) (h : (Builtin.append_ #[t, t'] ty #[bv, xv]).run cx.P w = .ok r w') :
    (execOp a.eval ⟨some d, .call ⟨.builtin .append, #[x, y], #[t, t']⟩, ty, pos, af, none⟩).run cx.P w = .ok (.value r) w' := by
  simp [execOp, resolve, invoke, builtin, hs.ev hx, hs.ev hy, h]
/-- append to a row that is owned (it stands first) -/
theorem japp {t t' e sz by_ n m : Nat} {ag : Bool} {zc c cs : List Value} {xv : Value} [Sl : SlI cx.P t e] [Sl' : SlI cx.P t' e] [TyI cx.P e ag sz] [ByI cx.P e by_] [Z : ZeI cx.P e zc] (hn : Nat.blt d cx.n = true)
    (hx : ev E x = some v) (hy : ev E y = some xv) (hs : ∀ w, Own cx M w (.row v e sz n c :: L) → Src M (.row v e sz n c :: L) xv sz m cs) (h1 : cs.all Value.oneCell' = true) (hzc : zc.length = sz) (hsz : 0 < sz)
    (hby : (n + m) * by_ ≤ 140737488355328) (hbig : n + m ≤ 9223372036854775807) (hk : ∀ v', J cx ops Q rest ((d, v') :: E) M (.row v' e sz (n + m) (c ++ cs) :: L)) :
    J cx ops Q (⟨some d, .call ⟨.builtin .append, #[x, y], #[t, t']⟩, T, pos, af, none⟩ :: rest) E M (.row v e sz n c :: L) :=
  j_new (M' := M) (fun a w hsat ho => by
    have hrow := ho.at' (i := 0) rfl
    obtain ⟨hcs, X, xcap, rfl, hX0, hX⟩ := hs w ho
    have hf : (Builtin.firstCells sz m (.slice X m xcap)).run cx.P w = .ok cs.toArray w := run_first w hcs rfl hX0 (fun a ha => hX cx w ho a ha)
    have hf' : (Builtin.firstCells sz m (.slice X m xcap)).run cx.P w.drew = .ok cs.toArray w.drew := run_first w.drew hcs rfl hX0 (fun a ha => hX cx w.drew ho.drew a ha)
    have hc := hrow.1
    have hlen : (c ++ cs).length = (n + m) * sz := by rw [List.length_append, hc, hcs, Nat.add_mul]
    rcases hrow.2 with ⟨rfl, A, rfl⟩ | ⟨B, cap, rs, rfl, h0, h2, h3, h4⟩
    · have hc0 : c = [] := by simpa using hc
      by_cases hm : m = 0
      · have hcs0 : cs = [] := by rw [hm] at hcs; simpa using hcs
        refine ⟨.slice A 0 0, w, .row (.slice A 0 0) e sz (0 + m) (c ++ cs) :: L, run_append_op hsat hx hy ?_, ?_, hk _⟩
        · subst hm; exact run_app_stay w rfl hf hcs0 A (Nat.le_refl _) (fun a ha => rfl)
        · refine ho.alter (by cases A <;> rfl) ⟨hlen, .inl ⟨by omega, A, rfl⟩⟩
      · have hb : (Builtin.firstCells sz 0 (.slice A 0 0)).run cx.P w.drew = .ok c.toArray w.drew := run_first w.drew hc rfl (fun _ => hc0) (fun a ha j u hu => by rw [hc0] at hu; cases hu)
        obtain ⟨nc, rs, g1, g2, g3⟩ := run_app_grow (P := cx.P) (t := t) (t' := t') (ty := T) w hzc hsz rfl hf' hb (by omega) hby hbig
        refine ⟨_, _, .row (.slice (some ⟨w.heap.size, 0, none⟩) (0 + m) nc) e sz (0 + m) (c ++ cs) :: L, run_append_op hsat hx hy g3, ?_, hk _⟩
        have h5 := (ho.tail.drew).alloc e (c ++ cs ++ rs)
        refine h5.alter (by simp [Ent.bs]; omega) (row_of hlen (by omega) g1 g2 ?_)
        exact heap_alloc_new _ _
    · by_cases hroom : n + m ≤ cap
      · refine ⟨_, _, .row (.slice (some ⟨B, 0, none⟩) (n + m) cap) e sz (n + m) (c ++ cs) :: L, run_append_op hsat hx hy (run_app_room w rfl hf h1 hroom h4 ?_), ?_, hk _⟩
        · rw [List.length_append, hc, hcs, h3, ← Nat.add_mul, ← Nat.add_mul]; exact Nat.mul_le_mul_right _ (by omega)
        · have ho' : Own cx M w (.blk B e (c ++ rs) :: L) := ho.alter (by simp [Ent.bs, Nat.ne_of_gt h0]) h4
          have e1 : (c ++ rs).take (n * sz) ++ cs ++ (c ++ rs).drop (n * sz + cs.length) = (c ++ cs) ++ rs.drop (m * sz) := by
            rw [← hc, List.take_left, hcs, ← List.drop_drop, List.drop_left]
          have h5 := ho'.set (i := 0) rfl ((c ++ cs) ++ rs.drop (m * sz))
          rw [e1]
          refine Own.alter (e := .blk B e ((c ++ cs) ++ rs.drop (m * sz))) h5 (by simp [Ent.bs, Nat.ne_of_gt h0]) (row_of hlen h0 hroom ?_ (h5.at' (i := 0) rfl))
          rw [List.length_drop, h3, ← Nat.sub_mul, Nat.sub_sub]
      · have hb : (Builtin.firstCells sz n (.slice (some ⟨B, 0, none⟩) n cap)).run cx.P w.drew = .ok c.toArray w.drew := run_first w.drew hc rfl (by intro h; cases h) (fun a ha j u hu => by
          cases ha
          have : w.drew.heap[B]? = some (Obj.cells (c ++ rs).toArray e (0, 0)) := h4
          rw [add_at, cell_of_heap this, Nat.zero_add, List.getElem?_append_left (List.getElem?_eq_some_iff.1 hu).1]; exact hu)
        obtain ⟨nc, rs', g1, g2, g3⟩ := run_app_grow (P := cx.P) (t := t) (t' := t') (ty := T) w hzc hsz rfl hf' hb (by omega) hby hbig
        refine ⟨_, _, .row (.slice (some ⟨w.heap.size, 0, none⟩) (n + m) nc) e sz (n + m) (c ++ cs) :: L, run_append_op hsat hx hy g3, ?_, hk _⟩
        have h5 := (ho.tail.drew).alloc e (c ++ cs ++ rs')
        refine h5.alter (by simp [Ent.bs]; omega) (row_of hlen (by omega) g1 g2 ?_)
        exact heap_alloc_new _ _) hn
/-- append to a slice that is full: a row of its own comes of it -/
theorem japp0 {t t' e sz by_ n m : Nat} {ag : Bool} {zc c cs : List Value} {xv : Value} [Sl : SlI cx.P t e] [Sl' : SlI cx.P t' e] [TyI cx.P e ag sz] [ByI cx.P e by_] [Z : ZeI cx.P e zc] (hn : Nat.blt d cx.n = true) {A : Option Addr}
    (hx : ev E x = some (.slice A n n)) (hy : ev E y = some xv) (hb : ∀ w, Own cx M w L → Src M L (.slice A n n) sz n c) (hs : ∀ w, Own cx M w L → Src M L xv sz m cs) (h1 : cs.all Value.oneCell' = true) (hzc : zc.length = sz) (hsz : 0 < sz) (hm : 0 < m ∨ n = 0)
    (hby : (n + m) * by_ ≤ 140737488355328) (hbig : n + m ≤ 9223372036854775807) (hk : ∀ v', J cx ops Q rest ((d, v') :: E) M (.row v' e sz (n + m) (c ++ cs) :: L)) :
    J cx ops Q (⟨some d, .call ⟨.builtin .append, #[x, y], #[t, t']⟩, T, pos, af, none⟩ :: rest) E M L :=
  j_new (M' := M) (fun a w hsat ho => by
    obtain ⟨hcs, X, xcap, rfl, hX0, hX⟩ := hs w ho
    obtain ⟨hc, A', cap', e0, hA0, hAc⟩ := hb w ho
    cases e0
    have hf : (Builtin.firstCells sz m (.slice X m xcap)).run cx.P w = .ok cs.toArray w := run_first w hcs rfl hX0 (fun a ha => hX cx w ho a ha)
    have hf' : (Builtin.firstCells sz m (.slice X m xcap)).run cx.P w.drew = .ok cs.toArray w.drew := run_first w.drew hcs rfl hX0 (fun a ha => hX cx w.drew ho.drew a ha)
    have hlen : (c ++ cs).length = (n + m) * sz := by rw [List.length_append, hc, hcs, Nat.add_mul]
    by_cases hm0 : m = 0
    · have hn0 : n = 0 := by omega
      subst hn0; subst hm0
      have hcs0 : cs = [] := by simpa using hcs
      have hc0 : c = [] := by simpa using hc
      refine ⟨.slice A 0 0, w, .row (.slice A 0 0) e sz (0 + 0) (c ++ cs) :: L, run_append_op hsat hx hy ?_, ?_, hk _⟩
      · exact run_app_stay w rfl hf hcs0 A (Nat.le_refl _) (fun a ha => rfl)
      · exact ho.cons0 (by cases A <;> rfl) ⟨hlen, .inl ⟨rfl, A, rfl⟩⟩
    · have hbb : (Builtin.firstCells sz n (.slice A n n)).run cx.P w.drew = .ok c.toArray w.drew := run_first w.drew hc rfl hA0 (fun a ha => hAc cx w.drew ho.drew a ha)
      obtain ⟨nc, rs', g1, g2, g3⟩ := run_app_grow (P := cx.P) (t := t) (t' := t') (ty := T) w hzc hsz rfl hf' hbb (by omega) hby hbig
      refine ⟨_, _, .row (.slice (some ⟨w.heap.size, 0, none⟩) (n + m) nc) e sz (n + m) (c ++ cs) :: L, run_append_op hsat hx hy g3, ?_, hk _⟩
      have h5 := ho.drew.alloc e (c ++ cs ++ rs')
      refine h5.alter (by simp [Ent.bs]; omega) (row_of hlen (by omega) g1 g2 ?_)
      exact heap_alloc_new _ _) hn

/-- a row becomes known -/
theorem j_freeze {sz n e : Nat} {c : List Value} (hk : ∀ M', MLe M M' → (∃ A cap, v = .slice A n cap ∧ n ≤ cap ∧ c.length = n * sz ∧ (0 < n → ∃ b o, A = some ⟨b, o, none⟩ ∧ ∀ j u, c[j]? = some u → M' ⟨b, o + j, none⟩ = some u)) → J cx ops Q rest E M' L) :
    J cx ops Q rest E M (.row v e sz n c :: L) := fun a w hs ho => by
  have hrow := ho.at' (i := 0) rfl
  rcases hrow.2 with ⟨rfl, A, rfl⟩ | ⟨B, cap, rs, rfl, h0, h2, h3, h4⟩
  · exact hk M (MLe.refl M) ⟨A, 0, rfl, Nat.le_refl _, hrow.1, fun h => absurd h (Nat.lt_irrefl 0)⟩ a w hs ho.tail
  · let M' : Mem := fun p => if p.block = B ∧ p.spot = none then c[p.off]? else M p
    have hbl : (Ent.row (.slice (some ⟨B, 0, none⟩) n cap) e sz n c).bs = [B] := by simp [Ent.bs, Nat.ne_of_gt h0]
    have hBn : B ∉ blks L := by
      have := ho.nd
      rw [blks_cons, hbl] at this
      exact (List.nodup_cons.1 this).1
    have hBm : B ∈ blks (Ent.row (.slice (some ⟨B, 0, none⟩) n cap) e sz n c :: L) := by rw [blks_cons, hbl]; simp
    have hle : MLe M M' := fun p q hq => by
      have : p.block ≠ B := fun e => ho.off p q hq (e ▸ hBm)
      simp [M', this, hq]
    have hcell : ∀ j u, c[j]? = some u → w.cell? ⟨B, j, none⟩ = some u := fun j u hu => by
      rw [cell_of_heap h4, List.getElem?_append_left (List.getElem?_eq_some_iff.1 hu).1]; exact hu
    have ht := ho.tail
    refine hk M' hle ⟨_, cap, rfl, h2, hrow.1, fun _ => ⟨B, 0, rfl, fun j u hu => by simp [M', hu]⟩⟩ a w hs ⟨ht.os, ht.tape, ht.output, ht.dr, ht.size, ht.keep, ?_, ?_, fun p q hq => hle p q (ho.old p q hq), ?_, ht.ent, ht.nd, ht.brf⟩
    · intro p q hq
      by_cases hp : p.block = B ∧ p.spot = none
      · obtain ⟨b, o, s⟩ := p
        simp only at hp
        obtain ⟨rfl, rfl⟩ := hp
        simp [M'] at hq
        exact hcell o q hq
      · simp only [M', hp, if_false] at hq; exact ho.mem p q hq
    · intro p q hq
      by_cases hp : p.block = B ∧ p.spot = none
      · exact .inr (hp.1 ▸ ho.brf B hBm)
      · simp only [M', hp, if_false] at hq; exact ho.new p q hq
    · intro p q hq
      by_cases hp : p.block = B ∧ p.spot = none
      · rw [hp.1]; exact hBn
      · simp only [M', hp, if_false] at hq; exact ht.off p q hq
end
end Go.Proofs.YtihgpbpcbbgdiaaGreat
