/- Where elements lie in what holds vectors and matrices; what is put there. -/
import Derived.Test.YtihgpbpcbbgdiaaGreatCore11
import Derived.Test.YtihgpbpcbbgdiaaGreatVec
namespace Go.Proofs.YtihgpbpcbbgdiaaGreat
open Go.RowKit
set_option linter.unusedVariables false
set_option linter.unusedSimpArgs false
theorem flat_part {i : Nat} : ∀ (l : List Vec) {i : Nat} {v : Vec}, l[i]? = some v → ((l.flatMap encVec).drop (i * 16)).take 16 = encVec v
  | [], _, _, h => by cases h
  | a :: l, 0, v, h => by cases h; rw [Nat.zero_mul]; exact take_app (len_vec _)
  | a :: l, i + 1, v, h => by
    rw [List.flatMap_cons, show (i + 1) * 16 = 16 + i * 16 by omega, drop_drop_app (len_vec _)]
    exact flat_part (i := i) l h
theorem flat_put : ∀ (l : List Vec) {i : Nat} {v : Vec}, i < l.length → (l.flatMap encVec).take (i * 16) ++ encVec v ++ (l.flatMap encVec).drop (i * 16 + 16) = (l.set i v).flatMap encVec
  | [], _, _, h => by cases h
  | a :: l, 0, v, h => by
    rw [Nat.zero_mul, List.flatMap_cons, Nat.zero_add, drop_app (len_vec _)]; rfl
  | a :: l, i + 1, v, h => by
    rw [List.flatMap_cons, show (i + 1) * 16 = 16 + i * 16 by omega, Nat.add_assoc, drop_drop_app (len_vec _), List.take_append, len_vec, List.take_of_length_le (by rw [len_vec]; omega), Nat.add_sub_cancel_left]
    rw [List.set_cons_succ, List.flatMap_cons, ← flat_put l (i := i) (v := v) (by simpa using h), List.append_assoc, List.append_assoc, List.append_assoc]
theorem mAt_get {m : Vector Vec 16} {i : Int} (h1 : i.toNat < 16) : m.toList[i.toNat]? = some (mAt m i) := by
  unfold mAt
  rw [List.getD, Vector.getElem?_toList, Vector.getElem?_eq_getElem h1]; rfl
theorem gM {m : Vector Vec 16} {i : Int} (h0 : 0 ≤ i) (h1 : i < 16) : ((encMoved m).drop (i.toNat * 16)).take 16 = encVec (mAt m i) :=
  flat_part (i := 0) _ (mAt_get (by omega))
theorem gM0 {m : Vector Vec 16} {i : Int} (h0 : 0 ≤ i) (h1 : i < 16) : ((encMoved m).drop (0 + i.toNat * 16)).take 16 = encVec (mAt m i) := by rw [Nat.zero_add]; exact gM h0 h1
section
variable {r : Rights} {c : Counter} {v : Vec} {i : Int} (h0 : 0 ≤ i) (h1 : i < 16)
include h0 h1
theorem gR_given : (encRights r)[0 + i.toNat * 1]? = some (vi (vAt r.given i)) := by
  unfold encRights
  rw [List.getElem?_append_left (by rw [len_vec]; omega)]; exact gV h0 h1
theorem gR_used : (encRights r)[16 + i.toNat * 1]? = some (vi (vAt r.used i)) := by
  unfold encRights
  rw [get_app (len_vec _), List.getElem?_append_left (by rw [len_vec]; omega), ← Nat.zero_add (i.toNat * 1)]; exact gV h0 h1
theorem gR_row : ((encRights r).drop (32 + i.toNat * 16)).take 16 = encVec (mAt r.moved i) := by
  unfold encRights
  rw [show 32 + i.toNat * 16 = 16 + (16 + i.toNat * 16) by omega, drop_drop_app (len_vec _), drop_drop_app (len_vec _)]
  exact gM h0 h1
omit h0 in
theorem uR_row : (encRights r).take (32 + i.toNat * 16) ++ encVec v ++ (encRights r).drop (32 + i.toNat * 16 + 16) = encRights { r with moved := mSet r.moved i v } := by
  unfold encRights
  rw [show 32 + i.toNat * 16 = 16 + (16 + i.toNat * 16) by omega, Nat.add_assoc, drop_drop_app (len_vec _), Nat.add_assoc, drop_drop_app (len_vec _)]
  rw [List.take_append, len_vec, List.take_of_length_le (by rw [len_vec]; omega), Nat.add_sub_cancel_left]
  rw [List.take_append, len_vec, List.take_of_length_le (by rw [len_vec]; omega), Nat.add_sub_cancel_left]
  have h := flat_put r.moved.toList (i := i.toNat) (v := v) (by simp; omega)
  simp only [List.append_assoc]
  unfold encMoved mSet
  rw [← List.append_assoc _ (encVec v), h, Vector.toList_setIfInBounds]
omit h0 h1
theorem uR_given : (encRights r).take 0 ++ encVec v ++ (encRights r).drop (0 + 16) = encRights { r with given := v } := by
  unfold encRights; rw [Nat.zero_add, drop_app (len_vec _)]; rfl
theorem uR_used : (encRights r).take 16 ++ encVec v ++ (encRights r).drop (16 + 16) = encRights { r with used := v } := by
  unfold encRights; rw [take_app (len_vec _), drop_drop_app (len_vec _), drop_app (len_vec _), List.append_assoc]
theorem uC_down {d : Rights} : (encCounter c).take 3 ++ encRights d ++ (encCounter c).drop (3 + 288) = encCounter { c with down := d } := by
  unfold encCounter
  simp only [List.drop_succ_cons, List.take_succ_cons, List.take_zero, List.cons_append, List.nil_append]
  rw [drop_app (len_rights _)]
theorem uC_up {d : Rights} : (encCounter c).take 291 ++ encRights d ++ (encCounter c).drop (291 + 288) = encCounter { c with up := d } := by
  unfold encCounter
  simp only [List.drop_succ_cons, List.take_succ_cons, List.take_zero, List.cons_append, List.nil_append]
  rw [take_app (len_rights _), show 288 + 288 = 288 + 288 from rfl, drop_drop_app (len_rights _), List.drop_of_length_le (by rw [len_rights]; omega), List.append_nil]
end
theorem put_nest {c x P : List Value} {o sz j k : Nat} (hP : (c.drop o).take sz = P) (h2 : j + k ≤ sz) (h3 : o + sz ≤ c.length) :
    c.take (o + j) ++ x ++ c.drop (o + j + k) = c.take o ++ (P.take j ++ x ++ P.drop (j + k)) ++ c.drop (o + sz) := by
  subst hP
  have e1 : c.take (o + j) = c.take o ++ ((c.drop o).take sz).take j := by
    rw [List.take_take, Nat.min_eq_left (by omega), List.take_add]
  have e2 : c.drop (o + j + k) = ((c.drop o).take sz).drop (j + k) ++ c.drop (o + sz) := by
    rw [Nat.add_assoc, ← List.drop_drop, ← List.drop_drop (i := sz), ]
    generalize hd : c.drop o = d
    have hl : sz ≤ d.length := by rw [← hd, List.length_drop]; omega
    rw [← List.take_append_drop sz d, List.drop_append_of_le_length (by rw [List.length_take]; omega), List.take_append_drop]
  rw [e1, e2]; simp only [List.append_assoc]
theorem get_nest {c P : List Value} {o sz j : Nat} {v : Value} (hP : (c.drop o).take sz = P) (h : P[j]? = some v) : c[o + j]? = some v := by
  subst hP
  rw [List.getElem?_take] at h
  split at h
  · simpa using h
  · cases h
theorem uR_given1 {r : Rights} {i n : Int} (h0 : 0 ≤ i) (h1 : i < 16) : (encRights r).take (0 + i.toNat * 1) ++ [vi n] ++ (encRights r).drop (0 + i.toNat * 1 + 1) = encRights { r with given := vSet r.given i n } := by
  have e := uV (v := r.given) (x := n) h0 h1
  simp only [Nat.zero_add] at e
  rw [put_nest (pR_given r) (by omega) (by rw [len_rights]; omega), e]
  exact uR_given
theorem uC_dgiven1 {c : Counter} {i n : Int} (h0 : 0 ≤ i) (h1 : i < 16) : (encCounter c).take (3 + i.toNat * 1) ++ [vi n] ++ (encCounter c).drop (3 + i.toNat * 1 + 1) = encCounter { c with down := { c.down with given := vSet c.down.given i n } } := by
  have e := uR_given1 (r := c.down) (n := n) h0 h1
  simp only [Nat.zero_add] at e
  rw [put_nest (pC_down c) (by omega) (by rw [len_counter]; omega), e]
  exact uC_down
theorem uC_ugiven1 {c : Counter} {i n : Int} (h0 : 0 ≤ i) (h1 : i < 16) : (encCounter c).take (291 + i.toNat * 1) ++ [vi n] ++ (encCounter c).drop (291 + i.toNat * 1 + 1) = encCounter { c with up := { c.up with given := vSet c.up.given i n } } := by
  have e := uR_given1 (r := c.up) (n := n) h0 h1
  simp only [Nat.zero_add] at e
  rw [put_nest (pC_up c) (by omega) (by rw [len_counter]; omega), e]
  exact uC_up
end Go.Proofs.YtihgpbpcbbgdiaaGreat
