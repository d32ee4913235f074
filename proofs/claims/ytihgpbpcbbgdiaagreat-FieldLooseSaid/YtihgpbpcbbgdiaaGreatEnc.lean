/- The program's data as Lean's, and how they lie in cells. -/
import Derived.Test.YtihgpbpcbbgdiaaGreatCore6
namespace Go.Proofs.YtihgpbpcbbgdiaaGreat
open Go.RowKit
set_option linter.unusedVariables false
set_option linter.unusedSimpArgs false

abbrev Vec := Vector Int 16
structure Rights where
  given : Vec
  used : Vec
  moved : Vector Vec 16
deriving DecidableEq
structure Counter where
  init : Int
  low : Int
  high : Int
  down : Rights
  up : Rights
deriving DecidableEq
structure Lock where
  seq : Int
  ver : Int
  holder : Int
  value : Int
deriving DecidableEq
structure Hold where
  replica : Int
  number : Int
  amount : Int
  due : Int
  state : Int
deriving DecidableEq
structure Plan where
  kind : Int
  name : ByteArray
  other : ByteArray
  a : Int
  b : Int
deriving DecidableEq
structure Field where
  name : ByteArray
  kind : Int
  epoch : Int
  counter : Counter
  lock : Lock
  holds : List Hold
deriving DecidableEq

abbrev vi (n : Int) : Value := .int .i64 n
def encVec (v : Vec) : List Value := v.toList.map vi
def encMoved (m : Vector Vec 16) : List Value := m.toList.flatMap encVec
def encRights (r : Rights) : List Value := encVec r.given ++ (encVec r.used ++ encMoved r.moved)
def encCounter (c : Counter) : List Value := vi c.init :: vi c.low :: vi c.high :: (encRights c.down ++ encRights c.up)
def encLock (l : Lock) : List Value := [vi l.seq, vi l.ver, vi l.holder, vi l.value]
def encHold (h : Hold) : List Value := [vi h.replica, vi h.number, vi h.amount, vi h.due, vi h.state]
def encPlan (p : Plan) : List Value := [vi p.kind, .string p.name, .string p.other, vi p.a, vi p.b]
def encF (f : Field) (A : Option Addr) (cap : Nat) : List Value := .string f.name :: vi f.kind :: vi f.epoch :: (encCounter f.counter ++ (encLock f.lock ++ [.slice A f.holds.length cap]))

theorem len_vec (v : Vec) : (encVec v).length = 16 := by simp [encVec]
theorem len_flat (l : List Vec) : (l.flatMap encVec).length = l.length * 16 := by
  induction l with
  | nil => rfl
  | cons a l ih => simp only [List.flatMap_cons, List.length_append, len_vec, ih, List.length_cons]; omega
theorem len_moved (m : Vector Vec 16) : (encMoved m).length = 256 := by
  unfold encMoved
  rw [len_flat, Vector.length_toList]
theorem len_rights (r : Rights) : (encRights r).length = 288 := by simp [encRights, len_vec, len_moved]
theorem len_counter (c : Counter) : (encCounter c).length = 579 := by simp [encCounter, len_rights]
theorem len_lock (l : Lock) : (encLock l).length = 4 := rfl
theorem len_hold (l : Hold) : (encHold l).length = 5 := rfl
theorem len_plan (l : Plan) : (encPlan l).length = 5 := rfl
theorem len_F (f : Field) (A : Option Addr) (cap : Nat) : (encF f A cap).length = 587 := by simp [encF, len_counter, encLock]
theorem one_vec (v : Vec) : (encVec v).all Value.oneCell' = true := by simp [encVec, Value.oneCell']
theorem one_moved (m : Vector Vec 16) : (encMoved m).all Value.oneCell' = true := by
  rw [List.all_eq_true]; intro x hx
  obtain ⟨v, _, hv⟩ := List.mem_flatMap.1 hx
  exact List.all_eq_true.1 (one_vec v) x hv
theorem one_rights (r : Rights) : (encRights r).all Value.oneCell' = true := by simp [encRights, one_vec, one_moved, List.all_append, -List.all_eq_true]
theorem one_counter (c : Counter) : (encCounter c).all Value.oneCell' = true := by simp [encCounter, one_rights, List.all_append, List.all_cons, Value.oneCell', -List.all_eq_true]
theorem one_lock (l : Lock) : (encLock l).all Value.oneCell' = true := rfl
theorem one_hold (l : Hold) : (encHold l).all Value.oneCell' = true := rfl
theorem one_plan (l : Plan) : (encPlan l).all Value.oneCell' = true := rfl
theorem one_F (f : Field) (A : Option Addr) (cap : Nat) : (encF f A cap).all Value.oneCell' = true := by
  simp [encF, one_counter, one_lock, List.all_append, List.all_cons, Value.oneCell', -List.all_eq_true]

/-! parts -/
theorem take_app {a b : List Value} {n : Nat} (h : a.length = n) : (a ++ b).take n = a := by rw [← h, List.take_left]
theorem drop_app {a b : List Value} {n : Nat} (h : a.length = n) : (a ++ b).drop n = b := by rw [← h, List.drop_left]
theorem drop_drop_app {a b : List Value} {n m : Nat} (h : a.length = n) : (a ++ b).drop (n + m) = b.drop m := by rw [← List.drop_drop, drop_app h]
theorem get_app {a b : List Value} {n m : Nat} (h : a.length = n) : (a ++ b)[n + m]? = b[m]? := by rw [List.getElem?_append_right (by omega)]; congr 1; omega
section
variable (v : Vec) (r : Rights) (c : Counter) (f : Field) (A : Option Addr) (cap : Nat)
theorem pR_given : ((encRights r).drop 0).take 16 = encVec r.given := take_app (len_vec _)
theorem pR_used : ((encRights r).drop 16).take 16 = encVec r.used := by
  unfold encRights; rw [drop_app (len_vec _), take_app (len_vec _)]
theorem pR_moved : ((encRights r).drop 32).take 256 = encMoved r.moved := by
  unfold encRights
  rw [show 32 = 16 + 16 from rfl, drop_drop_app (len_vec _), drop_app (len_vec _), ← len_moved r.moved, List.take_length]
theorem pC_down : ((encCounter c).drop 3).take 288 = encRights c.down := take_app (len_rights _)
theorem pC_up : ((encCounter c).drop 291).take 288 = encRights c.up := by
  unfold encCounter
  simp only [List.drop_succ_cons]
  rw [drop_app (len_rights _), ← len_rights c.up, List.take_length]
theorem pC_dgiven : ((encCounter c).drop 3).take 16 = encVec c.down.given := by
  unfold encCounter encRights; simp only [List.drop_succ_cons, List.drop_zero, List.append_assoc]; exact take_app (len_vec _)
theorem pC_dused : ((encCounter c).drop 19).take 16 = encVec c.down.used := by
  unfold encCounter encRights; simp only [List.drop_succ_cons, List.append_assoc]; rw [drop_app (len_vec _), take_app (len_vec _)]
theorem pC_uused : ((encCounter c).drop 307).take 16 = encVec c.up.used := by
  unfold encCounter
  simp only [List.drop_succ_cons]
  rw [show 304 = 288 + 16 from rfl, drop_drop_app (len_rights _)]
  unfold encRights
  rw [drop_app (len_vec _), take_app (len_vec _)]
theorem pC_ugiven : ((encCounter c).drop 291).take 16 = encVec c.up.given := by
  unfold encCounter
  simp only [List.drop_succ_cons]
  rw [drop_app (len_rights _)]
  exact take_app (len_vec _)
theorem pF_counter : ((encF f A cap).drop 3).take 579 = encCounter f.counter := take_app (len_counter _)
theorem pF_lock : ((encF f A cap).drop 582).take 4 = encLock f.lock := by
  unfold encF; simp only [List.drop_succ_cons]; rw [drop_app (len_counter _), take_app (len_lock _)]
theorem gF (k : Nat) : (encF f A cap)[582 + k]? = (encLock f.lock ++ [.slice A f.holds.length cap])[k]? := by
  unfold encF
  rw [show 582 + k = (579 + k) + 1 + 1 + 1 by omega]
  simp only [List.getElem?_cons_succ]
  exact get_app (len_counter _)
theorem pF_holds : (encF f A cap)[586]? = some (.slice A f.holds.length cap) := gF f A cap 4
theorem pF_value : (encF f A cap)[585]? = some (vi f.lock.value) := gF f A cap 3
theorem pF_low : (encF f A cap)[4]? = some (vi f.counter.low) := rfl
theorem pF_high : (encF f A cap)[5]? = some (vi f.counter.high) := rfl
/-! parts put -/
theorem uF_kind (n : Int) : (encF f A cap).take 1 ++ [vi n] ++ (encF f A cap).drop (1 + 1) = encF { f with kind := n } A cap := rfl
theorem uF_epoch (n : Int) : (encF f A cap).take 2 ++ [vi n] ++ (encF f A cap).drop (2 + 1) = encF { f with epoch := n } A cap := rfl
theorem uF_counter (d : Counter) : (encF f A cap).take 3 ++ encCounter d ++ (encF f A cap).drop (3 + 579) = encF { f with counter := d } A cap := by
  unfold encF
  simp only [List.drop_succ_cons, List.take_succ_cons, List.take_zero, List.cons_append, List.nil_append]
  rw [drop_app (len_counter _)]
theorem uF_lock (d : Lock) : (encF f A cap).take 582 ++ encLock d ++ (encF f A cap).drop (582 + 4) = encF { f with lock := d } A cap := by
  unfold encF
  simp only [List.drop_succ_cons, List.take_succ_cons, List.cons_append, List.append_assoc]
  rw [take_app (len_counter _), show 579 + 4 = 579 + 4 from rfl, drop_drop_app (len_counter _), drop_app (len_lock _)]
theorem uF_holds (hs : List Hold) (B : Option Addr) (k : Nat) : (encF f A cap).take 586 ++ [.slice B hs.length k] ++ (encF f A cap).drop (586 + 1) = encF { f with holds := hs } B k := by
  unfold encF
  simp only [List.drop_succ_cons, List.take_succ_cons, List.cons_append, List.append_assoc]
  rw [show (583 : Nat) = 579 + 4 from rfl, List.take_append, len_counter, List.take_of_length_le (by rw [len_counter]; omega)]
  rw [show (579 + 4 - 579 : Nat) = 4 from rfl, take_app (len_lock _), show 584 = 579 + 5 from rfl, drop_drop_app (len_counter _)]
  rw [show (5 : Nat) = 4 + 1 from rfl, drop_drop_app (len_lock _)]
  simp
end
def rVec : Rep Vec := Rep.enc 16 encVec len_vec one_vec
def rHold : Rep Hold := Rep.enc 5 encHold len_hold one_hold
def rPlan : Rep Plan := Rep.enc 5 encPlan len_plan one_plan
def rField : Rep Field where
  sz := 587
  R := fun M f c => ∃ A cap, c = encF f A cap ∧ SlR rHold M A cap f.holds
  len := fun ⟨A, cap, h, _⟩ => h ▸ len_F _ _ _
  mono := fun hm ⟨A, cap, h, hr⟩ => ⟨A, cap, h, hr.mono hm⟩
  one := fun ⟨A, cap, h, _⟩ => h ▸ one_F _ _ _
end Go.Proofs.YtihgpbpcbbgdiaaGreat
