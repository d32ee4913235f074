/- Several texts in one. -/
import Derived.Test.YtihgpbpcbbgdiaaGreatOrd19
import Derived.Laws.StructEq
/- field.Right: two locks compared. -/
namespace Go.Proofs.YtihgpbpcbbgdiaaGreat
open Go.RowKit
set_option linter.unusedVariables false
set_option linter.unusedSimpArgs false
theorem eq_lock (a b : Lock) (d : Nat) (w : World) : (Op.equalIn (d + 2) 46 (.agg (encLock a).toArray) (.agg (encLock b).toArray)).run Tryz.prog w = .ok (decide (a = b)) w := by
  have hu := Tryz.underlying46
  have hf : Tryz.prog.fieldsOf 46 = #[{ name := "Seq", type := 3, offset := 0, embedded := false, tag := "", pkgPath := "", byteOffset := 0 }, { name := "Ver", type := 3, offset := 1, embedded := false, tag := "", pkgPath := "", byteOffset := 8 }, { name := "Holder", type := 3, offset := 2, embedded := false, tag := "", pkgPath := "", byteOffset := 16 }, { name := "Value", type := 3, offset := 3, embedded := false, tag := "", pkgPath := "", byteOffset := 24 }] := by
    unfold Go.Program.fieldsOf; rw [hu]
  rw [run_equalIn_agg w (d + 1) 46 _ _ (by rw [hf]; exact hu) Tryz.stoodInHeld46, hf]
  obtain ⟨a1, a2, a3, a4⟩ := a
  obtain ⟨b1, b2, b3, b4⟩ := b
  by_cases h1 : a1 = b1 <;> by_cases h2 : a2 = b2 <;> by_cases h3 : a3 = b3 <;> by_cases h4 : a4 = b4 <;> simp [Op.eqFields, part, Sem.run_bind, run_isAgg, encLock, eq_int Tryz.underlying3, h1, h2, h3, h4]
section
variable {cx : Cx} {Q : Post} {E : Env} {M : Mem} {L : List Ent} {ops : Array Oper} {d T : Nat} {pos : String} {af : Array Edge} {rest : List Oper} {x y z : Operand} {v u : Value}
theorem yeql_lock {t' : Nat} {a b : Lock} (hP : cx.P = Tryz.prog) (hx : ev E x = some (.agg (encLock a).toArray)) (hy : ev E y = some (.agg (encLock b).toArray)) : Y cx ⟨some d, .binOp .eql 46 x y t', T, pos, af, none⟩ E M L (.bool (decide (a = b))) := fun a' w hs ho => by
  have h1 : (eqGuard .eql 46 x y (.agg (encLock a).toArray) (.agg (encLock b).toArray)).run cx.P w = .ok () w := by rw [hP]; exact run_eqGuard_agg w .eql _ x y _ _ Tryz.eqGuardType46
  have h2 : (binOp .eql 46 (.agg (encLock a).toArray) (.agg (encLock b).toArray)).run cx.P w = .ok (.bool (decide (a = b))) w := by rw [hP, run_eql_struct]; rw [show (10000 : Nat) = 9998 + 2 from rfl, eq_lock]; rfl
  simp only [execOp, hs.ev hx, hs.ev hy, Sem.run_bind, h1, h2, Result.andThen_ok, Sem.run_pure]
theorem jeql_lock {t' : Nat} {a b : Lock} (hn : Nat.blt d cx.n = true) (hP : cx.P = Tryz.prog) (hx : ev E x = some (.agg (encLock a).toArray)) (hy : ev E y = some (.agg (encLock b).toArray)) (hk : J cx ops Q rest ((d, .bool (decide (a = b))) :: E) M L) : J cx ops Q (⟨some d, .binOp .eql 46 x y t', T, pos, af, none⟩ :: rest) E M L := j_y hn (yeql_lock hP hx hy) hk
end
def fRight1 (f : Field) : Bool := nameOk f.name && decide (0 ≤ f.epoch) && isN f.epoch && (cRight f.counter && hRights f.holds && decide (f.lock = lZ))
attribute [local irreducible] nameOk hRights

theorem field_Right1 (f : Field) (A : Option Addr) (cap : Nat) (hl : f.holds.length ≤ 10000) (hs : f.name.size ≤ 100000) (hk : f.kind = 1) (M : Mem) (hS : SlR rHold M A cap f.holds) : Ctr Tryz.prog 64 [.agg (encF f A cap).toArray] M [] (fun v _ _ => v = .bool (fRight1 f)) := by
  refine ctr Tryz.func64 rfl Tryz.ntmps64 rfl fun w => ?_
  refine c_seq <| c_region <| jbox rfl rfl rfl fun B1 => ja rfl rfl <| j_nil <| p_thn <| c_seq <| c_seq <| c_region <| jfa rfl rfl rfl <| jld1 0 rfl rfl rfl rfl <| jcallv rfl rfl rfl (field_Name _ hs _) <| jnot rfl rfl <| jm rfl rfl <| jgs rfl rfl (fun hb2 => ?_) (fun hb2 => ?_)
  · have phb2 := hb2; try simp at phb2
    refine jg_off rfl rfl rfl hb2 <| jg_off rfl rfl rfl hb2 <| jg_off rfl rfl rfl hb2 <| jpick_t rfl rfl hb2 rfl <| jm rfl rfl <| jg_off rfl rfl rfl rfl <| jg_off rfl rfl rfl rfl <| jg_off rfl rfl rfl rfl <| jg_off rfl rfl rfl rfl <| jpick_t rfl rfl rfl rfl <| j_nil <| p_thn <| c_cond_kt rfl rfl <| c_seq <| c_region <| ja rfl rfl <| j_nil <| p_thn <| c_ret <| p_thn_ret <| ?_
    refine p_ret0 rfl rfl (.tmp rfl <| .nil) ?_
    show Value.bool _ = _
    congr 1; symm
    simp [fRight1, *]
  · have phb2 := hb2; try simp at phb2
    refine jg rfl rfl hb2 <| jfa rfl rfl rfl <| jg rfl rfl hb2 <| jld1 0 rfl rfl rfl rfl <| jg rfl rfl hb2 <| jlss rfl rfl rfl <| jpick_f rfl rfl hb2 rfl <| jm rfl rfl <| jgs rfl rfl (fun hb3 => ?_) (fun hb3 => ?_)
    · have phb3 := hb3; try simp at phb3
      refine jg_off rfl rfl rfl hb3 <| jg_off rfl rfl rfl hb3 <| jg_off rfl rfl rfl hb3 <| jg_off rfl rfl rfl hb3 <| jpick_t rfl rfl hb3 rfl <| j_nil <| p_thn <| c_cond_kt rfl rfl <| c_seq <| c_region <| ja rfl rfl <| j_nil <| p_thn <| c_ret <| p_thn_ret <| ?_
      refine p_ret0 rfl rfl (.tmp rfl <| .nil) ?_
      show Value.bool _ = _
      congr 1; symm
      simp [fRight1, show ¬ 0 ≤ f.epoch by omega]
    · have phb3 := hb3; try simp at phb3
      refine jg rfl rfl hb3 <| jfa rfl rfl rfl <| jg rfl rfl hb3 <| jld1 0 rfl rfl rfl rfl <| jg rfl rfl hb3 <| jcallv rfl rfl rfl (num_Is _ _) <| jg rfl rfl hb3 <| jnot rfl rfl <| jpick_f rfl rfl hb3 rfl <| j_nil <| p_thn <| c_cond rfl (fun hb4 => ?_) (fun hb4 => ?_)
      · have phb4 := hb4; try simp at phb4
        refine c_seq <| c_region <| ja rfl rfl <| j_nil <| p_thn <| c_ret <| p_thn_ret <| ?_
        refine p_ret0 rfl rfl (.tmp rfl <| .nil) ?_
        show Value.bool _ = _
        congr 1; symm
        simp [fRight1, *]
      · have phb4 := hb4; try simp at phb4
        refine c_skip <| p_thn <| c_seq <| c_seq <| c_region <| jfa rfl rfl rfl <| jld1 0 rfl rfl rfl rfl <| j_nil <| p_thn <| c_block <| c_seq <| c_region <| jeql rfl rfl rfl <| ja rfl rfl <| j_nil <| p_thn <| c_cond rfl (fun hb5 => ?_) (fun hb5 => ?_)
        · have phb5 := hb5; try simp at phb5
          refine c_seq <| c_region <| jfa rfl rfl rfl <| jld 0 rfl rfl rfl (pF_counter _ _ _) (len_counter _) <| jcallv rfl rfl rfl (counter_Right _ _) <| jm rfl rfl <| jgs rfl rfl (fun hb6 => ?_) (fun hb6 => ?_)
          · have phb6 := hb6; try simp at phb6
            refine jg rfl rfl hb6 <| jfa rfl rfl rfl <| jg rfl rfl hb6 <| jld1 0 rfl rfl rfl (pF_holds _ _ _) <| jg rfl rfl hb6 <| jcallv rfl rfl rfl (hold_Rights _ _ _ (by omega) _ hS) <| jpick_t rfl rfl hb6 rfl <| jm rfl rfl <| jgs rfl rfl (fun hb7 => ?_) (fun hb7 => ?_)
            · have phb7 := hb7; try simp at phb7
              refine jg rfl rfl hb7 <| jfa rfl rfl rfl <| jg rfl rfl hb7 <| jld 0 rfl rfl rfl (pF_lock _ _ _) (len_lock _) <| jg rfl rfl hb7 <| jbu0 rfl <| jg rfl rfl hb7 <| jeql_lock (b := lZ) rfl rfl rfl rfl <| jpick_t rfl rfl hb7 rfl <| ja rfl rfl <| j_nil <| p_thn <| c_ret <| p_inb_ret <| p_thn_ret <| ?_
              refine p_ret0 rfl rfl (.tmp rfl <| .nil) ?_
              show Value.bool _ = _
              congr 1; symm
              simp [fRight1, *]
            · have phb7 := hb7; try simp at phb7
              refine jg_off rfl rfl rfl hb7 <| jg_off rfl rfl rfl hb7 <| jg_off rfl rfl rfl hb7 <| jg_off rfl rfl rfl hb7 <| jpick_f rfl rfl hb7 rfl <| ja rfl rfl <| j_nil <| p_thn <| c_ret <| p_inb_ret <| p_thn_ret <| ?_
              refine p_ret0 rfl rfl (.tmp rfl <| .nil) ?_
              show Value.bool _ = _
              congr 1; symm
              simp [fRight1, *]
          · have phb6 := hb6; try simp at phb6
            refine jg_off rfl rfl rfl hb6 <| jg_off rfl rfl rfl hb6 <| jg_off rfl rfl rfl hb6 <| jpick_f rfl rfl hb6 rfl <| jm rfl rfl <| jg_off rfl rfl rfl rfl <| jg_off rfl rfl rfl rfl <| jg_off rfl rfl rfl rfl <| jg_off rfl rfl rfl rfl <| jpick_f rfl rfl rfl rfl <| ja rfl rfl <| j_nil <| p_thn <| c_ret <| p_inb_ret <| p_thn_ret <| ?_
            refine p_ret0 rfl rfl (.tmp rfl <| .nil) ?_
            show Value.bool _ = _
            congr 1; symm
            simp [fRight1, *]
        · have phb5 := hb5; try simp at phb5
          exact absurd hk phb5
end Go.Proofs.YtihgpbpcbbgdiaaGreat
