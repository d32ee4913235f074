/-
  No cell of these rows narrows 'for every input' (looked for: loops, veiled, ifaces, maps, wideKeys, modest, calm, conditions, laid).
  DERIVED. THE GIVEN ROWS OF THIS SEAT. 5 by the template 'for every input the law returns true; each argument reads behind the call as it read before'; 0 by the template 'total and deterministic' (their statements: YtihgpbpcbbgdiaaGreatTotals.lean).
  GIVEN WITH THE SEED: the statements are not yours to turn. If you find one false, say at which input.
  Laid BY PROGRAM, IN A SANDBOX (cutbox-rows.mjs): the forced cells as the released guide's own fill.sh prints them over the translation 095703e56b0c1f9d… (all of the seat's roots in one cut). By AI agents, Wed Nov 11 2026. No macro, syntax, notation, axiom, sorry.
-/
import Derived.Test.YtihgpbpcbbgdiaaGreatChecked
import GoSem.Claim
import GoSem.ClaimJoined
import GoSem.ClaimMapViews
import Derived.JoinedTies
import Derived.KernelRfl
namespace Go.Proofs.YtihgpbpcbbgdiaaGreat
/- THE CELL 'sum', in the pinned program and in every row, IS THE sha256 OF THE DUMP (.gsa) THAT YtihgpbpcbbgdiaaGreatProg.lean LOADS. Nothing in Lean hashes anything: it is a label: what it is worth is what the hold of that sum in a sandbox is worth. -/
noncomputable def Tryz.pinned : Pinned := { name := "ytihgpbpcbbgdiaagreat", sum := "095703e56b0c1f9df32accd313728c9cb42ab6f39fe5cb35ae6e1be62aaa4db5", checked := Tryz.checked }
namespace Rows
def none {H : Type} : Left H := { results := [], args := [] }

/-- 'usufructlaw16.BarrierMakes': WHATEVER THE INPUT: true; the input reads as it did. -/
def barrierMakesSpec : ChangeSpec := { name := "barrierMakes", fn := fun _ => fun
  | [d1, d2, d3] => { results := [.lit (.bool true)], args := [d1, d2, d3] }
  | _ => none }
def barrierMakesRow : OpenClaim := { program := "ytihgpbpcbbgdiaagreat", sum := "095703e56b0c1f9df32accd313728c9cb42ab6f39fe5cb35ae6e1be62aaa4db5", func := "usufruct/usufructlaw16.BarrierMakes", spec := "barrierMakes", unfollowed := true, recurses := true, plainKeys := false, apart := false }
def BarrierMakesSaid : Prop := barrierMakesRow.holds Tryz.pinned (OpenSpec.ofChange barrierMakesSpec)

/-- ITS FALSE NEIGHBOUR: 'it returns false'. Refute it at one input. -/
def barrierMakesWrong : ChangeSpec := { name := "barrierMakes", fn := fun _ => fun
  | [d1, d2, d3] => { results := [.lit (.bool false)], args := [d1, d2, d3] }
  | _ => none }
def BarrierMakesWrongFalsely : Prop := barrierMakesRow.holds Tryz.pinned (OpenSpec.ofChange barrierMakesWrong)

/-- 'usufructlaw16.BarrierOrder': WHATEVER THE INPUT: true; the input reads as it did. -/
def barrierOrderSpec : ChangeSpec := { name := "barrierOrder", fn := fun _ => fun
  | [d1, d2, d3] => { results := [.lit (.bool true)], args := [d1, d2, d3] }
  | _ => none }
def barrierOrderRow : OpenClaim := { program := "ytihgpbpcbbgdiaagreat", sum := "095703e56b0c1f9df32accd313728c9cb42ab6f39fe5cb35ae6e1be62aaa4db5", func := "usufruct/usufructlaw16.BarrierOrder", spec := "barrierOrder", unfollowed := true, recurses := true, plainKeys := false, apart := false }
def BarrierOrderSaid : Prop := barrierOrderRow.holds Tryz.pinned (OpenSpec.ofChange barrierOrderSpec)

/-- ITS FALSE NEIGHBOUR: 'it returns false'. Refute it at one input. -/
def barrierOrderWrong : ChangeSpec := { name := "barrierOrder", fn := fun _ => fun
  | [d1, d2, d3] => { results := [.lit (.bool false)], args := [d1, d2, d3] }
  | _ => none }
def BarrierOrderWrongFalsely : Prop := barrierOrderRow.holds Tryz.pinned (OpenSpec.ofChange barrierOrderWrong)

/-- 'usufructlaw16.BarrierDecides': WHATEVER THE INPUT: true; the input reads as it did. -/
def barrierDecidesSpec : ChangeSpec := { name := "barrierDecides", fn := fun _ => fun
  | [d1, d2] => { results := [.lit (.bool true)], args := [d1, d2] }
  | _ => none }
def barrierDecidesRow : OpenClaim := { program := "ytihgpbpcbbgdiaagreat", sum := "095703e56b0c1f9df32accd313728c9cb42ab6f39fe5cb35ae6e1be62aaa4db5", func := "usufruct/usufructlaw16.BarrierDecides", spec := "barrierDecides", unfollowed := true, recurses := true, plainKeys := false, apart := false }
def BarrierDecidesSaid : Prop := barrierDecidesRow.holds Tryz.pinned (OpenSpec.ofChange barrierDecidesSpec)

/-- ITS FALSE NEIGHBOUR: 'it returns false'. Refute it at one input. -/
def barrierDecidesWrong : ChangeSpec := { name := "barrierDecides", fn := fun _ => fun
  | [d1, d2] => { results := [.lit (.bool false)], args := [d1, d2] }
  | _ => none }
def BarrierDecidesWrongFalsely : Prop := barrierDecidesRow.holds Tryz.pinned (OpenSpec.ofChange barrierDecidesWrong)

/-- 'usufructlaw16.BarrierTime': WHATEVER THE INPUT: true; the input reads as it did. -/
def barrierTimeSpec : ChangeSpec := { name := "barrierTime", fn := fun _ => fun
  | [d1, d2, d3] => { results := [.lit (.bool true)], args := [d1, d2, d3] }
  | _ => none }
def barrierTimeRow : OpenClaim := { program := "ytihgpbpcbbgdiaagreat", sum := "095703e56b0c1f9df32accd313728c9cb42ab6f39fe5cb35ae6e1be62aaa4db5", func := "usufruct/usufructlaw16.BarrierTime", spec := "barrierTime", unfollowed := true, recurses := true, plainKeys := false, apart := false }
def BarrierTimeSaid : Prop := barrierTimeRow.holds Tryz.pinned (OpenSpec.ofChange barrierTimeSpec)

/-- ITS FALSE NEIGHBOUR: 'it returns false'. Refute it at one input. -/
def barrierTimeWrong : ChangeSpec := { name := "barrierTime", fn := fun _ => fun
  | [d1, d2, d3] => { results := [.lit (.bool false)], args := [d1, d2, d3] }
  | _ => none }
def BarrierTimeWrongFalsely : Prop := barrierTimeRow.holds Tryz.pinned (OpenSpec.ofChange barrierTimeWrong)

/-- 'usufructlaw07.FieldLoose': WHATEVER THE INPUT: true; the input reads as it did. -/
def fieldLooseSpec : ChangeSpec := { name := "fieldLoose", fn := fun _ => fun
  | [d1, d2, d3, d4, d5, d6] => { results := [.lit (.bool true)], args := [d1, d2, d3, d4, d5, d6] }
  | _ => none }
def fieldLooseRow : OpenClaim := { program := "ytihgpbpcbbgdiaagreat", sum := "095703e56b0c1f9df32accd313728c9cb42ab6f39fe5cb35ae6e1be62aaa4db5", func := "usufruct/usufructlaw07.FieldLoose", spec := "fieldLoose", unfollowed := true, recurses := true, plainKeys := false, apart := false }
def FieldLooseSaid : Prop := fieldLooseRow.holds Tryz.pinned (OpenSpec.ofChange fieldLooseSpec)

/-- ITS FALSE NEIGHBOUR: 'it returns false'. Refute it at one input. -/
def fieldLooseWrong : ChangeSpec := { name := "fieldLoose", fn := fun _ => fun
  | [d1, d2, d3, d4, d5, d6] => { results := [.lit (.bool false)], args := [d1, d2, d3, d4, d5, d6] }
  | _ => none }
def FieldLooseWrongFalsely : Prop := fieldLooseRow.holds Tryz.pinned (OpenSpec.ofChange fieldLooseWrong)

/- THE SECOND FORM. 'bulk': how many values and letters a reading holds, each counted each time it is reached (what is shared counts as often as it is met; a slice's spare places count too). A statement '..UptoSaid' is the law's where the arguments, and the package variables that the reading takes, are together of bulk at most 1048576: NARROWER than '..Said'. Prove '..Said' where nothing that the law and all that it calls make is longer than what came in: it says more and counts as full. Else prove '..UptoSaid'. A law counts once. -/
mutual
def uptoBulk {H : Type} : DataW H → Nat
  | .lit (.string bytes) => bytes.length + 1
  | .lit _ => 1
  | .nil => 1
  | .ptr d => uptoBulk d + 1
  | .slice elems spare => uptoBulkAll elems + uptoBulkAll spare + 1
  | .agg parts => uptoBulkAll parts + 1
  | .iface _ d => uptoBulk d + 1
  | .map entries => uptoBulkEntries entries + 1
  | .held _ => 1
def uptoBulkAll {H : Type} : List (DataW H) → Nat
  | [] => 0
  | d :: r => uptoBulk d + uptoBulkAll r
def uptoBulkEntries {H : Type} : List (Lit × DataW H) → Nat
  | [] => 0
  | x :: r => uptoBulkEntry x + uptoBulkEntries r
def uptoBulkEntry {H : Type} : Lit × DataW H → Nat
  | (.string bytes, d) => bytes.length + uptoBulk d + 1
  | (_, d) => uptoBulk d + 1
 end
def uptoSmall : (H : Type) → List (DataW H) → Bool := fun _ ds => decide (uptoBulkAll ds ≤ 1048576)
def OpenSpec.upto (s : _root_.Go.ChangeSpec) : _root_.Go.OpenSpec := { _root_.Go.OpenSpec.ofChange s with cond := some uptoSmall }

/-- 'usufructlaw16.BarrierMakes', WHERE WHAT IT READS IS OF BULK AT MOST 1048576: true; the input reads as it did. -/
def barrierMakesUptoRow : OpenClaim := { program := "ytihgpbpcbbgdiaagreat", sum := "095703e56b0c1f9df32accd313728c9cb42ab6f39fe5cb35ae6e1be62aaa4db5", func := "usufruct/usufructlaw16.BarrierMakes", spec := "barrierMakes", unfollowed := true, recurses := true, plainKeys := false, apart := false, narrowed := true }
def BarrierMakesUptoSaid : Prop := barrierMakesUptoRow.holds Tryz.pinned (OpenSpec.upto barrierMakesSpec)

/-- 'usufructlaw16.BarrierOrder', WHERE WHAT IT READS IS OF BULK AT MOST 1048576: true; the input reads as it did. -/
def barrierOrderUptoRow : OpenClaim := { program := "ytihgpbpcbbgdiaagreat", sum := "095703e56b0c1f9df32accd313728c9cb42ab6f39fe5cb35ae6e1be62aaa4db5", func := "usufruct/usufructlaw16.BarrierOrder", spec := "barrierOrder", unfollowed := true, recurses := true, plainKeys := false, apart := false, narrowed := true }
def BarrierOrderUptoSaid : Prop := barrierOrderUptoRow.holds Tryz.pinned (OpenSpec.upto barrierOrderSpec)

/-- 'usufructlaw16.BarrierDecides', WHERE WHAT IT READS IS OF BULK AT MOST 1048576: true; the input reads as it did. -/
def barrierDecidesUptoRow : OpenClaim := { program := "ytihgpbpcbbgdiaagreat", sum := "095703e56b0c1f9df32accd313728c9cb42ab6f39fe5cb35ae6e1be62aaa4db5", func := "usufruct/usufructlaw16.BarrierDecides", spec := "barrierDecides", unfollowed := true, recurses := true, plainKeys := false, apart := false, narrowed := true }
def BarrierDecidesUptoSaid : Prop := barrierDecidesUptoRow.holds Tryz.pinned (OpenSpec.upto barrierDecidesSpec)

/-- 'usufructlaw16.BarrierTime', WHERE WHAT IT READS IS OF BULK AT MOST 1048576: true; the input reads as it did. -/
def barrierTimeUptoRow : OpenClaim := { program := "ytihgpbpcbbgdiaagreat", sum := "095703e56b0c1f9df32accd313728c9cb42ab6f39fe5cb35ae6e1be62aaa4db5", func := "usufruct/usufructlaw16.BarrierTime", spec := "barrierTime", unfollowed := true, recurses := true, plainKeys := false, apart := false, narrowed := true }
def BarrierTimeUptoSaid : Prop := barrierTimeUptoRow.holds Tryz.pinned (OpenSpec.upto barrierTimeSpec)

/-- 'usufructlaw07.FieldLoose', WHERE WHAT IT READS IS OF BULK AT MOST 1048576: true; the input reads as it did. -/
def fieldLooseUptoRow : OpenClaim := { program := "ytihgpbpcbbgdiaagreat", sum := "095703e56b0c1f9df32accd313728c9cb42ab6f39fe5cb35ae6e1be62aaa4db5", func := "usufruct/usufructlaw07.FieldLoose", spec := "fieldLoose", unfollowed := true, recurses := true, plainKeys := false, apart := false, narrowed := true }
def FieldLooseUptoSaid : Prop := fieldLooseUptoRow.holds Tryz.pinned (OpenSpec.upto fieldLooseSpec)

end Rows
end Go.Proofs.YtihgpbpcbbgdiaaGreat
