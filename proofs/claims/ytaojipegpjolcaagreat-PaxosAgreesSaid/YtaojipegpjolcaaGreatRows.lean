/-
  No cell of these rows narrows 'for every input' (looked for: loops, veiled, ifaces, maps, wideKeys, modest, calm, conditions, laid).
  DERIVED. THE GIVEN ROWS OF THIS SEAT. 4 by the template 'for every input the law returns true; each argument reads behind the call as it read before'; 0 by the template 'total and deterministic' (their statements: YtaojipegpjolcaaGreatTotals.lean).
  GIVEN WITH THE SEED: the statements are not yours to turn. If you find one false, say at which input.
  Laid BY PROGRAM, IN A SANDBOX (cutbox-rows.mjs): the forced cells as the released guide's own fill.sh prints them over the translation 27df823a19e4847a… (all of the seat's roots in one cut). By AI agents, Wed Nov 11 2026. No macro, syntax, notation, axiom, sorry.
-/
import Derived.Test.YtaojipegpjolcaaGreatChecked
import GoSem.Claim
import GoSem.ClaimJoined
import GoSem.ClaimMapViews
import Derived.JoinedTies
import Derived.KernelRfl
namespace Go.Proofs.YtaojipegpjolcaaGreat
/- THE CELL 'sum', in the pinned program and in every row, IS THE sha256 OF THE DUMP (.gsa) THAT YtaojipegpjolcaaGreatProg.lean LOADS. Nothing in Lean hashes anything: it is a label: what it is worth is what the hold of that sum in a sandbox is worth. -/
noncomputable def Tryz.pinned : Pinned := { name := "ytaojipegpjolcaagreat", sum := "27df823a19e4847ab710250befca22e63419dc77ca2c4ca74ffd7751bb17c034", checked := Tryz.checked }
namespace Rows
def none {H : Type} : Left H := { results := [], args := [] }

/-- 'bodegalaw9.PaxosValid': WHATEVER THE INPUT: true; the input reads as it did. -/
def paxosValidSpec : ChangeSpec := { name := "paxosValid", fn := fun _ => fun
  | [d1, d2] => { results := [.lit (.bool true)], args := [d1, d2] }
  | _ => none }
def paxosValidRow : OpenClaim := { program := "ytaojipegpjolcaagreat", sum := "27df823a19e4847ab710250befca22e63419dc77ca2c4ca74ffd7751bb17c034", func := "bodega/bodegalaw9.PaxosValid", spec := "paxosValid", unfollowed := true, recurses := true, apart := false }
def PaxosValidSaid : Prop := paxosValidRow.holds Tryz.pinned (OpenSpec.ofChange paxosValidSpec)

/-- ITS FALSE NEIGHBOUR: 'it returns false'. Refute it at one input. -/
def paxosValidWrong : ChangeSpec := { name := "paxosValid", fn := fun _ => fun
  | [d1, d2] => { results := [.lit (.bool false)], args := [d1, d2] }
  | _ => none }
def PaxosValidWrongFalsely : Prop := paxosValidRow.holds Tryz.pinned (OpenSpec.ofChange paxosValidWrong)

/-- 'bodegalaw9.PaxosAgrees': WHATEVER THE INPUT: true; the input reads as it did. -/
def paxosAgreesSpec : ChangeSpec := { name := "paxosAgrees", fn := fun _ => fun
  | [d1, d2, d3, d4] => { results := [.lit (.bool true)], args := [d1, d2, d3, d4] }
  | _ => none }
def paxosAgreesRow : OpenClaim := { program := "ytaojipegpjolcaagreat", sum := "27df823a19e4847ab710250befca22e63419dc77ca2c4ca74ffd7751bb17c034", func := "bodega/bodegalaw9.PaxosAgrees", spec := "paxosAgrees", unfollowed := true, recurses := true, apart := false }
def PaxosAgreesSaid : Prop := paxosAgreesRow.holds Tryz.pinned (OpenSpec.ofChange paxosAgreesSpec)

/-- ITS FALSE NEIGHBOUR: 'it returns false'. Refute it at one input. -/
def paxosAgreesWrong : ChangeSpec := { name := "paxosAgrees", fn := fun _ => fun
  | [d1, d2, d3, d4] => { results := [.lit (.bool false)], args := [d1, d2, d3, d4] }
  | _ => none }
def PaxosAgreesWrongFalsely : Prop := paxosAgreesRow.holds Tryz.pinned (OpenSpec.ofChange paxosAgreesWrong)

/-- 'bodegalaw9.PaxosStays': WHATEVER THE INPUT: true; the input reads as it did. -/
def paxosStaysSpec : ChangeSpec := { name := "paxosStays", fn := fun _ => fun
  | [d1, d2, d3] => { results := [.lit (.bool true)], args := [d1, d2, d3] }
  | _ => none }
def paxosStaysRow : OpenClaim := { program := "ytaojipegpjolcaagreat", sum := "27df823a19e4847ab710250befca22e63419dc77ca2c4ca74ffd7751bb17c034", func := "bodega/bodegalaw9.PaxosStays", spec := "paxosStays", unfollowed := true, recurses := true, apart := false }
def PaxosStaysSaid : Prop := paxosStaysRow.holds Tryz.pinned (OpenSpec.ofChange paxosStaysSpec)

/-- ITS FALSE NEIGHBOUR: 'it returns false'. Refute it at one input. -/
def paxosStaysWrong : ChangeSpec := { name := "paxosStays", fn := fun _ => fun
  | [d1, d2, d3] => { results := [.lit (.bool false)], args := [d1, d2, d3] }
  | _ => none }
def PaxosStaysWrongFalsely : Prop := paxosStaysRow.holds Tryz.pinned (OpenSpec.ofChange paxosStaysWrong)

/-- 'bodegalaw9.PaxosMinority': WHATEVER THE INPUT: true; the input reads as it did. -/
def paxosMinoritySpec : ChangeSpec := { name := "paxosMinority", fn := fun _ => fun
  | [d1, d2, d3] => { results := [.lit (.bool true)], args := [d1, d2, d3] }
  | _ => none }
def paxosMinorityRow : OpenClaim := { program := "ytaojipegpjolcaagreat", sum := "27df823a19e4847ab710250befca22e63419dc77ca2c4ca74ffd7751bb17c034", func := "bodega/bodegalaw9.PaxosMinority", spec := "paxosMinority", unfollowed := true, recurses := true, apart := false }
def PaxosMinoritySaid : Prop := paxosMinorityRow.holds Tryz.pinned (OpenSpec.ofChange paxosMinoritySpec)

/-- ITS FALSE NEIGHBOUR: 'it returns false'. Refute it at one input. -/
def paxosMinorityWrong : ChangeSpec := { name := "paxosMinority", fn := fun _ => fun
  | [d1, d2, d3] => { results := [.lit (.bool false)], args := [d1, d2, d3] }
  | _ => none }
def PaxosMinorityWrongFalsely : Prop := paxosMinorityRow.holds Tryz.pinned (OpenSpec.ofChange paxosMinorityWrong)

/- THE SECOND FORM. 'bulk': how many values and letters a reading holds, each counted each time it is reached (what is shared counts as often as it is met; a slice's spare places count too). A statement '..UptoSaid' is the law's where the arguments, and the package variables that the reading takes, are together of bulk at most 1048576: NARROWER than '..Said'. Prove '..Said' where nothing that the law and all that it calls make is longer than what came in: it says more and counts as full. Else prove '..UptoSaid'. A law counts once. -/
mutual
def uptoBulk {H : Type} : DataW H → Nat
  | .lit (.string bytes) => bytes.length + 1
  | .lit _ => 1
  | .nil => 1
  | .ptr d => uptoBulk d + 1
  | .slice elems spare => uptoBulkAll elems + uptoBulkAll spare + 1
  | .agg parts => uptoBulkAll parts + 1
  | .iface _ d => uptoBulk d + 1
  | .map entries => uptoBulkEntries entries + 1
  | .held _ => 1
def uptoBulkAll {H : Type} : List (DataW H) → Nat
  | [] => 0
  | d :: r => uptoBulk d + uptoBulkAll r
def uptoBulkEntries {H : Type} : List (Lit × DataW H) → Nat
  | [] => 0
  | x :: r => uptoBulkEntry x + uptoBulkEntries r
def uptoBulkEntry {H : Type} : Lit × DataW H → Nat
  | (.string bytes, d) => bytes.length + uptoBulk d + 1
  | (_, d) => uptoBulk d + 1
 end
def uptoSmall : (H : Type) → List (DataW H) → Bool := fun _ ds => decide (uptoBulkAll ds ≤ 1048576)
def OpenSpec.upto (s : _root_.Go.ChangeSpec) : _root_.Go.OpenSpec := { _root_.Go.OpenSpec.ofChange s with cond := some uptoSmall }

/-- 'bodegalaw9.PaxosValid', WHERE WHAT IT READS IS OF BULK AT MOST 1048576: true; the input reads as it did. -/
def paxosValidUptoRow : OpenClaim := { program := "ytaojipegpjolcaagreat", sum := "27df823a19e4847ab710250befca22e63419dc77ca2c4ca74ffd7751bb17c034", func := "bodega/bodegalaw9.PaxosValid", spec := "paxosValid", unfollowed := true, recurses := true, apart := false, narrowed := true }
def PaxosValidUptoSaid : Prop := paxosValidUptoRow.holds Tryz.pinned (OpenSpec.upto paxosValidSpec)

/-- 'bodegalaw9.PaxosAgrees', WHERE WHAT IT READS IS OF BULK AT MOST 1048576: true; the input reads as it did. -/
def paxosAgreesUptoRow : OpenClaim := { program := "ytaojipegpjolcaagreat", sum := "27df823a19e4847ab710250befca22e63419dc77ca2c4ca74ffd7751bb17c034", func := "bodega/bodegalaw9.PaxosAgrees", spec := "paxosAgrees", unfollowed := true, recurses := true, apart := false, narrowed := true }
def PaxosAgreesUptoSaid : Prop := paxosAgreesUptoRow.holds Tryz.pinned (OpenSpec.upto paxosAgreesSpec)

/-- 'bodegalaw9.PaxosStays', WHERE WHAT IT READS IS OF BULK AT MOST 1048576: true; the input reads as it did. -/
def paxosStaysUptoRow : OpenClaim := { program := "ytaojipegpjolcaagreat", sum := "27df823a19e4847ab710250befca22e63419dc77ca2c4ca74ffd7751bb17c034", func := "bodega/bodegalaw9.PaxosStays", spec := "paxosStays", unfollowed := true, recurses := true, apart := false, narrowed := true }
def PaxosStaysUptoSaid : Prop := paxosStaysUptoRow.holds Tryz.pinned (OpenSpec.upto paxosStaysSpec)

/-- 'bodegalaw9.PaxosMinority', WHERE WHAT IT READS IS OF BULK AT MOST 1048576: true; the input reads as it did. -/
def paxosMinorityUptoRow : OpenClaim := { program := "ytaojipegpjolcaagreat", sum := "27df823a19e4847ab710250befca22e63419dc77ca2c4ca74ffd7751bb17c034", func := "bodega/bodegalaw9.PaxosMinority", spec := "paxosMinority", unfollowed := true, recurses := true, apart := false, narrowed := true }
def PaxosMinorityUptoSaid : Prop := paxosMinorityUptoRow.holds Tryz.pinned (OpenSpec.upto paxosMinoritySpec)

end Rows
end Go.Proofs.YtaojipegpjolcaaGreat
