/-
  No cell of these rows narrows 'for every input' (looked for: loops, veiled, ifaces, maps, wideKeys, modest, calm, conditions, laid).
  DERIVED. THE GIVEN ROWS OF THIS SEAT. 3 by the template 'for every input the law returns true; each argument reads behind the call as it read before'; 0 by the template 'total and deterministic' (their statements: YtlbaagjbehdmgaaTotals.lean).
  GIVEN WITH THE SEED: the statements are not yours to turn. If you find one false, say at which input.
  Laid BY PROGRAM, IN A SANDBOX (cutbox-rows.mjs): the forced cells as the released guide's own fill.sh prints them over the translation f4e707e5961b36f8… (all of the seat's roots in one cut). By AI agents, Wed Nov 11 2026. No macro, syntax, notation, axiom, sorry.
-/
import Derived.Test.YtlbaagjbehdmgaaChecked
import GoSem.Claim
import GoSem.ClaimJoined
import GoSem.ClaimMapViews
import Derived.JoinedTies
import Derived.KernelRfl
namespace Go.Proofs.Ytlbaagjbehdmgaa
/- THE CELL 'sum', in the pinned program and in every row, IS THE sha256 OF THE DUMP (.gsa) THAT YtlbaagjbehdmgaaProg.lean LOADS. Nothing in Lean hashes anything: it is a label: what it is worth is what the hold of that sum in a sandbox is worth. -/
noncomputable def Try.pinned : Pinned := { name := "ytlbaagjbehdmgaa", sum := "f4e707e5961b36f85213c919f8ff7f20fc5e0495a4f432c015d6d1fac9a9f03f", checked := Try.checked }
namespace Rows
def none {H : Type} : Left H := { results := [], args := [] }

/-- 'waterhourlaw09.StoreEntries': WHATEVER THE INPUT: true; the input reads as it did. -/
def storeEntriesSpec : ChangeSpec := { name := "storeEntries", fn := fun _ => fun
  | [d1, d2] => { results := [.lit (.bool true)], args := [d1, d2] }
  | _ => none }
def storeEntriesRow : OpenClaim := { program := "ytlbaagjbehdmgaa", sum := "f4e707e5961b36f85213c919f8ff7f20fc5e0495a4f432c015d6d1fac9a9f03f", func := "waterhour/waterhourlaw09.StoreEntries", spec := "storeEntries", inPlace := ["slices.overlaps[waterhour/store.placed]"], unfollowed := true, recurses := true, plainKeys := false, apart := false }
def StoreEntriesSaid : Prop := storeEntriesRow.holds Try.pinned (OpenSpec.ofChange storeEntriesSpec)

/-- ITS FALSE NEIGHBOUR: 'it returns false'. Refute it at one input. -/
def storeEntriesWrong : ChangeSpec := { name := "storeEntries", fn := fun _ => fun
  | [d1, d2] => { results := [.lit (.bool false)], args := [d1, d2] }
  | _ => none }
def StoreEntriesWrongFalsely : Prop := storeEntriesRow.holds Try.pinned (OpenSpec.ofChange storeEntriesWrong)

/-- 'waterhourlaw09.StoreRots': WHATEVER THE INPUT: true; the input reads as it did. -/
def storeRotsSpec : ChangeSpec := { name := "storeRots", fn := fun _ => fun
  | [d1, d2, d3, d4, d5, d6] => { results := [.lit (.bool true)], args := [d1, d2, d3, d4, d5, d6] }
  | _ => none }
def storeRotsRow : OpenClaim := { program := "ytlbaagjbehdmgaa", sum := "f4e707e5961b36f85213c919f8ff7f20fc5e0495a4f432c015d6d1fac9a9f03f", func := "waterhour/waterhourlaw09.StoreRots", spec := "storeRots", inPlace := ["slices.overlaps[waterhour/store.placed]"], unfollowed := true, recurses := true, plainKeys := false, apart := false }
def StoreRotsSaid : Prop := storeRotsRow.holds Try.pinned (OpenSpec.ofChange storeRotsSpec)

/-- ITS FALSE NEIGHBOUR: 'it returns false'. Refute it at one input. -/
def storeRotsWrong : ChangeSpec := { name := "storeRots", fn := fun _ => fun
  | [d1, d2, d3, d4, d5, d6] => { results := [.lit (.bool false)], args := [d1, d2, d3, d4, d5, d6] }
  | _ => none }
def StoreRotsWrongFalsely : Prop := storeRotsRow.holds Try.pinned (OpenSpec.ofChange storeRotsWrong)

/-- 'waterhourlaw09.StoreOther': WHATEVER THE INPUT: true; the input reads as it did. -/
def storeOtherSpec : ChangeSpec := { name := "storeOther", fn := fun _ => fun
  | [d1, d2] => { results := [.lit (.bool true)], args := [d1, d2] }
  | _ => none }
def storeOtherRow : OpenClaim := { program := "ytlbaagjbehdmgaa", sum := "f4e707e5961b36f85213c919f8ff7f20fc5e0495a4f432c015d6d1fac9a9f03f", func := "waterhour/waterhourlaw09.StoreOther", spec := "storeOther", inPlace := ["slices.overlaps[waterhour/store.placed]"], unfollowed := true, recurses := true, plainKeys := false, apart := false }
def StoreOtherSaid : Prop := storeOtherRow.holds Try.pinned (OpenSpec.ofChange storeOtherSpec)

/-- ITS FALSE NEIGHBOUR: 'it returns false'. Refute it at one input. -/
def storeOtherWrong : ChangeSpec := { name := "storeOther", fn := fun _ => fun
  | [d1, d2] => { results := [.lit (.bool false)], args := [d1, d2] }
  | _ => none }
def StoreOtherWrongFalsely : Prop := storeOtherRow.holds Try.pinned (OpenSpec.ofChange storeOtherWrong)

/- THE SECOND FORM. 'bulk': how many values and letters a reading holds, each counted each time it is reached (what is shared counts as often as it is met; a slice's spare places count too). A statement '..UptoSaid' is the law's where the arguments, and the package variables that the reading takes, are together of bulk at most 1048576: NARROWER than '..Said'. Prove '..Said' where nothing that the law and all that it calls make is longer than what came in: it says more and counts as full. Else prove '..UptoSaid'. A law counts once. -/
mutual
def uptoBulk {H : Type} : DataW H → Nat
  | .lit (.string bytes) => bytes.length + 1
  | .lit _ => 1
  | .nil => 1
  | .ptr d => uptoBulk d + 1
  | .slice elems spare => uptoBulkAll elems + uptoBulkAll spare + 1
  | .agg parts => uptoBulkAll parts + 1
  | .iface _ d => uptoBulk d + 1
  | .map entries => uptoBulkEntries entries + 1
  | .held _ => 1
def uptoBulkAll {H : Type} : List (DataW H) → Nat
  | [] => 0
  | d :: r => uptoBulk d + uptoBulkAll r
def uptoBulkEntries {H : Type} : List (Lit × DataW H) → Nat
  | [] => 0
  | x :: r => uptoBulkEntry x + uptoBulkEntries r
def uptoBulkEntry {H : Type} : Lit × DataW H → Nat
  | (.string bytes, d) => bytes.length + uptoBulk d + 1
  | (_, d) => uptoBulk d + 1
 end
def uptoSmall : (H : Type) → List (DataW H) → Bool := fun _ ds => decide (uptoBulkAll ds ≤ 1048576)
def OpenSpec.upto (s : _root_.Go.ChangeSpec) : _root_.Go.OpenSpec := { _root_.Go.OpenSpec.ofChange s with cond := some uptoSmall }

/-- 'waterhourlaw09.StoreEntries', WHERE WHAT IT READS IS OF BULK AT MOST 1048576: true; the input reads as it did. -/
def storeEntriesUptoRow : OpenClaim := { program := "ytlbaagjbehdmgaa", sum := "f4e707e5961b36f85213c919f8ff7f20fc5e0495a4f432c015d6d1fac9a9f03f", func := "waterhour/waterhourlaw09.StoreEntries", spec := "storeEntries", inPlace := ["slices.overlaps[waterhour/store.placed]"], unfollowed := true, recurses := true, plainKeys := false, apart := false, narrowed := true }
def StoreEntriesUptoSaid : Prop := storeEntriesUptoRow.holds Try.pinned (OpenSpec.upto storeEntriesSpec)

/-- 'waterhourlaw09.StoreRots', WHERE WHAT IT READS IS OF BULK AT MOST 1048576: true; the input reads as it did. -/
def storeRotsUptoRow : OpenClaim := { program := "ytlbaagjbehdmgaa", sum := "f4e707e5961b36f85213c919f8ff7f20fc5e0495a4f432c015d6d1fac9a9f03f", func := "waterhour/waterhourlaw09.StoreRots", spec := "storeRots", inPlace := ["slices.overlaps[waterhour/store.placed]"], unfollowed := true, recurses := true, plainKeys := false, apart := false, narrowed := true }
def StoreRotsUptoSaid : Prop := storeRotsUptoRow.holds Try.pinned (OpenSpec.upto storeRotsSpec)

/-- 'waterhourlaw09.StoreOther', WHERE WHAT IT READS IS OF BULK AT MOST 1048576: true; the input reads as it did. -/
def storeOtherUptoRow : OpenClaim := { program := "ytlbaagjbehdmgaa", sum := "f4e707e5961b36f85213c919f8ff7f20fc5e0495a4f432c015d6d1fac9a9f03f", func := "waterhour/waterhourlaw09.StoreOther", spec := "storeOther", inPlace := ["slices.overlaps[waterhour/store.placed]"], unfollowed := true, recurses := true, plainKeys := false, apart := false, narrowed := true }
def StoreOtherUptoSaid : Prop := storeOtherUptoRow.holds Try.pinned (OpenSpec.upto storeOtherSpec)

end Rows
end Go.Proofs.Ytlbaagjbehdmgaa
