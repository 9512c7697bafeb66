/-
  No cell of these rows narrows 'for every input' (looked for: loops, veiled, ifaces, maps, wideKeys, modest, calm, conditions, laid).
  DERIVED. THE GIVEN ROWS OF THIS SEAT. 8 by the template 'for every input the law returns true; each argument reads behind the call as it read before'; 0 by the template 'total and deterministic' (their statements: YtlbaagjbehdmgaaGreatTotals.lean).
  GIVEN WITH THE SEED: the statements are not yours to turn. If you find one false, say at which input.
  Laid BY PROGRAM, IN A SANDBOX (cutbox-rows.mjs): the forced cells as the released guide's own fill.sh prints them over the translation 2f884b0f805d2669… (all of the seat's roots in one cut). By AI agents, Wed Nov 11 2026. No macro, syntax, notation, axiom, sorry.
-/
import Derived.Test.YtlbaagjbehdmgaaGreatChecked
import GoSem.Claim
import GoSem.ClaimJoined
import GoSem.ClaimMapViews
import Derived.JoinedTies
import Derived.KernelRfl
namespace Go.Proofs.YtlbaagjbehdmgaaGreat
/- THE CELL 'sum', in the pinned program and in every row, IS THE sha256 OF THE DUMP (.gsa) THAT YtlbaagjbehdmgaaGreatProg.lean LOADS. Nothing in Lean hashes anything: it is a label: what it is worth is what the hold of that sum in a sandbox is worth. -/
noncomputable def Tryz.pinned : Pinned := { name := "ytlbaagjbehdmgaagreat", sum := "2f884b0f805d26690339f6994323a4ee62090a2625838414bef23ce8fd43a542", checked := Tryz.checked }
namespace Rows
def none {H : Type} : Left H := { results := [], args := [] }

/-- 'waterhourlaw09.StoreDisks': WHATEVER THE INPUT: true; the input reads as it did. -/
def storeDisksSpec : ChangeSpec := { name := "storeDisks", fn := fun _ => fun
  | [d1, d2] => { results := [.lit (.bool true)], args := [d1, d2] }
  | _ => none }
def storeDisksRow : OpenClaim := { program := "ytlbaagjbehdmgaagreat", sum := "2f884b0f805d26690339f6994323a4ee62090a2625838414bef23ce8fd43a542", func := "waterhour/waterhourlaw09.StoreDisks", spec := "storeDisks", inPlace := ["slices.overlaps[waterhour/store.placed]"], unfollowed := true, recurses := true, plainKeys := false, apart := false }
def StoreDisksSaid : Prop := storeDisksRow.holds Tryz.pinned (OpenSpec.ofChange storeDisksSpec)

/-- ITS FALSE NEIGHBOUR: 'it returns false'. Refute it at one input. -/
def storeDisksWrong : ChangeSpec := { name := "storeDisks", fn := fun _ => fun
  | [d1, d2] => { results := [.lit (.bool false)], args := [d1, d2] }
  | _ => none }
def StoreDisksWrongFalsely : Prop := storeDisksRow.holds Tryz.pinned (OpenSpec.ofChange storeDisksWrong)

/-- 'waterhourlaw09.StorePages': WHATEVER THE INPUT: true; the input reads as it did. -/
def storePagesSpec : ChangeSpec := { name := "storePages", fn := fun _ => fun
  | [d1, d2, d3] => { results := [.lit (.bool true)], args := [d1, d2, d3] }
  | _ => none }
def storePagesRow : OpenClaim := { program := "ytlbaagjbehdmgaagreat", sum := "2f884b0f805d26690339f6994323a4ee62090a2625838414bef23ce8fd43a542", func := "waterhour/waterhourlaw09.StorePages", spec := "storePages", inPlace := ["slices.overlaps[waterhour/store.placed]"], unfollowed := true, recurses := true, plainKeys := false, apart := false }
def StorePagesSaid : Prop := storePagesRow.holds Tryz.pinned (OpenSpec.ofChange storePagesSpec)

/-- ITS FALSE NEIGHBOUR: 'it returns false'. Refute it at one input. -/
def storePagesWrong : ChangeSpec := { name := "storePages", fn := fun _ => fun
  | [d1, d2, d3] => { results := [.lit (.bool false)], args := [d1, d2, d3] }
  | _ => none }
def StorePagesWrongFalsely : Prop := storePagesRow.holds Tryz.pinned (OpenSpec.ofChange storePagesWrong)

/-- 'waterhourlaw09.StoreOnce': WHATEVER THE INPUT: true; the input reads as it did. -/
def storeOnceSpec : ChangeSpec := { name := "storeOnce", fn := fun _ => fun
  | [d1, d2, d3] => { results := [.lit (.bool true)], args := [d1, d2, d3] }
  | _ => none }
def storeOnceRow : OpenClaim := { program := "ytlbaagjbehdmgaagreat", sum := "2f884b0f805d26690339f6994323a4ee62090a2625838414bef23ce8fd43a542", func := "waterhour/waterhourlaw09.StoreOnce", spec := "storeOnce", inPlace := ["slices.overlaps[waterhour/store.placed]"], unfollowed := true, recurses := true, plainKeys := false, apart := false }
def StoreOnceSaid : Prop := storeOnceRow.holds Tryz.pinned (OpenSpec.ofChange storeOnceSpec)

/-- ITS FALSE NEIGHBOUR: 'it returns false'. Refute it at one input. -/
def storeOnceWrong : ChangeSpec := { name := "storeOnce", fn := fun _ => fun
  | [d1, d2, d3] => { results := [.lit (.bool false)], args := [d1, d2, d3] }
  | _ => none }
def StoreOnceWrongFalsely : Prop := storeOnceRow.holds Tryz.pinned (OpenSpec.ofChange storeOnceWrong)

/-- 'waterhourlaw09.StoreKept': WHATEVER THE INPUT: true; the input reads as it did. -/
def storeKeptSpec : ChangeSpec := { name := "storeKept", fn := fun _ => fun
  | [d1, d2, d3, d4] => { results := [.lit (.bool true)], args := [d1, d2, d3, d4] }
  | _ => none }
def storeKeptRow : OpenClaim := { program := "ytlbaagjbehdmgaagreat", sum := "2f884b0f805d26690339f6994323a4ee62090a2625838414bef23ce8fd43a542", func := "waterhour/waterhourlaw09.StoreKept", spec := "storeKept", inPlace := ["slices.overlaps[waterhour/store.placed]"], unfollowed := true, recurses := true, plainKeys := false, apart := false }
def StoreKeptSaid : Prop := storeKeptRow.holds Tryz.pinned (OpenSpec.ofChange storeKeptSpec)

/-- ITS FALSE NEIGHBOUR: 'it returns false'. Refute it at one input. -/
def storeKeptWrong : ChangeSpec := { name := "storeKept", fn := fun _ => fun
  | [d1, d2, d3, d4] => { results := [.lit (.bool false)], args := [d1, d2, d3, d4] }
  | _ => none }
def StoreKeptWrongFalsely : Prop := storeKeptRow.holds Tryz.pinned (OpenSpec.ofChange storeKeptWrong)

/-- 'waterhourlaw09.StoreAgree': WHATEVER THE INPUT: true; the input reads as it did. -/
def storeAgreeSpec : ChangeSpec := { name := "storeAgree", fn := fun _ => fun
  | [d1, d2, d3] => { results := [.lit (.bool true)], args := [d1, d2, d3] }
  | _ => none }
def storeAgreeRow : OpenClaim := { program := "ytlbaagjbehdmgaagreat", sum := "2f884b0f805d26690339f6994323a4ee62090a2625838414bef23ce8fd43a542", func := "waterhour/waterhourlaw09.StoreAgree", spec := "storeAgree", inPlace := ["slices.overlaps[waterhour/store.placed]"], unfollowed := true, recurses := true, plainKeys := false, apart := false }
def StoreAgreeSaid : Prop := storeAgreeRow.holds Tryz.pinned (OpenSpec.ofChange storeAgreeSpec)

/-- ITS FALSE NEIGHBOUR: 'it returns false'. Refute it at one input. -/
def storeAgreeWrong : ChangeSpec := { name := "storeAgree", fn := fun _ => fun
  | [d1, d2, d3] => { results := [.lit (.bool false)], args := [d1, d2, d3] }
  | _ => none }
def StoreAgreeWrongFalsely : Prop := storeAgreeRow.holds Tryz.pinned (OpenSpec.ofChange storeAgreeWrong)

/-- 'waterhourlaw09.StoreOpens': WHATEVER THE INPUT: true; the input reads as it did. -/
def storeOpensSpec : ChangeSpec := { name := "storeOpens", fn := fun _ => fun
  | [d1, d2, d3, d4] => { results := [.lit (.bool true)], args := [d1, d2, d3, d4] }
  | _ => none }
def storeOpensRow : OpenClaim := { program := "ytlbaagjbehdmgaagreat", sum := "2f884b0f805d26690339f6994323a4ee62090a2625838414bef23ce8fd43a542", func := "waterhour/waterhourlaw09.StoreOpens", spec := "storeOpens", inPlace := ["slices.overlaps[waterhour/store.placed]"], unfollowed := true, recurses := true, plainKeys := false, apart := false }
def StoreOpensSaid : Prop := storeOpensRow.holds Tryz.pinned (OpenSpec.ofChange storeOpensSpec)

/-- ITS FALSE NEIGHBOUR: 'it returns false'. Refute it at one input. -/
def storeOpensWrong : ChangeSpec := { name := "storeOpens", fn := fun _ => fun
  | [d1, d2, d3, d4] => { results := [.lit (.bool false)], args := [d1, d2, d3, d4] }
  | _ => none }
def StoreOpensWrongFalsely : Prop := storeOpensRow.holds Tryz.pinned (OpenSpec.ofChange storeOpensWrong)

/-- 'waterhourlaw09.StoreDoes': WHATEVER THE INPUT: true; the input reads as it did. -/
def storeDoesSpec : ChangeSpec := { name := "storeDoes", fn := fun _ => fun
  | [d1, d2] => { results := [.lit (.bool true)], args := [d1, d2] }
  | _ => none }
def storeDoesRow : OpenClaim := { program := "ytlbaagjbehdmgaagreat", sum := "2f884b0f805d26690339f6994323a4ee62090a2625838414bef23ce8fd43a542", func := "waterhour/waterhourlaw09.StoreDoes", spec := "storeDoes", inPlace := ["slices.overlaps[waterhour/store.placed]"], unfollowed := true, recurses := true, plainKeys := false, apart := false }
def StoreDoesSaid : Prop := storeDoesRow.holds Tryz.pinned (OpenSpec.ofChange storeDoesSpec)

/-- ITS FALSE NEIGHBOUR: 'it returns false'. Refute it at one input. -/
def storeDoesWrong : ChangeSpec := { name := "storeDoes", fn := fun _ => fun
  | [d1, d2] => { results := [.lit (.bool false)], args := [d1, d2] }
  | _ => none }
def StoreDoesWrongFalsely : Prop := storeDoesRow.holds Tryz.pinned (OpenSpec.ofChange storeDoesWrong)

/-- 'waterhourlaw09.StoreMoment': WHATEVER THE INPUT: true; the input reads as it did. -/
def storeMomentSpec : ChangeSpec := { name := "storeMoment", fn := fun _ => fun
  | [d1, d2, d3] => { results := [.lit (.bool true)], args := [d1, d2, d3] }
  | _ => none }
def storeMomentRow : OpenClaim := { program := "ytlbaagjbehdmgaagreat", sum := "2f884b0f805d26690339f6994323a4ee62090a2625838414bef23ce8fd43a542", func := "waterhour/waterhourlaw09.StoreMoment", spec := "storeMoment", inPlace := ["slices.overlaps[waterhour/store.placed]"], unfollowed := true, recurses := true, plainKeys := false, apart := false }
def StoreMomentSaid : Prop := storeMomentRow.holds Tryz.pinned (OpenSpec.ofChange storeMomentSpec)

/-- ITS FALSE NEIGHBOUR: 'it returns false'. Refute it at one input. -/
def storeMomentWrong : ChangeSpec := { name := "storeMoment", fn := fun _ => fun
  | [d1, d2, d3] => { results := [.lit (.bool false)], args := [d1, d2, d3] }
  | _ => none }
def StoreMomentWrongFalsely : Prop := storeMomentRow.holds Tryz.pinned (OpenSpec.ofChange storeMomentWrong)

/- THE SECOND FORM. 'bulk': how many values and letters a reading holds, each counted each time it is reached (what is shared counts as often as it is met; a slice's spare places count too). A statement '..UptoSaid' is the law's where the arguments, and the package variables that the reading takes, are together of bulk at most 1048576: NARROWER than '..Said'. Prove '..Said' where nothing that the law and all that it calls make is longer than what came in: it says more and counts as full. Else prove '..UptoSaid'. A law counts once. -/
mutual
def uptoBulk {H : Type} : DataW H → Nat
  | .lit (.string bytes) => bytes.length + 1
  | .lit _ => 1
  | .nil => 1
  | .ptr d => uptoBulk d + 1
  | .slice elems spare => uptoBulkAll elems + uptoBulkAll spare + 1
  | .agg parts => uptoBulkAll parts + 1
  | .iface _ d => uptoBulk d + 1
  | .map entries => uptoBulkEntries entries + 1
  | .held _ => 1
def uptoBulkAll {H : Type} : List (DataW H) → Nat
  | [] => 0
  | d :: r => uptoBulk d + uptoBulkAll r
def uptoBulkEntries {H : Type} : List (Lit × DataW H) → Nat
  | [] => 0
  | x :: r => uptoBulkEntry x + uptoBulkEntries r
def uptoBulkEntry {H : Type} : Lit × DataW H → Nat
  | (.string bytes, d) => bytes.length + uptoBulk d + 1
  | (_, d) => uptoBulk d + 1
 end
def uptoSmall : (H : Type) → List (DataW H) → Bool := fun _ ds => decide (uptoBulkAll ds ≤ 1048576)
def OpenSpec.upto (s : _root_.Go.ChangeSpec) : _root_.Go.OpenSpec := { _root_.Go.OpenSpec.ofChange s with cond := some uptoSmall }

/-- 'waterhourlaw09.StoreDisks', WHERE WHAT IT READS IS OF BULK AT MOST 1048576: true; the input reads as it did. -/
def storeDisksUptoRow : OpenClaim := { program := "ytlbaagjbehdmgaagreat", sum := "2f884b0f805d26690339f6994323a4ee62090a2625838414bef23ce8fd43a542", func := "waterhour/waterhourlaw09.StoreDisks", spec := "storeDisks", inPlace := ["slices.overlaps[waterhour/store.placed]"], unfollowed := true, recurses := true, plainKeys := false, apart := false, narrowed := true }
def StoreDisksUptoSaid : Prop := storeDisksUptoRow.holds Tryz.pinned (OpenSpec.upto storeDisksSpec)

/-- 'waterhourlaw09.StorePages', WHERE WHAT IT READS IS OF BULK AT MOST 1048576: true; the input reads as it did. -/
def storePagesUptoRow : OpenClaim := { program := "ytlbaagjbehdmgaagreat", sum := "2f884b0f805d26690339f6994323a4ee62090a2625838414bef23ce8fd43a542", func := "waterhour/waterhourlaw09.StorePages", spec := "storePages", inPlace := ["slices.overlaps[waterhour/store.placed]"], unfollowed := true, recurses := true, plainKeys := false, apart := false, narrowed := true }
def StorePagesUptoSaid : Prop := storePagesUptoRow.holds Tryz.pinned (OpenSpec.upto storePagesSpec)

/-- 'waterhourlaw09.StoreOnce', WHERE WHAT IT READS IS OF BULK AT MOST 1048576: true; the input reads as it did. -/
def storeOnceUptoRow : OpenClaim := { program := "ytlbaagjbehdmgaagreat", sum := "2f884b0f805d26690339f6994323a4ee62090a2625838414bef23ce8fd43a542", func := "waterhour/waterhourlaw09.StoreOnce", spec := "storeOnce", inPlace := ["slices.overlaps[waterhour/store.placed]"], unfollowed := true, recurses := true, plainKeys := false, apart := false, narrowed := true }
def StoreOnceUptoSaid : Prop := storeOnceUptoRow.holds Tryz.pinned (OpenSpec.upto storeOnceSpec)

/-- 'waterhourlaw09.StoreKept', WHERE WHAT IT READS IS OF BULK AT MOST 1048576: true; the input reads as it did. -/
def storeKeptUptoRow : OpenClaim := { program := "ytlbaagjbehdmgaagreat", sum := "2f884b0f805d26690339f6994323a4ee62090a2625838414bef23ce8fd43a542", func := "waterhour/waterhourlaw09.StoreKept", spec := "storeKept", inPlace := ["slices.overlaps[waterhour/store.placed]"], unfollowed := true, recurses := true, plainKeys := false, apart := false, narrowed := true }
def StoreKeptUptoSaid : Prop := storeKeptUptoRow.holds Tryz.pinned (OpenSpec.upto storeKeptSpec)

/-- 'waterhourlaw09.StoreAgree', WHERE WHAT IT READS IS OF BULK AT MOST 1048576: true; the input reads as it did. -/
def storeAgreeUptoRow : OpenClaim := { program := "ytlbaagjbehdmgaagreat", sum := "2f884b0f805d26690339f6994323a4ee62090a2625838414bef23ce8fd43a542", func := "waterhour/waterhourlaw09.StoreAgree", spec := "storeAgree", inPlace := ["slices.overlaps[waterhour/store.placed]"], unfollowed := true, recurses := true, plainKeys := false, apart := false, narrowed := true }
def StoreAgreeUptoSaid : Prop := storeAgreeUptoRow.holds Tryz.pinned (OpenSpec.upto storeAgreeSpec)

/-- 'waterhourlaw09.StoreOpens', WHERE WHAT IT READS IS OF BULK AT MOST 1048576: true; the input reads as it did. -/
def storeOpensUptoRow : OpenClaim := { program := "ytlbaagjbehdmgaagreat", sum := "2f884b0f805d26690339f6994323a4ee62090a2625838414bef23ce8fd43a542", func := "waterhour/waterhourlaw09.StoreOpens", spec := "storeOpens", inPlace := ["slices.overlaps[waterhour/store.placed]"], unfollowed := true, recurses := true, plainKeys := false, apart := false, narrowed := true }
def StoreOpensUptoSaid : Prop := storeOpensUptoRow.holds Tryz.pinned (OpenSpec.upto storeOpensSpec)

/-- 'waterhourlaw09.StoreDoes', WHERE WHAT IT READS IS OF BULK AT MOST 1048576: true; the input reads as it did. -/
def storeDoesUptoRow : OpenClaim := { program := "ytlbaagjbehdmgaagreat", sum := "2f884b0f805d26690339f6994323a4ee62090a2625838414bef23ce8fd43a542", func := "waterhour/waterhourlaw09.StoreDoes", spec := "storeDoes", inPlace := ["slices.overlaps[waterhour/store.placed]"], unfollowed := true, recurses := true, plainKeys := false, apart := false, narrowed := true }
def StoreDoesUptoSaid : Prop := storeDoesUptoRow.holds Tryz.pinned (OpenSpec.upto storeDoesSpec)

/-- 'waterhourlaw09.StoreMoment', WHERE WHAT IT READS IS OF BULK AT MOST 1048576: true; the input reads as it did. -/
def storeMomentUptoRow : OpenClaim := { program := "ytlbaagjbehdmgaagreat", sum := "2f884b0f805d26690339f6994323a4ee62090a2625838414bef23ce8fd43a542", func := "waterhour/waterhourlaw09.StoreMoment", spec := "storeMoment", inPlace := ["slices.overlaps[waterhour/store.placed]"], unfollowed := true, recurses := true, plainKeys := false, apart := false, narrowed := true }
def StoreMomentUptoSaid : Prop := storeMomentUptoRow.holds Tryz.pinned (OpenSpec.upto storeMomentSpec)

end Rows
end Go.Proofs.YtlbaagjbehdmgaaGreat
