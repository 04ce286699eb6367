/-
  No cell of these rows narrows 'for every input' (looked for: loops, veiled, ifaces, maps, wideKeys, modest, calm, conditions, laid).
  DERIVED. THE GIVEN ROWS OF THIS SEAT. 5 by the template 'for every input the law returns true; each argument reads behind the call as it read before'; 0 by the template 'total and deterministic' (their statements: YtglichmmoibagaaTotals.lean).
  GIVEN WITH THE SEED: the statements are not yours to turn. If you find one false, say at which input.
  Laid BY PROGRAM, IN A SANDBOX (cutbox-rows.mjs): the forced cells as the released guide's own fill.sh prints them over the translation c6aee1b2f596a0f9… (all of the seat's roots in one cut). By AI agents, Wed Nov 11 2026. No macro, syntax, notation, axiom, sorry.
-/
import Derived.Test.YtglichmmoibagaaChecked
import GoSem.Claim
import GoSem.ClaimJoined
import GoSem.ClaimMapViews
import Derived.JoinedTies
import Derived.KernelRfl
namespace Go.Proofs.Ytglichmmoibagaa
/- THE CELL 'sum', in the pinned program and in every row, IS THE sha256 OF THE DUMP (.gsa) THAT YtglichmmoibagaaProg.lean LOADS. Nothing in Lean hashes anything: it is a label: what it is worth is what the hold of that sum in a sandbox is worth. -/
noncomputable def Try.pinned : Pinned := { name := "ytglichmmoibagaa", sum := "c6aee1b2f596a0f9365ee7030e8551d3d661175fb18e8bfb60ddf5469cc8f48e", checked := Try.checked }
namespace Rows
def none {H : Type} : Left H := { results := [], args := [] }

/-- 'spinetlaw07.StoreNames': WHATEVER THE INPUT: true; the input reads as it did. -/
def storeNamesSpec : ChangeSpec := { name := "storeNames", fn := fun _ => fun
  | [d] => { results := [.lit (.bool true)], args := [d] }
  | _ => none }
def storeNamesRow : OpenClaim := { program := "ytglichmmoibagaa", sum := "c6aee1b2f596a0f9365ee7030e8551d3d661175fb18e8bfb60ddf5469cc8f48e", func := "spinet/spinetlaw07.StoreNames", spec := "storeNames", plainKeys := false, apart := false }
def StoreNamesSaid : Prop := storeNamesRow.holds Try.pinned (OpenSpec.ofChange storeNamesSpec)

/-- ITS FALSE NEIGHBOUR: 'it returns false'. Refute it at one input. -/
def storeNamesWrong : ChangeSpec := { name := "storeNames", fn := fun _ => fun
  | [d] => { results := [.lit (.bool false)], args := [d] }
  | _ => none }
def StoreNamesWrongFalsely : Prop := storeNamesRow.holds Try.pinned (OpenSpec.ofChange storeNamesWrong)

/-- 'spinetlaw07.StoreLast': WHATEVER THE INPUT: true; the input reads as it did. -/
def storeLastSpec : ChangeSpec := { name := "storeLast", fn := fun _ => fun
  | [d1, d2, d3] => { results := [.lit (.bool true)], args := [d1, d2, d3] }
  | _ => none }
def storeLastRow : OpenClaim := { program := "ytglichmmoibagaa", sum := "c6aee1b2f596a0f9365ee7030e8551d3d661175fb18e8bfb60ddf5469cc8f48e", func := "spinet/spinetlaw07.StoreLast", spec := "storeLast", plainKeys := false, apart := false }
def StoreLastSaid : Prop := storeLastRow.holds Try.pinned (OpenSpec.ofChange storeLastSpec)

/-- ITS FALSE NEIGHBOUR: 'it returns false'. Refute it at one input. -/
def storeLastWrong : ChangeSpec := { name := "storeLast", fn := fun _ => fun
  | [d1, d2, d3] => { results := [.lit (.bool false)], args := [d1, d2, d3] }
  | _ => none }
def StoreLastWrongFalsely : Prop := storeLastRow.holds Try.pinned (OpenSpec.ofChange storeLastWrong)

/-- 'spinetlaw07.StoreFull': WHATEVER THE INPUT: true; the input reads as it did. -/
def storeFullSpec : ChangeSpec := { name := "storeFull", fn := fun _ => fun
  | [d] => { results := [.lit (.bool true)], args := [d] }
  | _ => none }
def storeFullRow : OpenClaim := { program := "ytglichmmoibagaa", sum := "c6aee1b2f596a0f9365ee7030e8551d3d661175fb18e8bfb60ddf5469cc8f48e", func := "spinet/spinetlaw07.StoreFull", spec := "storeFull", recurses := true, plainKeys := false, apart := false }
def StoreFullSaid : Prop := storeFullRow.holds Try.pinned (OpenSpec.ofChange storeFullSpec)

/-- ITS FALSE NEIGHBOUR: 'it returns false'. Refute it at one input. -/
def storeFullWrong : ChangeSpec := { name := "storeFull", fn := fun _ => fun
  | [d] => { results := [.lit (.bool false)], args := [d] }
  | _ => none }
def StoreFullWrongFalsely : Prop := storeFullRow.holds Try.pinned (OpenSpec.ofChange storeFullWrong)

/-- 'spinetlaw07.StorePlays': WHATEVER THE INPUT: true; the input reads as it did. -/
def storePlaysSpec : ChangeSpec := { name := "storePlays", fn := fun _ => fun
  | [d] => { results := [.lit (.bool true)], args := [d] }
  | _ => none }
def storePlaysRow : OpenClaim := { program := "ytglichmmoibagaa", sum := "c6aee1b2f596a0f9365ee7030e8551d3d661175fb18e8bfb60ddf5469cc8f48e", func := "spinet/spinetlaw07.StorePlays", spec := "storePlays", recurses := true, plainKeys := false, apart := false }
def StorePlaysSaid : Prop := storePlaysRow.holds Try.pinned (OpenSpec.ofChange storePlaysSpec)

/-- ITS FALSE NEIGHBOUR: 'it returns false'. Refute it at one input. -/
def storePlaysWrong : ChangeSpec := { name := "storePlays", fn := fun _ => fun
  | [d] => { results := [.lit (.bool false)], args := [d] }
  | _ => none }
def StorePlaysWrongFalsely : Prop := storePlaysRow.holds Try.pinned (OpenSpec.ofChange storePlaysWrong)

/-- 'spinetlaw07.StoreForks': WHATEVER THE INPUT: true; the input reads as it did. -/
def storeForksSpec : ChangeSpec := { name := "storeForks", fn := fun _ => fun
  | [d1, d2, d3] => { results := [.lit (.bool true)], args := [d1, d2, d3] }
  | _ => none }
def storeForksRow : OpenClaim := { program := "ytglichmmoibagaa", sum := "c6aee1b2f596a0f9365ee7030e8551d3d661175fb18e8bfb60ddf5469cc8f48e", func := "spinet/spinetlaw07.StoreForks", spec := "storeForks", recurses := true, plainKeys := false, apart := false }
def StoreForksSaid : Prop := storeForksRow.holds Try.pinned (OpenSpec.ofChange storeForksSpec)

/-- ITS FALSE NEIGHBOUR: 'it returns false'. Refute it at one input. -/
def storeForksWrong : ChangeSpec := { name := "storeForks", fn := fun _ => fun
  | [d1, d2, d3] => { results := [.lit (.bool false)], args := [d1, d2, d3] }
  | _ => none }
def StoreForksWrongFalsely : Prop := storeForksRow.holds Try.pinned (OpenSpec.ofChange storeForksWrong)

/- THE SECOND FORM. 'bulk': how many values and letters a reading holds, each counted each time it is reached (what is shared counts as often as it is met; a slice's spare places count too). A statement '..UptoSaid' is the law's where the arguments, and the package variables that the reading takes, are together of bulk at most 1048576: NARROWER than '..Said'. Prove '..Said' where nothing that the law and all that it calls make is longer than what came in: it says more and counts as full. Else prove '..UptoSaid'. A law counts once. -/
mutual
def uptoBulk {H : Type} : DataW H → Nat
  | .lit (.string bytes) => bytes.length + 1
  | .lit _ => 1
  | .nil => 1
  | .ptr d => uptoBulk d + 1
  | .slice elems spare => uptoBulkAll elems + uptoBulkAll spare + 1
  | .agg parts => uptoBulkAll parts + 1
  | .iface _ d => uptoBulk d + 1
  | .map entries => uptoBulkEntries entries + 1
  | .held _ => 1
def uptoBulkAll {H : Type} : List (DataW H) → Nat
  | [] => 0
  | d :: r => uptoBulk d + uptoBulkAll r
def uptoBulkEntries {H : Type} : List (Lit × DataW H) → Nat
  | [] => 0
  | x :: r => uptoBulkEntry x + uptoBulkEntries r
def uptoBulkEntry {H : Type} : Lit × DataW H → Nat
  | (.string bytes, d) => bytes.length + uptoBulk d + 1
  | (_, d) => uptoBulk d + 1
 end
def uptoSmall : (H : Type) → List (DataW H) → Bool := fun _ ds => decide (uptoBulkAll ds ≤ 1048576)
def OpenSpec.upto (s : _root_.Go.ChangeSpec) : _root_.Go.OpenSpec := { _root_.Go.OpenSpec.ofChange s with cond := some uptoSmall }

/-- 'spinetlaw07.StoreNames', WHERE WHAT IT READS IS OF BULK AT MOST 1048576: true; the input reads as it did. -/
def storeNamesUptoRow : OpenClaim := { program := "ytglichmmoibagaa", sum := "c6aee1b2f596a0f9365ee7030e8551d3d661175fb18e8bfb60ddf5469cc8f48e", func := "spinet/spinetlaw07.StoreNames", spec := "storeNames", plainKeys := false, apart := false, narrowed := true }
def StoreNamesUptoSaid : Prop := storeNamesUptoRow.holds Try.pinned (OpenSpec.upto storeNamesSpec)

/-- 'spinetlaw07.StoreLast', WHERE WHAT IT READS IS OF BULK AT MOST 1048576: true; the input reads as it did. -/
def storeLastUptoRow : OpenClaim := { program := "ytglichmmoibagaa", sum := "c6aee1b2f596a0f9365ee7030e8551d3d661175fb18e8bfb60ddf5469cc8f48e", func := "spinet/spinetlaw07.StoreLast", spec := "storeLast", plainKeys := false, apart := false, narrowed := true }
def StoreLastUptoSaid : Prop := storeLastUptoRow.holds Try.pinned (OpenSpec.upto storeLastSpec)

/-- 'spinetlaw07.StoreFull', WHERE WHAT IT READS IS OF BULK AT MOST 1048576: true; the input reads as it did. -/
def storeFullUptoRow : OpenClaim := { program := "ytglichmmoibagaa", sum := "c6aee1b2f596a0f9365ee7030e8551d3d661175fb18e8bfb60ddf5469cc8f48e", func := "spinet/spinetlaw07.StoreFull", spec := "storeFull", recurses := true, plainKeys := false, apart := false, narrowed := true }
def StoreFullUptoSaid : Prop := storeFullUptoRow.holds Try.pinned (OpenSpec.upto storeFullSpec)

/-- 'spinetlaw07.StorePlays', WHERE WHAT IT READS IS OF BULK AT MOST 1048576: true; the input reads as it did. -/
def storePlaysUptoRow : OpenClaim := { program := "ytglichmmoibagaa", sum := "c6aee1b2f596a0f9365ee7030e8551d3d661175fb18e8bfb60ddf5469cc8f48e", func := "spinet/spinetlaw07.StorePlays", spec := "storePlays", recurses := true, plainKeys := false, apart := false, narrowed := true }
def StorePlaysUptoSaid : Prop := storePlaysUptoRow.holds Try.pinned (OpenSpec.upto storePlaysSpec)

/-- 'spinetlaw07.StoreForks', WHERE WHAT IT READS IS OF BULK AT MOST 1048576: true; the input reads as it did. -/
def storeForksUptoRow : OpenClaim := { program := "ytglichmmoibagaa", sum := "c6aee1b2f596a0f9365ee7030e8551d3d661175fb18e8bfb60ddf5469cc8f48e", func := "spinet/spinetlaw07.StoreForks", spec := "storeForks", recurses := true, plainKeys := false, apart := false, narrowed := true }
def StoreForksUptoSaid : Prop := storeForksUptoRow.holds Try.pinned (OpenSpec.upto storeForksSpec)

end Rows
end Go.Proofs.Ytglichmmoibagaa
