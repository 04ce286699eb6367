/- The functions of the program that are answered in their place, by number. -/
import Derived.Test.YtiblpkgbabjmfaaGreatDoorKA
namespace Go.Proofs.YtiblpkgbabjmfaaGreatDoor
open Go
def places : List (Option String) := [
  (some "main.main"), (some "gosem.cut"), none, none, none, none, none, none, none, none, none, none, none, none, none, none, none, none, none, none,
  none, none, none, none, none, none, none, none, none, none, none, none, none, none, none, none, none, none, none, none,
  none, none, none, none, none, none, none, none, none, none, none, none, none, none, none, none, none, none, none, none,
  none, none, none, none, none, none, none, none, none, none, none, none, (some "internal/abi.NoEscape"), none, none, none, none, none, none, none,
  none, none, none, none, none, none, none, none, none, none, none, none, none, none, none, none, none, none, (some "internal/bytealg.IndexByteString"), none,
  none, none, none, none, none, none, none, none, none, none, (some "internal/bytealg.MakeNoZero"), none, none, none, none, none, none, none, none, none,
  none, none, none, none, none, none, none, none, none, none, none, none, none, none, none, none, none, none, none, none,
  none, none, none, none, none, none, none, none, none, none, none, none, none, none, none, none, none, none, none, none,
  none, none, none, none, none, none, none, none, none, none, none, none, none, none, none, none, none, none, none, none,
  none, none, none, none, none, none, none, none, none, none, none, none, none, none, none, none, none, none, none, none,
  none, none, none, none, none, none, none, none, none, none, none, none, none, none, none, none, none, none, none, none,
  none, none, none, none, none, none, none, none, none, none, none, none, none, none, none, none, none, none, none, none,
  none, none, none, none, none, none, none, none, none, none, none, none, none, none, none, none, none, none, none, none,
  none, none, none, none, none, none, none, none, none, none, none, none, none, none, none, none, none, none, none, none,
  none, none, none, none, none, none, none, none, none, none, none, none, none, none, none, none, none, none, none, none,
  none, none, none, none, none, none, none, none, none, none, none, none, none, none, none, none, none, none, none, none,
  none, none, none, none, none, none, none, none, none, none, none, none, none, none, none, none, none, none, none, none,
  none, none, none, none, none, none, none, none, none, none, none, none, none, none, none, none, none, none, none, none,
  none, none, none, none, none, none, none, none, none, none, none, none, none, none, none, none, none, none, none, none,
  none, none, none, none, none, none, none, none, none, none, none, none, none, none, none, none, none, none, none, none,
  none, none, none, none, none, none, none, none, none, none, none, none, none, none, none, none, none, none, none, none,
  none, none, none, none, none, none, none, none, none, none, none, none, none, none, none, none, none, none, none, none,
  none, none, none, none, none, none, none, none, none, none, none, none, none, none, none, none, none, none, none, none,
  none, none, none, none, none, none, none, none, none, none, none, none, none, none, none, none, none, none, none, none,
  none, none, none, none, none, none, none, none, none, none, none, none, none, none, none, none, none, none, none, none,
  none, none, none, none, none, none, none, none, none, none, none, none, none, none, none, none, none, none, none, none,
  none, none, none, none, none, none, none, none, none, none, none, none, none, none, none, none, none, none, none, none,
  none, none, none, none, none, none, none, none, none, none, none, none, none, none, none, none, none, none, none, none,
  none, none, none, none, none, none, none, none, none, none, none, none, none, none, none, none, none, none, none, none,
  none, none, none, none, none, none, none, none, none, none, none, none, none, none, none, none, none, none, none, none,
  none, none, none, none, none, none, none, none, none, none, none, none, none, none, none, none, none, none, none, none,
  none, none, none, none, none, none, none, (some "internal/bytealg.abigen_runtime_cmpstring"), none, none, none, (some "(runtime.boundsError).Error"), (some "(runtime.boundsError).RuntimeError"), (some "(runtime.errorString).Error"), (some "(runtime.errorString).RuntimeError"), (some "(runtime.plainError).Error"), (some "(runtime.plainError).RuntimeError"), (some "(runtime.errorAddressString).Error"), (some "(runtime.errorAddressString).RuntimeError"), (some "(*runtime.TypeAssertionError).Error"),
  (some "(*runtime.TypeAssertionError).RuntimeError"), (some "(*runtime.PanicNilError).Error"), (some "(*runtime.PanicNilError).RuntimeError"), (some "(*internal/abi.Type).Align"), (some "(internal/runtime/maps.unhashableTypeError).Error"), (some "(internal/runtime/maps.unhashableTypeError).RuntimeError"), (some "(spinet/api.Errno).Error"), (some "(*spinet/farm.Farm).Store"), (some "(*strings.Builder).Reset"), (some "(internal/strconv.Error).Error"), (some "(*strconv.NumError).Error"), (some "(*spinet/rider.Reader).At"), none, none, none, (some "(*errors.errorString).Error"), none, none, none, (some "(internal/abi.Kind).String"),
  (some "var's door: unicode.White_Space holds what its initialiser lays, and nothing in the loaded text writes it or what it leads to (look 11-elder)"), (some "var's door: unicode._White_Space holds what its initialiser lays, and nothing in the loaded text writes it or what it leads to (look 11-elder)"), (some "var's door: gosem.cut.vars holds initialisers alone; see the manifest's row cutvarsword (look 11, test files too)"), (some "var's door: internal/strconv.uint64pow10 is laid by its own initialiser, plain data (look 11)"), (some "var's door: math/bits.deBruijn32tab is laid by its own initialiser, plain data (look 11)"), (some "var's door: math/bits.deBruijn64tab is laid by its own initialiser, plain data (look 11)"), (some "var's door: strconv.ErrRange is laid by its own call of errors.New on one literal (look 11)"), (some "var's door: strconv.ErrSyntax is laid by its own call of errors.New on one literal (look 11)"), (some "var's door: strings.asciiSpace is laid by its own initialiser, plain data (look 11)"), (some "var's door: the look of gosem.cut.vars went over the folder that the caller named as the repository's root (look 11)"), (some "var's door: unicode.CaseRanges is laid by its text alone (pinned 1)"), (some "var's door: unicode.White_Space is laid by its own initialiser, on the list of Go's own tables (list 10)"), (some "var's door: unicode._White_Space is laid by its own initialiser, on the list of Go's own tables (list 10)"), (some "var's door: unicode/utf8.acceptRanges is laid by its own initialiser, plain data (look 11)"), (some "var's door: unicode/utf8.first is laid by its text alone (pinned 1)"), none]
set_option maxRecDepth 100000 in
theorem places_eq : Tryz.prog.funcs.toList.map (fun fn => if fn.ours || fn.body.isNone || fn.name == "runtime.NumGoroutine" then some fn.name else none) = places := by kernel_rfl
def readsAt : List (Option String) := [
  none, none, none, none, none, none, none, none, none, none, none, none, none, none, none, none, none, none, none, none, none, none, none, none, none, none, none, none, none, none,
  none, none, none, none, none, none, none, none, none, none, none, none, none, none, none, none, none, none, none, none, none, none, none, none, none, none, none, none, none, none,
  none, none, none, none, none, none, none, none, none, none, none, none, none, none, none, none, none, none, none, none, none, none, none, none, none, none, none, none, none, none,
  none, none, none, none, none, none, none, none, none, none, none, none, none, none, none, none, none, none, none, none, none, none, none, none, none, none, none, none, none, none,
  none, none, none, none, none, none, none, none, none, none, none, none, none, none, none, none, none, none, none, none, none, none, none, none, none, none, none, none, none, none,
  none, none, none, none, none, none, none, none, none, none, none, none, none, none, none, none, none, none, none, none, none, none, none, none, none, none, none, none, none, none,
  none, none, none, none, none, none, none, none, none, none, none, none, none, none, none, none, none, none, none, none, none, none, none, none, none, none, none, none, none, none,
  none, none, none, none, none, none, none, none, none, none, none, none, none, none, none, none, none, none, none, none, none, none, none, none, none, none, none, none, none, none,
  none, none, none, none, none, none, none, none, none, none, none, none, none, none, none, none, none, none, none, none, none, none, none, none, none, none, none, none, none, none,
  none, none, none, none, none, none, none, none, none, none, none, none, none, none, none, none, none, none, none, none, none, none, none, none, none, none, none, none, none, none,
  none, none, none, none, none, none, none, none, none, none, none, none, none, none, none, none, none, none, none, none, none, none, none, none, none, none, none, none, none, none,
  none, none, none, none, none, none, none, none, none, none, none, none, none, none, none, none, none, none, none, none, none, none, none, none, none, none, none, none, none, none,
  none, none, none, none, none, none, none, none, none, none, none, none, none, none, none, none, none, none, none, none, none, none, none, none, none, none, none, none, none, none,
  none, none, none, none, none, none, none, none, none, none, none, none, none, none, none, none, none, none, none, none, none, none, none, none, none, none, none, none, none, none,
  none, none, none, none, none, none, none, none, none, none, none, none, none, none, none, none, none, none, none, none, none, none, none, none, none, none, none, none, none, none,
  none, none, none, none, none, none, none, none, none, none, none, none, none, none, none, none, none, none, none, none, none, none, none, none, none, none, none, none, none, none,
  none, none, none, none, none, none, none, none, none, none, none, none, none, none, none, none, none, none, none, none, none, none, none, none, none, none, none, none, none, none,
  none, none, none, none, none, none, none, none, none, none, none, none, none, none, none, none, none, none, none, none, none, none, none, none, none, none, none, none, none, none,
  none, none, none, none, none, none, none, none, none, none, none, none, none, none, none, none, none, none, none, none, none, none, none, none, none, none, none, none, none, none,
  none, none, none, none, none, none, none, none, none, none, none, none, none, none, none, none, none, none, none, none, none, none, none, none, none, none, none, none, none, none,
  none, none, none, none, none, none, none, none, none, none, none, none, none, none, none, none, none, none, none, none, none, none, none, none, none, none, none, none, none, none,
  none, none, none, none, none, none, none, none, none, none, none, none, none, none, none, none, none, none, none, none, none, none, none, none, none, none, none, none, none, none,
  none, none, none, none, none, none, none, none, none, none, none, none, none, none, none, none]
set_option maxRecDepth 100000 in
theorem reads_eq : Tryz.prog.funcs.toList.map (fun fn => if fn.body.isNone then entryReads.lookup fn.name else none) = readsAt := by kernel_rfl
end Go.Proofs.YtiblpkgbabjmfaaGreatDoor
