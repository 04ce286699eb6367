/- A command as an argument: opened to its cells; it reads as it did wherever it is read again. -/
import Derived.Test.YtiblpkgbabjmfaaGreatDoorYD
import Derived.Test.YtiblpkgbabjmfaaGreatDoorYC
import Derived.ProofKit
import Derived.OpenShut
import Derived.WideKeyArgs
namespace Go.Proofs.YtiblpkgbabjmfaaGreatDoor
open Go.RowKit Go.ChangeShapes Go.WideShapes Go.ChangeAt

theorem cells26 : Tryz.prog.cellsOf 26 = 6 := by kernel_rfl
theorem cells24 : Tryz.prog.cellsOf 24 = 2 := by kernel_rfl
theorem cells3 : Tryz.prog.cellsOf 3 = 1 := by kernel_rfl
theorem cells9 : Tryz.prog.cellsOf 9 = 1 := by kernel_rfl

theorem wf_in {n : Int} (h : (Lit.int .i64 n).wf = true) : InInt n := by
  simp [Lit.wf, IntKind.min, IntKind.max, IntKind.bits, IntKind.signed] at h
  unfold InInt; omega

section
variable {H : Type} {enc : TypeId × Value → H} {w : World} {base : Nat} {spare : Nat → Bool} {held : Bool}
set_option maxRecDepth 100000 in
theorem open_cmd {r : Reach} {b0 : Nat} {v : Value} {d : DataW H} {p : List MemPlace} (hv : Value.okWide Tryz.prog w r b0 26 v) (h : DataW.Trod enc Tryz.prog w base spare held 26 v d p) :
    ∃ c : Cmd, v = cmdV c ∧ p = [] ∧ c.name.length ≤ maxLen ∧ c.text.length ≤ maxLen ∧ InInt c.fuel ∧ InInt c.words ∧ InInt c.stack := by
  obtain ⟨cs, rfl, hsz⟩ := okWide_struct Tryz.underlying26 hv
  obtain ⟨l⟩ := cs
  rw [cells26] at hsz
  have hs6 : l.length = 6 := hsz
  clear hsz
  match l, hs6 with
  | [c0, c1, c2, c3, c4, c5], _ =>
    obtain ⟨fuel, hf⟩ := h
    obtain ⟨xs, n, _, hx, _, hlen, hg⟩ := DataW.trod_struct Tryz.underlying26 hf
    match xs, hlen with
    | [y0, y1, y2, y3, y4], _ =>
      simp only [Prod.mk.injEq] at hx
      have g0 : DataW.trod enc Tryz.prog w base spare held n 3 (((#[c0, c1, c2, c3, c4, c5] : Array Value).toList.drop 0).take (Tryz.prog.cellsOf 3)) = some y0 := hg 0 _ rfl
      rw [cells3] at g0
      have g1 : DataW.trod enc Tryz.prog w base spare held n 9 (((#[c0, c1, c2, c3, c4, c5] : Array Value).toList.drop 1).take (Tryz.prog.cellsOf 9)) = some y1 := hg 1 _ rfl
      rw [cells9] at g1
      have g2 : DataW.trod enc Tryz.prog w base spare held n 9 (((#[c0, c1, c2, c3, c4, c5] : Array Value).toList.drop 2).take (Tryz.prog.cellsOf 9)) = some y2 := hg 2 _ rfl
      rw [cells9] at g2
      have g3 : DataW.trod enc Tryz.prog w base spare held n 3 (((#[c0, c1, c2, c3, c4, c5] : Array Value).toList.drop 3).take (Tryz.prog.cellsOf 3)) = some y3 := hg 3 _ rfl
      rw [cells3] at g3
      have g4 : DataW.trod enc Tryz.prog w base spare held n 24 (((#[c0, c1, c2, c3, c4, c5] : Array Value).toList.drop 4).take (Tryz.prog.cellsOf 24)) = some y4 := hg 4 _ rfl
      rw [cells24] at g4
      obtain ⟨i0, e0, z0, _⟩ := DataW.trod_int Tryz.underlying3 g0
      obtain ⟨s1, e1, z1, m1⟩ := DataW.trod_string Tryz.underlying9 g1
      obtain ⟨s2, e2, z2, m2⟩ := DataW.trod_string Tryz.underlying9 g2
      obtain ⟨i3, e3, z3, m3⟩ := DataW.trod_int Tryz.underlying3 g3
      obtain ⟨ws, k, _, hw, _, hwl, hwg⟩ := DataW.trod_struct Tryz.underlying24 g4
      match ws, hwl with
      | [u0, u1], _ =>
        have k0 : DataW.trod enc Tryz.prog w base spare held k 3 (((List.take 2 (List.drop 4 (#[c0, c1, c2, c3, c4, c5] : Array Value).toList)).drop 0).take (Tryz.prog.cellsOf 3)) = some u0 := hwg 0 _ rfl
        have k1 : DataW.trod enc Tryz.prog w base spare held k 3 (((List.take 2 (List.drop 4 (#[c0, c1, c2, c3, c4, c5] : Array Value).toList)).drop 1).take (Tryz.prog.cellsOf 3)) = some u1 := hwg 1 _ rfl
        rw [cells3] at k0 k1
        obtain ⟨i4, e4, z4, m4⟩ := DataW.trod_int Tryz.underlying3 k0
        obtain ⟨i5, e5, z5, m5⟩ := DataW.trod_int Tryz.underlying3 k1
        simp at e0 e1 e2 e3 e4 e5
        subst e0 e1 e2 e3 e4 e5
        refine ⟨⟨i0, s1.data.toList, s2.data.toList, i3, i4, i5⟩, ?_, ?_, by simpa using m1, by simpa using m2, wf_in m3, wf_in m4, wf_in m5⟩
        · obtain ⟨⟨l1⟩⟩ := s1
          obtain ⟨⟨l2⟩⟩ := s2
          rfl
        · rw [hx.2, z0, z1, z2, z3, hw, z4, z5]; rfl
theorem lt26 : 26 < Tryz.prog.types.size := of_decide_eq_true (by kernel_rfl)
theorem reads26 : Tryz.prog.readableRec 26 = true := by kernel_rfl
theorem laidOut_prog : laidOutB Tryz.prog = true := by rw [← pinned_prog]; exact closed2.1
theorem cmd_stays {W W' : World} {sp' : Nat → Bool} {v : Value} {d : DataW H} (h : DataW.Trod enc Tryz.prog W 0 (fun _ => true) true 26 v d []) : DataW.Trod enc Tryz.prog W' 0 sp' true 26 v d [] :=
  WideElems.Trod_stays laidOut_prog reads26 lt26 h (fun _ hp => by cases hp) (fun _ hp => by cases hp)
end
end Go.Proofs.YtiblpkgbabjmfaaGreatDoor
