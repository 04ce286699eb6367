/- The contract of Fork: another store, of the call's own, with the same files. -/
import Derived.Test.YtglichmmoibagaaN
namespace Go.Proofs.Ytglichmmoibagaa
open Go.RowKit
set_option linter.unusedVariables false

/-- What has been gone through: entries of the map, each once, and the files that they are. -/
structure GoneF (es : Array MapEntry) (seen : Array Nat) (fs : Files) : Prop where
  ex : ∃ l : List MapEntry, seen = (l.map (·.born)).toArray ∧ (∀ e ∈ l, e ∈ es.toList) ∧ (l.map (·.born)).Nodup ∧ l.map (fun e => (e.key, e.val)) = fs.map (fun x => (keyV x.1, Value.string x.2))

theorem GoneF.nil (es : Array MapEntry) : GoneF es #[] [] := ⟨⟨[], rfl, by simp, by simp, rfl⟩⟩

theorem GoneF.names {es : Array MapEntry} {seen : Array Nat} {fs : Files} (h : GoneF es seen fs) : Gone es seen (fs.map (·.1)) := by
  obtain ⟨l, h0, h1, h2, h3⟩ := h
  refine ⟨l, h0, h1, h2, ?_⟩
  have := congrArg (List.map Prod.fst) h3
  simpa [List.map_map, Function.comp_def] using this

theorem GoneF.fresh {es : Array MapEntry} {clock : Nat} {m : Files} {seen : Array Nat} {fs : Files} (h : GoneF es seen fs) (E : EntOf es clock m) (hd : ∀ x ∈ fs, nameL x.1 = true) {e : MapEntry} {n : List UInt8} (he : e ∈ es.toList)
    (hs : seen.contains e.born = false) (hn : nameL n = true) (hk : e.key = keyV n) : ∀ x ∈ fs, x.1 ≠ n := by
  obtain ⟨l, rfl, h1, _, h3⟩ := h
  intro x hx e1
  have hm : (keyV x.1, Value.string x.2) ∈ l.map (fun e => (e.key, e.val)) := by rw [h3]; exact List.mem_map_of_mem (f := fun x : List UInt8 × ByteArray => (keyV x.1, Value.string x.2)) hx
  obtain ⟨e', he', hp⟩ := List.mem_map.1 hm
  simp only [Prod.mk.injEq] at hp
  have hkk : e'.key = e.key := by rw [hp.1, hk, e1]
  have hkeys : (es.toList.map (·.key)).Nodup := by
    have h4 : es.toList.map (·.key) = (m.map (·.1)).map keyV := by
      have := congrArg (List.map Prod.fst) E.eq
      simpa [List.map_map, Function.comp_def] using this
    rw [h4]
    exact nodup_keys _ (by intro x hx; obtain ⟨z, hz, rfl⟩ := List.mem_map.1 hx; exact E.names z hz) E.nodup
  have key : ∀ l : List MapEntry, (l.map (·.key)).Nodup → e' ∈ l → e ∈ l → e' = e := by
    intro l
    induction l with
    | nil => intro _ h; cases h
    | cons z l ih =>
      intro hd hx hy
      simp only [List.map_cons, List.nodup_cons] at hd
      rcases List.mem_cons.1 hx with h1 | h1
      · rcases List.mem_cons.1 hy with h2 | h2
        · rw [h1, h2]
        · have h3 := List.mem_map_of_mem (f := fun z : MapEntry => z.key) h2
          rw [← hkk, h1] at h3
          exact absurd h3 hd.1
      · rcases List.mem_cons.1 hy with h2 | h2
        · have h3 := List.mem_map_of_mem (f := fun z : MapEntry => z.key) h1
          rw [hkk, h2] at h3
          exact absurd h3 hd.1
        · exact ih hd.2 h1 h2
  have := key _ hkeys (h1 e' he') he
  subst this
  have h5 : (Array.contains (l.map (·.born)).toArray e'.born) = true := by
    simp
    exact ⟨e', he', rfl⟩
  rw [h5] at hs
  cases hs

theorem GoneF.step {es : Array MapEntry} {seen : Array Nat} {fs : Files} (h : GoneF es seen fs) {e : MapEntry} {n : List UInt8} {t : ByteArray} (he : e ∈ es.toList) (hn : seen.contains e.born = false) (hk : e.key = keyV n) (hv : e.val = .string t) :
    GoneF es (seen.push e.born) (fs ++ [(n, t)]) := by
  obtain ⟨l, rfl, h1, h2, h3⟩ := h
  refine ⟨l ++ [e], by simp, ?_, ?_, by simp [h3, hk, hv]⟩
  · intro x hx
    rcases List.mem_append.1 hx with hx | hx
    · exact h1 x hx
    · simp at hx; subst hx; exact he
  · rw [List.map_append, List.nodup_append]
    refine ⟨h2, by simp, ?_⟩
    intro x hx y hy e1
    simp at hy
    rw [e1, hy] at hx
    have : (Array.contains (l.map (·.born)).toArray e.born) = true := by simpa using hx
    rw [this] at hn; cases hn

theorem nodup_files {m : Files} (h : (m.map (·.1)).Nodup) : m.Nodup := nodup_of_map _ _ h

theorem GoneF.all {es : Array MapEntry} {clock : Nat} {m : Files} {seen : Array Nat} {fs : Files} (h : GoneF es seen fs) (E : EntOf es clock m) (hd : ∀ x ∈ fs, nameL x.1 = true) (hall : ∀ e ∈ es.toList, seen.contains e.born = true) :
    fs.Perm m := by
  have hp := h.names.all E (by intro x hx; obtain ⟨z, hz, rfl⟩ := List.mem_map.1 hx; exact hd z hz) hall
  have hn : (fs.map (·.1)).Nodup := hp.nodup_iff.2 E.nodup
  obtain ⟨l, rfl, h1, _, h3⟩ := h
  have hsub : ∀ x ∈ fs, x ∈ m := by
    intro x hx
    have hm : (keyV x.1, Value.string x.2) ∈ l.map (fun e => (e.key, e.val)) := by rw [h3]; exact List.mem_map_of_mem (f := fun x : List UInt8 × ByteArray => (keyV x.1, Value.string x.2)) hx
    obtain ⟨e', he', hp'⟩ := List.mem_map.1 hm
    have h4 : (e'.key, e'.val) ∈ m.map (fun x => (keyV x.1, Value.string x.2)) := by rw [← E.eq]; exact List.mem_map_of_mem (f := fun e : MapEntry => (e.key, e.val)) (h1 e' he')
    rw [hp'] at h4
    obtain ⟨y, hy, e2⟩ := List.mem_map.1 h4
    simp only [Prod.mk.injEq, Value.string.injEq] at e2
    have e3 := keyV_inj (E.names y hy) (hd x hx) e2.1
    have e4 : y = x := Prod.ext e3 e2.2
    exact e4 ▸ hy
  refine (List.perm_ext_iff_of_nodup (nodup_files hn) (nodup_files E.nodup)).2 (fun y => ⟨hsub y, fun hy => ?_⟩)
  have h6 : y.1 ∈ fs.map (·.1) := hp.mem_iff.2 (List.mem_map_of_mem (f := fun x : List UInt8 × ByteArray => x.1) hy)
  obtain ⟨x, hx, e5⟩ := List.mem_map.1 h6
  have key : ∀ l : Files, (l.map (·.1)).Nodup → x ∈ l → y ∈ l → x = y := by
    intro l
    induction l with
    | nil => intro _ h; cases h
    | cons z l ih =>
      intro hd hx hy
      simp only [List.map_cons, List.nodup_cons] at hd
      rcases List.mem_cons.1 hx with h1 | h1
      · rcases List.mem_cons.1 hy with h2 | h2
        · rw [h1, h2]
        · have h3 := List.mem_map_of_mem (f := fun z : List UInt8 × ByteArray => z.1) h2
          rw [← e5, h1] at h3
          exact absurd h3 hd.1
      · rcases List.mem_cons.1 hy with h2 | h2
        · have h3 := List.mem_map_of_mem (f := fun z : List UInt8 × ByteArray => z.1) h1
          rw [e5, h2] at h3
          exact absurd h3 hd.1
        · exact ih hd.2 h1 h2
  exact key m E.nodup (hsub x hx) hy ▸ hx

/-- The loop's relation: block it is the iterator, x the new store, rx its map. -/
def ForkRel (w : World) (r clock : Nat) (es : Array MapEntry) (wr : World) : Prop :=
  ∃ seen fs es' clock', GoneF es seen fs ∧ (∀ x ∈ fs, nameL x.1 = true) ∧ wr.heap[w.heap.size + 2]? = some (.mapIter (some r) clock seen clock) ∧ wr.heap[w.heap.size + 1]? = some (.cells #[.map (some w.heap.size)] 51 (0, 0)) ∧
    wr.heap[w.heap.size]? = some (.map es' clock') ∧ EntOf es' clock' fs ∧ Below w.heap.size w wr

/-- What Fork answers: a store with the same files, whatever their order, in new memory; the old one is as it was. -/
def ForkPost (w : World) (m : Files) (e : Ending) (w' : World) : Prop :=
  ∃ x r m', e = .returned (.pointer (some ⟨x, 0, none⟩)) ∧ IsStore w' x (some r) m' ∧ m'.Perm m ∧ w.heap.size ≤ x ∧ w.heap.size ≤ r ∧ Below w.heap.size w w'

theorem fork_start (w : World) (r clock : Nat) (es : Array MapEntry) :
    ForkRel w r clock es (((w.alloc (.map #[] 0)).alloc (.cells #[.map (some w.heap.size)] 51)).alloc (.mapIter (some r) clock #[] clock)) := by
  refine ⟨#[], [], #[], 0, GoneF.nil es, by simp, ?_, ?_, ?_, EntOf.nil, ((((Below.refl w.heap.size w).alloc (Nat.le_refl _) _).alloc (by simp) _).alloc (by simp; omega) _)⟩
  · have := heap_alloc_new ((w.alloc (.map #[] 0)).alloc (.cells #[.map (some w.heap.size)] 51)) (.mapIter (some r) clock #[] clock)
    simpa using this
  · rw [WW_old (by simp)]
    have := heap_alloc_new (w.alloc (.map #[] 0)) (.cells #[.map (some w.heap.size)] 51)
    simpa using this
  · rw [WW_old (by simp; omega), WW_old (by simp)]
    exact heap_alloc_new _ _

theorem fork_done {w wr : World} {clock clock' : Nat} {es es' : Array MapEntry} {m fs : Files} {seen : Array Nat} (E : EntOf es clock m) (hG : GoneF es seen fs) (hnm : ∀ x ∈ fs, nameL x.1 = true) (hall : ∀ e ∈ es.toList, seen.contains e.born = true)
    (h1 : wr.heap[w.heap.size + 1]? = some (.cells #[.map (some w.heap.size)] 51 (0, 0))) (h2 : wr.heap[w.heap.size]? = some (.map es' clock')) (E' : EntOf es' clock' fs) (hb : Below w.heap.size w wr) :
    ForkPost w m (.returned (.pointer (some ⟨w.heap.size + 1, 0, none⟩))) wr :=
  ⟨_, w.heap.size, fs, rfl, ⟨h1, es', clock', h2, E'⟩, hG.all E hnm hall, by omega, Nat.le_refl _, hb⟩

/-- Behind the iterator's step. -/
theorem fork_laid {w wr : World} {r clock clock' n : Nat} {o : Obj} {es es' : Array MapEntry} (h1 : wr.heap[w.heap.size + 2]? ≠ none) (h2 : wr.heap[w.heap.size + 1]? = some (.cells #[.map (some w.heap.size)] 51 (0, 0))) (h3 : wr.heap[w.heap.size]? = some (.map es' clock'))
    (hr : wr.heap[r]? = some (.map es clock)) (hrw : r < w.heap.size) (hb : Below w.heap.size w wr) :
    (setIter (wr.drewN n) (w.heap.size + 2) o).heap[w.heap.size + 2]? = some o ∧ (setIter (wr.drewN n) (w.heap.size + 2) o).heap[w.heap.size + 1]? = some (.cells #[.map (some w.heap.size)] 51 (0, 0)) ∧ (setIter (wr.drewN n) (w.heap.size + 2) o).heap[w.heap.size]? = some (.map es' clock') ∧
    (setIter (wr.drewN n) (w.heap.size + 2) o).heap[r]? = some (.map es clock) ∧ Below w.heap.size w (setIter (wr.drewN n) (w.heap.size + 2) o) := by
  have hlt : w.heap.size + 2 < wr.heap.size := by
    rcases Nat.lt_or_ge (w.heap.size + 2) wr.heap.size with h | h
    · exact h
    · exact absurd (Array.getElem?_eq_none h) h1
  exact ⟨setIter_same hlt, (setIter_other (by omega)).trans h2, (setIter_other (by omega)).trans h3, (setIter_other (by omega)).trans hr, setIter_below (w := wr.drewN n) ⟨hb.os, hb.tape, hb.output, hb.size, hb.block⟩ (by omega) o⟩

/-- Behind the key's block. -/
theorem fork_laid2 {w wr : World} {r clock clock' : Nat} {o : Obj} {es es' : Array MapEntry} {z kv : Array Value} (h1 : wr.heap[w.heap.size + 2]? = some o) (h2 : wr.heap[w.heap.size + 1]? = some (.cells #[.map (some w.heap.size)] 51 (0, 0))) (h3 : wr.heap[w.heap.size]? = some (.map es' clock'))
    (hr : wr.heap[r]? = some (.map es clock)) (hb : Below w.heap.size w wr) :
    ((wr.alloc (.cells z 53)).setRow wr.heap.size kv).heap[w.heap.size + 2]? = some o ∧ ((wr.alloc (.cells z 53)).setRow wr.heap.size kv).heap[w.heap.size + 1]? = some (.cells #[.map (some w.heap.size)] 51 (0, 0)) ∧ ((wr.alloc (.cells z 53)).setRow wr.heap.size kv).heap[w.heap.size]? = some (.map es' clock') ∧
    ((wr.alloc (.cells z 53)).setRow wr.heap.size kv).heap[r]? = some (.map es clock) ∧ Below w.heap.size w ((wr.alloc (.cells z 53)).setRow wr.heap.size kv) ∧ ((wr.alloc (.cells z 53)).setRow wr.heap.size kv).heap[wr.heap.size]? = some (.cells kv 53 (0, 0)) := by
  have lt : ∀ {j : Nat} {o : Obj}, wr.heap[j]? = some o → j < wr.heap.size := fun hj => (Array.getElem?_eq_some_iff.1 hj).1
  have old : ∀ {j : Nat} {o : Obj}, wr.heap[j]? = some o → ((wr.alloc (.cells z 53)).setRow wr.heap.size kv).heap[j]? = some o := fun {j o} hj => by
    rw [setRow_other _ _ _ _ (by have := lt hj; omega), WW_old (lt hj)]; exact hj
  exact ⟨old h1, old h2, old h3, old hr, below_setRow (hb.alloc hb.size _) hb.size _, setRow_heap _ _ _ _ _ _ (heap_alloc_new _ _)⟩

/-- The round's end. -/
theorem fork_step {w wr wr3 : World} {r clock clock2 b : Nat} {es es2 : Array MapEntry} {seen : Array Nat} {fs : Files} {nm : List UInt8} {t : ByteArray}
    (hgs : GoneF es (seen.push b) (fs ++ [(nm, t)])) (hnm : ∀ x ∈ fs, nameL x.1 = true) (hok : nameL nm = true) (hi : wr.heap[w.heap.size + 2]? = some (.mapIter (some r) clock seen clock)) (m2 : wr3.heap[w.heap.size + 2]? = some (.mapIter (some r) clock (seen.push b) clock))
    (m1 : wr3.heap[w.heap.size + 1]? = some (.cells #[.map (some w.heap.size)] 51 (0, 0))) (m3 : wr3.heap[w.heap.size]? ≠ none) (m5 : Below w.heap.size w wr3) (hfr : ∀ x ∈ fs, x.1 ≠ nm) (E2 : EntOf es2 clock2 (Files.put fs nm t)) :
    ForkRel w r clock es (setMap wr3.drew w.heap.size es2 clock2) ∧ es.size - met (setMap wr3.drew w.heap.size es2 clock2) (w.heap.size + 2) < es.size - met wr (w.heap.size + 2) := by
  have h1 : (setMap wr3.drew w.heap.size es2 clock2).heap[w.heap.size + 2]? = some (.mapIter (some r) clock (seen.push b) clock) := (setMap_other (by omega)).trans m2
  have h2 := hgs.names.size.2
  have hlt : w.heap.size < wr3.heap.size := by
    rcases Nat.lt_or_ge w.heap.size wr3.heap.size with h | h
    · exact h
    · exact absurd (Array.getElem?_eq_none h) m3
  rw [Files.put_new hfr] at E2
  refine ⟨⟨seen.push b, fs ++ [(nm, t)], es2, clock2, hgs, ?_, h1, (setMap_other (by omega)).trans m1, setMap_same hlt, E2, ?_⟩, ?_⟩
  · intro d hd
    rcases List.mem_append.1 hd with h | h
    · exact hnm d h
    · simp at h; subst h; exact hok
  · have := setMap_only (S := fun k => w.heap.size ≤ k) (Only.of_below m5).drew w.heap.size es2 clock2 (fun h => Nat.le_refl _)
    exact ⟨this.os, this.tape, this.output, this.size, fun k hk => this.block k hk (by omega)⟩
  · simp [met, h1, hi] at h2 ⊢
    omega

set_option maxHeartbeats 4000000 in
theorem fork_some {w : World} {b r : Nat} {m : Files} (hs : IsStore w b (some r) m) (hm : m.length ≤ 64) :
    Calls Try.prog 21 #[.pointer (some ⟨b, 0, none⟩)] w (ForkPost w m) := by
  obtain ⟨hbk, es, clock, hr, hE⟩ := hs
  have hcb : w.cell? ⟨b, 0, none⟩ = some (.map (some r)) := by
    rw [cell_of_row w b 0 _ _ _ hbk]; rfl
  have hr0 : r < w.heap.size := (Array.getElem?_eq_some_iff.1 hr).1
  have hb0 : b < w.heap.size := (Array.getElem?_eq_some_iff.1 hbk).1
  have hmm := @run_makeMap Try.prog
  have hra : ((w.alloc (.map #[] 0)).alloc (.cells #[.map (some w.heap.size)] 51)).heap[r]? = some (.map es clock) := by rw [WW_old (by simp; omega), WW_old hr0]; exact hr
  have hrange : (Instr.range 49 (.map (some r))).run Try.prog ((w.alloc (.map #[] 0)).alloc (.cells #[.map (some w.heap.size)] 51)) = .ok (.pointer (some ⟨w.heap.size + 2, 0, none⟩)) (((w.alloc (.map #[] 0)).alloc (.cells #[.map (some w.heap.size)] 51)).alloc (.mapIter (some r) clock #[] clock)) := by
    simp [Instr.range, run_underlying Try.underlying49, run_getObj_map hra]
  have HE := Lib.hid hE
  have HR := Lib.hid hr
  have HBK := Lib.hid hbk
  have HR0 := Lib.hid hr0
  clear hE hr hbk hr0 hra
  go_enter Try.func21, Try.ntmps21
  go_wp2_with fail
  clear hrange hcb hmm
  go_loopw [5] (fun _ wr => ForkRel w r clock es wr) (fun _ wr => es.size - met wr (w.heap.size + 2))
  case atStart => exact fork_start w r clock es
  case round =>
    obtain ⟨seen, fs, es', clock', hG, hnm, hi, hx, hm2, hE2, hbel⟩ := hrel
    have hr' : wr.heap[r]? = some (.map es clock) := (hbel.block r HR0.out).trans HR.out
    have hborn := HE.out.born
    have HG := Lib.hid hG
    have HNM := Lib.hid hnm
    have HI := Lib.hid hi
    have HX := Lib.hid hx
    have HM2 := Lib.hid hm2
    have HE2 := Lib.hid hE2
    have HRr := Lib.hid hr'
    have HB := Lib.hid hborn
    have HBEL := Lib.hid hbel
    clear hG hnm hi hx hm2 hE2 hr' hborn hbel
    go_wp2_with (first | (refine wpList_next_map rfl (.tmp 15) rfl rfl HI.out HRr.out HB.out ?hend ?hmore))
    case hend =>
      intro hall
      have hall' : ∀ e ∈ es.toList, seen.contains e.born = true := by intro e he; simpa using hall e (by simpa using he)
      have HALL := Lib.hid hall'
      clear hall hall'
      go_wp2_with fail
      go_ret
      exact fork_done HE.out HG.out HNM.out HALL.out HX.out HM2.out HE2.out HBEL.out
    case hmore =>
      intro e he hs n
      have he' : e ∈ es.toList := by simpa using he
      have hs' : seen.contains e.born = false := by simpa using hs
      obtain ⟨nm, t, hnmok, hkey, hval⟩ := HE.out.entry he'
      have hgs := HG.out.step he' hs' hkey hval
      have hfr := HG.out.fresh HE.out HNM.out he' hs' hnmok hkey
      have L := fork_laid (w := w) (n := n) (o := .mapIter (some r) clock (seen.push e.born) clock) (by rw [HI.out]; simp) HX.out HM2.out HRr.out HR0.out HBEL.out
      have HE' := Lib.hid he'
      have HGS := Lib.hid hgs
      have HFR := Lib.hid hfr
      have HNMOK := Lib.hid hnmok
      clear he he' hs hs' hgs hnmok hfr
      revert L
      generalize setIter (wr.drewN n) (w.heap.size + 2) (.mapIter (some r) clock (seen.push e.born) clock) = wr2
      rintro ⟨l1, l2, l3, l4, l5⟩
      have L1 := Lib.hid l1
      have L2 := Lib.hid l2
      have L3 := Lib.hid l3
      have L4 := Lib.hid l4
      have L5 := Lib.hid l5
      clear l1 l2 l3 l4 l5
      have hk1 := keyL_one nm
      have hkl := keyL_length nm
      have hkey' : e.key = .agg (keyL nm).toArray := hkey
      have hkv : keyV nm = .agg (keyL nm).toArray := rfl
      generalize keyL nm = kv at *
      have HKV := Lib.hid hkv
      have HK1 := Lib.hid hk1
      have HKL := Lib.hid hkl
      clear hk1 hkl hkey hkv
      go_upto_region 7 with (first | (refine wpList_entry_map rfl (.tmp 15) rfl rfl L1.out L4.out HE'.out HE.out.apart ?_; rw [hkey', hval]) | (refine wpList_store_row rfl 53 (.tmp 4) (.tmp 19) rfl _ rfl 53 kv.toArray _ rfl (heap_alloc_new _ _) (by rw [List.size_toArray, HKL.out]; rfl) (by rw [List.size_toArray, HKL.out]; kernel_rfl) (by simpa using HK1.out) ?_))
      have M := fork_laid2 (z := zero24) (kv := kv.toArray) L1.out L2.out L3.out L4.out L5.out
      simp only [zero24, List.replicate] at M
      clear L1 L2 L3 L4 L5 hval hkey'
      revert M
      generalize World.setRow _ wr2.heap.size kv.toArray = wr3
      generalize wr2.heap.size = g
      rintro ⟨m1, m2, m3, m4, m5, m6⟩
      have hcx : wr3.drew.cell? ⟨w.heap.size + 1, 0, none⟩ = some (.map (some w.heap.size)) := by
        show wr3.cell? _ = _
        rw [cell_of_row wr3 _ 0 _ _ _ m2]; rfl
      have M1 := Lib.hid m1
      have M2 := Lib.hid m2
      have M3 := Lib.hid m3
      have M4 := Lib.hid m4
      have M5 := Lib.hid m5
      have M6 := Lib.hid m6
      clear m1 m2 m3 m4 m5 m6
      refine wp_region_still_tail 6 (by kernel_rfl) (by kernel_rfl) ?_
      simp only [List.take_succ_cons, List.take_zero, List.drop_succ_cons, List.drop_zero]
      change wpStill _ _ wr3.drew (fun a' => wpList _ _ _ _ a' wr3.drew) _ _
      still_step
      still_step
      still_step
      still_step
      refine wpStill_step (fun K hK => ?_)
      refine still_load_row rfl 53 (.tmp 4) rfl g rfl 53 kv.toArray (0, 0) _ M6.out Try.underlying53 rfl (by rw [List.size_toArray, HKL.out]; kernel_rfl) ?_
      refine hK _ ?_
      clear hK K
      still_step
      refine wpStill_nil ?_
      refine wpList_put_map rfl (.tmp 24) (.tmp 25) (.tmp 26) rfl w.heap.size nm t rfl (by rw [HKV.out]; rfl) rfl M3.out HE2.out HNMOK.out ?_
      intro es2 clock2 E2
      have hst := fork_step HGS.out HNM.out HNMOK.out HI.out M1.out M2.out (by rw [M3.out]; simp) M5.out HFR.out E2
      obtain ⟨st1, st2⟩ := hst
      have ST1 := Lib.hid st1
      have ST2 := Lib.hid st2
      clear st1 st2
      simp only [Act.put]
      go_wp2
      go_roundw
      case rel => exact ST1.out
      case measure => exact ST2.out

set_option maxHeartbeats 1000000 in
theorem fork_none {w : World} {b : Nat} (hs : IsStore w b none []) : Calls Try.prog 21 #[.pointer (some ⟨b, 0, none⟩)] w (ForkPost w []) := by
  obtain ⟨hbk, _⟩ := hs
  have hcb : w.cell? ⟨b, 0, none⟩ = some (.map none) := by
    rw [cell_of_row w b 0 _ _ _ hbk]; rfl
  have hb0 : b < w.heap.size := (Array.getElem?_eq_some_iff.1 hbk).1
  have hmm := @run_makeMap Try.prog
  have hrange : (Instr.range 49 (.map none)).run Try.prog ((w.alloc (.map #[] 0)).alloc (.cells #[.map (some w.heap.size)] 51)) = .ok (.pointer (some ⟨w.heap.size + 2, 0, none⟩)) (((w.alloc (.map #[] 0)).alloc (.cells #[.map (some w.heap.size)] 51)).alloc (.mapIter none 0 #[] 0)) := by
    simp [Instr.range, run_underlying Try.underlying49]
  have hnext : ∀ ty, (Instr.next (.pointer (some ⟨w.heap.size + 2, 0, none⟩)) false ty).run Try.prog (((w.alloc (.map #[] 0)).alloc (.cells #[.map (some w.heap.size)] 51)).alloc (.mapIter none 0 #[] 0)) = .ok (.tuple #[.bool false]) (((w.alloc (.map #[] 0)).alloc (.cells #[.map (some w.heap.size)] 51)).alloc (.mapIter none 0 #[] 0)) := by
    intro ty
    have h := heap_alloc_new ((w.alloc (.map #[] 0)).alloc (.cells #[.map (some w.heap.size)] 51)) (.mapIter none 0 #[] 0)
    have e : ((w.alloc (.map #[] 0)).alloc (.cells #[.map (some w.heap.size)] 51)).heap.size = w.heap.size + 2 := by simp
    rw [e] at h
    have hg := run_getObj_iter (P := Try.prog) h
    simp only [Instr.next, Sem.run_bind, hg, Result.andThen_ok, Sem.run_pure]
  have hpost : ForkPost w [] (.returned (.pointer (some ⟨w.heap.size + 1, 0, none⟩))) (((w.alloc (.map #[] 0)).alloc (.cells #[.map (some w.heap.size)] 51)).alloc (.mapIter none 0 #[] 0)) := by
    refine ⟨_, w.heap.size, [], rfl, ⟨?_, #[], 0, ?_, EntOf.nil⟩, List.Perm.refl _, by omega, Nat.le_refl _, ((((Below.refl w.heap.size w).alloc (Nat.le_refl _) _).alloc (by simp) _).alloc (by simp; omega) _)⟩
    · rw [WW_old (by simp)]
      have := heap_alloc_new (w.alloc (.map #[] 0)) (.cells #[.map (some w.heap.size)] 51)
      simpa using this
    · rw [WW_old (by simp; omega), WW_old (by simp)]
      exact heap_alloc_new _ _
  have HP := Lib.hid hpost
  clear hbk hpost
  go_enter Try.func21, Try.ntmps21
  go_wp2_with fail
  clear hrange hcb hmm
  go_loop [5] (fun _ => True) (fun _ => 0)
  case atStart => trivial
  case round =>
    clear hrel
    go_wp2
    go_ret
    exact HP.out

/-- FORK: whatever the store holds. -/
theorem fork21 {w : World} {b : Nat} {mo : Option Nat} {m : Files} (hs : IsStore w b mo m) (hm : m.length ≤ 64) : Calls Try.prog 21 #[.pointer (some ⟨b, 0, none⟩)] w (ForkPost w m) := by
  cases mo with
  | none =>
    obtain rfl : m = [] := hs.2
    exact fork_none hs
  | some r => exact fork_some hs hm
end Go.Proofs.Ytglichmmoibagaa
