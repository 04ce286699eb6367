/- The contract of Names: the names in the order of their bytes. -/
import Derived.Test.YtglichmmoibagaaR
import Derived.Laws.BytesString
import Derived.Deep.CutRange
import Derived.Deep.DeepCutAuto
import Derived.Sort.OwnSorted
import Derived.Test.YtglichmmoibagaaS
namespace Go.Proofs.Ytglichmmoibagaa
open Go.RowKit Go.Sort

theorem info9 : (Try.prog.info? 9).map (fun i => (i.zero, i.size, i.bytes)) = some (some (.string ByteArray.empty), 1, 16) := by kernel_rfl

/-- What has been gone through: entries of the map, each once, in the order in which they came. -/
structure Gone (es : Array MapEntry) (seen : Array Nat) (ds : List (List UInt8)) : Prop where
  ex : ∃ l : List MapEntry, seen = (l.map (·.born)).toArray ∧ (∀ e ∈ l, e ∈ es.toList) ∧ (l.map (·.born)).Nodup ∧ l.map (·.key) = ds.map keyV

theorem Gone.nil (es : Array MapEntry) : Gone es #[] [] := ⟨⟨[], rfl, by simp, by simp, rfl⟩⟩

theorem nodup_len : ∀ (a b : List Nat), a.Nodup → (∀ x ∈ a, x ∈ b) → a.length ≤ b.length
  | [], _, _, _ => Nat.zero_le _
  | x :: a, b, hd, h => by
    simp only [List.nodup_cons] at hd
    have hx : x ∈ b := h x (by simp)
    have h2 := nodup_len a (b.erase x) hd.2 (fun y hy => by
      have hne : y ≠ x := fun e => hd.1 (e ▸ hy)
      exact (List.mem_erase_of_ne hne).2 (h y (by simp [hy])))
    have h3 := List.length_erase_of_mem hx
    have h4 : 0 < b.length := List.length_pos_of_mem hx
    simp; omega

theorem Gone.step {es : Array MapEntry} {seen : Array Nat} {ds : List (List UInt8)} (h : Gone es seen ds) {e : MapEntry} {n : List UInt8} (he : e ∈ es.toList) (hn : seen.contains e.born = false) (hk : e.key = keyV n) :
    Gone es (seen.push e.born) (ds ++ [n]) := by
  obtain ⟨l, rfl, h1, h2, h3⟩ := h
  refine ⟨l ++ [e], by simp, ?_, ?_, by simp [h3, hk]⟩
  · intro x hx
    rcases List.mem_append.1 hx with hx | hx
    · exact h1 x hx
    · simp at hx; subst hx; exact he
  · rw [List.map_append, List.nodup_append]
    refine ⟨h2, by simp, ?_⟩
    intro x hx y hy e1
    simp at hy
    rw [e1, hy] at hx
    have : (Array.contains (l.map (·.born)).toArray e.born) = true := by simpa using hx
    rw [this] at hn; cases hn

theorem Gone.size {es : Array MapEntry} {seen : Array Nat} {ds : List (List UInt8)} (h : Gone es seen ds) : seen.size = ds.length ∧ seen.size ≤ es.size := by
  obtain ⟨l, rfl, h1, h2, h3⟩ := h
  have e1 : l.length = ds.length := by have := congrArg List.length h3; simpa using this
  refine ⟨by simp [e1], ?_⟩
  have := nodup_len (l.map (·.born)) (es.toList.map (·.born)) h2 (fun x hx => by
    obtain ⟨e, he, rfl⟩ := List.mem_map.1 hx
    exact List.mem_map_of_mem (h1 e he))
  simpa using this

theorem nodup_of_map {α β : Type} (f : α → β) : ∀ l : List α, (l.map f).Nodup → l.Nodup
  | [], _ => List.nodup_nil
  | a :: l, h => by
    simp only [List.map_cons, List.nodup_cons] at h ⊢
    exact ⟨fun ha => h.1 (List.mem_map_of_mem ha), nodup_of_map f l h.2⟩

theorem nodup_keys : ∀ l : List (List UInt8), (∀ x ∈ l, nameL x = true) → l.Nodup → (l.map keyV).Nodup
  | [], _, _ => List.nodup_nil
  | a :: l, hn, h => by
    simp only [List.map_cons, List.nodup_cons] at h ⊢
    refine ⟨fun ha => ?_, nodup_keys l (fun x hx => hn x (by simp [hx])) h.2⟩
    obtain ⟨b, hb, e⟩ := List.mem_map.1 ha
    exact h.1 (keyV_inj (hn b (by simp [hb])) (hn a (by simp)) e ▸ hb)

/-- At the end all names have come, each once. -/
theorem Gone.all {es : Array MapEntry} {clock : Nat} {m : Files} {seen : Array Nat} {ds : List (List UInt8)} (h : Gone es seen ds) (E : EntOf es clock m) (hd : ∀ d ∈ ds, nameL d = true) (hall : ∀ e ∈ es.toList, seen.contains e.born = true) :
    ds.Perm (m.map (·.1)) := by
  obtain ⟨l, rfl, h1, h2, h3⟩ := h
  have hp : (l.map (·.born)).Perm (es.toList.map (·.born)) := by
    refine (List.perm_ext_iff_of_nodup h2 E.apart).2 (fun x => ⟨fun hx => ?_, fun hx => ?_⟩)
    · obtain ⟨e, he, rfl⟩ := List.mem_map.1 hx
      exact List.mem_map_of_mem (h1 e he)
    · obtain ⟨e, he, rfl⟩ := List.mem_map.1 hx
      simpa using hall e he
  have hinj : ∀ x ∈ es.toList, ∀ y ∈ es.toList, x.born = y.born → x = y := by
    intro x hx y hy e
    have key : ∀ l : List MapEntry, (l.map (·.born)).Nodup → x ∈ l → y ∈ l → x = y := by
      intro l
      induction l with
      | nil => intro _ h; cases h
      | cons z l ih =>
        intro hd hx hy
        simp only [List.map_cons, List.nodup_cons] at hd
        rcases List.mem_cons.1 hx with h1 | h1
        · rcases List.mem_cons.1 hy with h2 | h2
          · rw [h1, h2]
          · have h3 := List.mem_map_of_mem (f := fun z : MapEntry => z.born) h2
            rw [← e, h1] at h3
            exact absurd h3 hd.1
        · rcases List.mem_cons.1 hy with h2 | h2
          · have h3 := List.mem_map_of_mem (f := fun z : MapEntry => z.born) h1
            rw [e, h2] at h3
            exact absurd h3 hd.1
          · exact ih hd.2 h1 h2
    exact key _ E.apart hx hy
  have hp2 : l.Perm es.toList := by
    refine (List.perm_ext_iff_of_nodup (nodup_of_map _ _ h2) (nodup_of_map _ _ E.apart)).2 (fun x => ⟨fun hx => h1 x hx, fun hx => ?_⟩)
    have := hall x hx
    simp at this
    obtain ⟨y, hy, e⟩ := this
    exact (hinj y (h1 y hy) x hx e) ▸ hy
  have hk : (ds.map keyV).Perm ((m.map (·.1)).map keyV) := by
    rw [← h3]
    have e1 : es.toList.map (·.key) = (m.map (·.1)).map keyV := by
      have := congrArg (List.map Prod.fst) E.eq
      simpa [List.map_map, Function.comp_def] using this
    rw [← e1]
    exact hp2.map _
  have hds : (ds.map keyV).Nodup := by
    have hn := nodup_keys (m.map (·.1)) (by intro x hx; obtain ⟨z, hz, rfl⟩ := List.mem_map.1 hx; exact E.names z hz) E.nodup
    exact hk.nodup_iff.2 hn
  refine (List.perm_ext_iff_of_nodup (nodup_of_map _ _ hds) E.nodup).2 (fun x => ⟨fun hx => ?_, fun hx => ?_⟩)
  · obtain ⟨y, hy, e⟩ := List.mem_map.1 (hk.mem_iff.1 (List.mem_map_of_mem (f := keyV) hx))
    obtain ⟨z, hz, rfl⟩ := List.mem_map.1 hy
    rw [← keyV_inj (E.names z hz) (hd x hx) e]
    exact hy
  · obtain ⟨z, hz, rfl⟩ := List.mem_map.1 hx
    obtain ⟨y, hy, e⟩ := List.mem_map.1 (hk.mem_iff.2 (List.mem_map_of_mem (f := keyV) hx))
    rw [← keyV_inj (hd y hy) (E.names z hz) e]
    exact hy

theorem wpList_next_map {P : Program} {ops : Array Oper} {rest : List Oper} {o : Oper} {a : Act} {w : World} {Q : Exit → Act → World → Prop} (hgd : o.guard = none) (x : Operand) (ho : o.op = .next x false)
    {it r : Nat} {es : Array MapEntry} {clock : Nat} {seen : Array Nat} (hx : a.eval x = .pointer (some ⟨it, 0, none⟩)) (hi : w.heap[it]? = some (.mapIter (some r) clock seen clock)) (hr : w.heap[r]? = some (.map es clock))
    (hb : ∀ e ∈ es.toList, e.born < clock)
    (hend : (∀ e ∈ es.toList, seen.contains e.born = true) → wpList P ops Q rest (a.put o.dst (.tuple #[.bool false])) w)
    (hmore : ∀ e ∈ es.toList, seen.contains e.born = false → ∀ n, wpList P ops Q rest (a.put o.dst (.tuple #[.bool true, e.key, e.val])) (setIter (w.drewN n) it (.mapIter (some r) clock (seen.push e.born) clock))) :
    wpList P ops Q (o :: rest) a w := by
  refine wpList_plain hgd fun K hK => ?_
  unfold Oper.wp execOp
  rcases run_next_map (P := P) hi hr hb o.type with ⟨hall, hrun⟩ | ⟨e, he, hs, n, hrun⟩
  · simp only [ho, hx, Sem.run_bind, hrun, Result.andThen_ok]
    exact hK _ _ (hend hall)
  · simp only [ho, hx, Sem.run_bind, hrun, Result.andThen_ok]
    exact hK _ _ (hmore e he hs n)

theorem wpList_entry_map {P : Program} {ops : Array Oper} {rest : List Oper} {o : Oper} {a : Act} {w : World} {Q : Exit → Act → World → Prop} (hgd : o.guard = none) (x : Operand) (ho : o.op = .entry x)
    {it r since : Nat} {es : Array MapEntry} {clock : Nat} {seen : Array Nat} {e : MapEntry} (hx : a.eval x = .pointer (some ⟨it, 0, none⟩)) (hi : w.heap[it]? = some (.mapIter (some r) since (seen.push e.born) clock)) (hr : w.heap[r]? = some (.map es clock))
    (he : e ∈ es.toList) (hd : (es.toList.map (·.born)).Nodup)
    (h : wpList P ops Q rest (a.put o.dst (.tuple #[e.key, e.val])) w) :
    wpList P ops Q (o :: rest) a w := by
  refine wpList_plain hgd fun K hK => ?_
  unfold Oper.wp execOp
  have hrun := run_entry_map (P := P) hi hr he hd
  simp only [ho, hx, Sem.run_bind, hrun, Result.andThen_ok]
  exact hK _ _ h

/-- How many entries an iterator has met. -/
def met (w : World) (it : Nat) : Nat := match w.heap[it]? with | some (.mapIter _ _ seen _) => seen.size | _ => 0

def strV (l : List UInt8) : Value := .string ⟨l.toArray⟩

/-- Names in the order of their bytes. -/
def sortN (l : List (List UInt8)) : List (List UInt8) := l.mergeSort fun x y => decide (x ≤ y)

theorem leB_anti (a b : List UInt8) (h1 : decide (a ≤ b) = true) (h2 : decide (b ≤ a) = true) : a = b := by
  have h1 : a ≤ b := by simpa using h1
  have h2 : b ≤ a := by simpa using h2
  exact List.le_antisymm h1 h2

theorem sortN_sorted (l : List (List UInt8)) : (sortN l).Pairwise (fun x y => decide (x ≤ y) = true) := by
  refine List.pairwise_mergeSort (fun a b c h1 h2 => ?_) (fun a b => ?_) l
  · have h1 : a ≤ b := by simpa using h1
    have h2 : b ≤ c := by simpa using h2
    simpa using List.le_trans h1 h2
  · rcases List.le_total a b with h | h
    · simp [h]
    · simp [h]

theorem sortN_perm {a b : List (List UInt8)} (h : a.Perm b) : sortN a = sortN b :=
  List.Perm.eq_of_pairwise (fun x y _ _ h1 h2 => leB_anti x y h1 h2) (sortN_sorted a) (sortN_sorted b) (((List.mergeSort_perm a _).trans h).trans (List.mergeSort_perm b _).symm)

/-- slices.Sort of a slice of texts of the call's own. -/
theorem sort_owned {w : World} {base : Nat} {v : Value} {ds : List (List UInt8)} (hown : w.ownsRow base 9 1 v ds.length (ds.map strV)) (hsz : ds.length < 4611686018427387904) :
    Calls Try.prog 27 #[v] w fun e w' => e = .returned (.tuple #[]) ∧ w'.ownsRow base 9 1 v ds.length ((sortN ds).map strV) ∧ w.grownBy w' v.ownBlock := by
  obtain ⟨h1, ⟨rfl, h0⟩ | ⟨g, cap, cur, rfl, hg, hh, hc, hm, hcs, ht⟩⟩ := hown
  · obtain rfl : ds = [] := List.eq_nil_of_length_eq_zero h0
    refine (Try.slices_Sort_string_none none 0 w).mono fun e w' ⟨he, hw⟩ => ?_
    subst hw
    exact ⟨he, by simpa [sortN] using World.ownsRow_nil _ _ _ _, ⟨rfl, rfl, rfl, Nat.le_refl _, fun _ _ _ => rfl⟩⟩
  · have hblk : g < w.heap.size := (Array.getElem?_eq_some_iff.1 hh).1
    have ht' : cur.toList.take ds.length = ds.map encStr := by rw [Nat.mul_one] at ht; exact ht
    have hH := holds_of_block hh ht'
    have hl : (ds.mergeSort fun x y => decide (x ≤ y)).length = ds.length := List.length_mergeSort _
    refine (Try.slices_Sort_string g 0 cap ds w hH hblk hsz).mono fun e w' ⟨he, n, os, hw⟩ => ?_
    subst hw
    exact ⟨he, by have := ownsRow_sorted (n := n) (os := os) hl hg hh hc hm (by simpa using hcs); exact this, grownBy_sorted _⟩

/-- The loop's relation. -/
def NamesRel (w : World) (r it clock : Nat) (es : Array MapEntry) (v : Value) (wr : World) : Prop :=
  ∃ seen ds, Gone es seen ds ∧ (∀ d ∈ ds, nameL d = true) ∧ wr.heap[it]? = some (.mapIter (some r) clock seen clock) ∧ wr.ownsRow (it + 1) 9 1 v ds.length (ds.map strV) ∧ Below w.heap.size w wr ∧ it < wr.heap.size

theorem EntOf.entry {es : Array MapEntry} {clock : Nat} {m : Files} (E : EntOf es clock m) {e : MapEntry} (he : e ∈ es.toList) : ∃ nm t, nameL nm = true ∧ e.key = keyV nm ∧ e.val = .string t := by
  obtain ⟨j, hj⟩ := List.getElem?_of_mem he
  obtain ⟨x, hx, hk, hv⟩ := E.at j e hj
  exact ⟨x.1, x.2, E.names x (List.mem_of_getElem? hx), hk, hv⟩

theorem iter_laid {w wr : World} {it r clock n : Nat} {o : Obj} {es : Array MapEntry} {v : Value} {k : Nat} {xs : List Value} (hi : it < wr.heap.size) (hr : wr.heap[r]? = some (.map es clock)) (hne : r ≠ it) (hown : wr.ownsRow (it + 1) 9 1 v k xs)
    (hb : Below w.heap.size w wr) (hit : w.heap.size ≤ it) :
    (setIter (wr.drewN n) it o).heap[it]? = some o ∧ (setIter (wr.drewN n) it o).heap[r]? = some (.map es clock) ∧ (setIter (wr.drewN n) it o).ownsRow (it + 1) 9 1 v k xs ∧ Below w.heap.size w (setIter (wr.drewN n) it o) ∧ it < (setIter (wr.drewN n) it o).heap.size := by
  refine ⟨setIter_same hi, (setIter_other hne).trans hr, ?_, setIter_below (w := wr.drewN n) ⟨hb.os, hb.tape, hb.output, hb.size, hb.block⟩ hit o, by rw [setIter_size]; exact hi⟩
  refine World.ownsRow.kept (w := wr) (row := some it) hown ⟨rfl, rfl, rfl, by rw [setIter_size]; exact Nat.le_refl _, fun k _ hk => setIter_other (fun e => hk (by rw [e]))⟩ ?_
  cases hvb : v.ownBlock with
  | none => exact .inl rfl
  | some g =>
    refine .inr (fun e => ?_)
    have := (hown.lt g hvb).1
    cases e
    omega

theorem key_laid2 {w wr : World} {it r clock : Nat} {o : Obj} {es : Array MapEntry} {v : Value} {k : Nat} {xs : List Value} {z kv : Array Value} (h1 : wr.heap[it]? = some o) (h2 : wr.heap[r]? = some (.map es clock)) (h3 : wr.ownsRow (it + 1) 9 1 v k xs)
    (h4 : Below w.heap.size w wr) (h5 : it < wr.heap.size) :
    ((wr.alloc (.cells z 53)).setRow wr.heap.size kv).heap[wr.heap.size]? = some (.cells kv 53 (0, 0)) ∧ ((wr.alloc (.cells z 53)).setRow wr.heap.size kv).heap[it]? = some o ∧ ((wr.alloc (.cells z 53)).setRow wr.heap.size kv).heap[r]? = some (.map es clock) ∧
    ((wr.alloc (.cells z 53)).setRow wr.heap.size kv).ownsRow (it + 1) 9 1 v k xs ∧ Below w.heap.size w ((wr.alloc (.cells z 53)).setRow wr.heap.size kv) ∧ it < ((wr.alloc (.cells z 53)).setRow wr.heap.size kv).heap.size ∧ wr.heap.size < ((wr.alloc (.cells z 53)).setRow wr.heap.size kv).heap.size := by
  have lt : ∀ {j : Nat} {o : Obj}, wr.heap[j]? = some o → j < wr.heap.size := fun hj => (Array.getElem?_eq_some_iff.1 hj).1
  have old : ∀ {j : Nat} {o : Obj}, wr.heap[j]? = some o → ((wr.alloc (.cells z 53)).setRow wr.heap.size kv).heap[j]? = some o := fun {j o} hj => by
    rw [setRow_other _ _ _ _ (by have := lt hj; omega), WW_old (lt hj)]; exact hj
  refine ⟨setRow_heap _ _ _ _ _ _ (heap_alloc_new _ _), old h1, old h2, ?_, below_setRow (h4.alloc h4.size _) h4.size _, by simp; omega, by simp⟩
  refine World.ownsRow.kept (w := wr) (row := none) h3 ⟨rfl, rfl, rfl, by simp, fun k hk _ => ?_⟩ ?_
  · rw [setRow_other _ _ _ _ (by omega), WW_old hk]
  · cases hvb : v.ownBlock with
    | none => exact .inl rfl
    | some g => exact .inr (by simp)

theorem keyL_at {nm : List UInt8} (h : nameL nm = true) (k : Nat) (hk : k < nm.length) : (keyL nm)[k]? = some (.int .u8 (nm[k].toNat : Int)) := by
  have := (nameL_len h).2.1
  simp only [keyL, List.take_of_length_le this]
  rw [List.getElem?_append_left (by simpa using hk)]
  simp [hk]

theorem keyL_end {nm : List UInt8} (h : nameL nm = true) (hk : nm.length < 24) : (keyL nm)[nm.length]? = some (.int .u8 0) := by
  have := (nameL_len h).2.1
  simp only [keyL, List.take_of_length_le this]
  rw [List.getElem?_append_right (by simp)]
  simp [List.getElem?_replicate]
  omega

theorem foldl_bytes : ∀ (l : List UInt8) (r : ByteArray), (l.map fun b => (b.toNat : Int)).foldl (fun r n => r.push (UInt8.ofNat n.toNat)) r = ⟨r.data ++ l.toArray⟩
  | [], r => by simp
  | c :: l, r => by
    simp only [List.map_cons, List.foldl_cons]
    rw [foldl_bytes l]
    have : (UInt8.ofNat (c.toNat : Int).toNat) = c := by simp
    rw [this]
    simp [ByteArray.push]

theorem run_key_name {w : World} {g : Nat} {nm : List UInt8} {kv : List Value} (hg : w.heap[g]? = some (.cells kv.toArray 53 (0, 0))) (hat : ∀ k (hk : k < nm.length), kv[k]? = some (.int .u8 (nm[k].toNat : Int))) :
    (convert 45 9 (.slice (some ⟨g, 0, none⟩) nm.length 24)).run Try.prog w = .ok (.string ⟨nm.toArray⟩) w := by
  have hl : (loadCells ⟨g, 0, none⟩ nm.length).run Try.prog w = .ok ((nm.map fun b => (b.toNat : Int)).map (Value.int .u8)).toArray w := by
    have h := run_loadCells_list (P := Try.prog) w ⟨g, 0, none⟩ ((nm.map fun b => (b.toNat : Int)).map (Value.int .u8)) (fun j v hv => by
      have hj : j < nm.length := by
        rcases Nat.lt_or_ge j nm.length with h | h
        · exact h
        · rw [List.getElem?_eq_none (by simpa using h)] at hv; cases hv
      have hadd : (⟨g, 0, none⟩ : Addr).add j = ⟨g, j, none⟩ := by unfold Addr.add; split <;> simp_all
      rw [hadd, cell_of_row w g j _ _ _ hg]
      have h1 := hat j hj
      simp [hj] at hv
      rw [← hv]
      simpa using h1)
    simpa using h
  have hb := run_bytesToString (P := Try.prog) w ⟨g, 0, none⟩ nm.length 24 (nm.map fun b => (b.toNat : Int)) hl
  have e0 : (ByteArray.empty.data ++ nm.toArray) = nm.toArray := by
    have : ByteArray.empty.data = #[] := rfl
    rw [this]; simp
  rw [foldl_bytes, e0] at hb
  simp only [convert, Sem.run_bind, run_underlying Try.underlying45, run_underlying Try.underlying9, run_underlying Try.underlying5, Result.andThen_ok, hb]

theorem run_slice_key (w : World) (g n : Nat) (hn : n ≤ 24) : (Instr.sliceAt 53 (.pointer (some ⟨g, 0, none⟩)) none (some (.int .i64 (n : Int))) none).run Try.prog w = .ok (.slice (some ⟨g, 0, none⟩) n 24) w := by
  obtain ⟨i, hi⟩ : ∃ i, Try.prog.info? 5 = some i := ⟨_, by rfl⟩
  have h1 : (0 : Int) ≤ n ∧ (n : Int) ≤ ((24 : Nat) : Int) := by omega
  simp only [Instr.sliceAt, Sem.run_bind, run_underlying Try.underlying53, Result.andThen_ok, Instr.sureAddr, Instr.sliceBounds, Instr.sliceBound, asIntOf, Sem.run_pure, if_pos h1, Int.toNat_natCast, sizeOf, typeInfo]
  simp [hi, Addr.add]

theorem new_cell (w : World) (t : TypeId) (v : Value) : ∀ j u, [v][j]? = some u → (w.alloc (.cells #[v] t)).cell? ((⟨w.heap.size, 0, none⟩ : Addr).add j) = some u := by
  intro j u h
  cases j with
  | zero => simp at h; subst h; rw [show (⟨w.heap.size, 0, none⟩ : Addr).add 0 = ⟨w.heap.size, 0, none⟩ from rfl, cell_of_row _ _ _ _ _ _ (heap_alloc_new w _)]; rfl
  | succ j => simp at h

theorem one_str (nm : List UInt8) : ∀ u ∈ [strV nm], u.oneCell' = true := by
  intro u hu
  simp at hu
  subst hu
  rfl

/-- What Names answers: a slice of the call's own with the names in order. -/
def NamesPost (w : World) (m : Files) (e : Ending) (w' : World) : Prop :=
  ∃ v, e = .returned v ∧ w'.ownsRow w.heap.size 9 1 v m.length ((sortN (m.map (·.1))).map strV) ∧ Below w.heap.size w w'

theorem ownsRow_mono {w : World} {B B' : Nat} {e : TypeId} {size : Nat} {v : Value} {n : Nat} {xs : List Value} (h : w.ownsRow B e size v n xs) (hB : B' ≤ B) : w.ownsRow B' e size v n xs := by
  obtain ⟨h1, h2⟩ := h
  refine ⟨h1, ?_⟩
  rcases h2 with h2 | ⟨g, cap, cur, hv, hg, r⟩
  · exact Or.inl h2
  · exact Or.inr ⟨g, cap, cur, hv, by omega, r⟩

theorem names_done {w wr w1 : World} {clock it : Nat} {es : Array MapEntry} {m : Files} {seen : Array Nat} {ds : List (List UInt8)} {v : Value} (E : EntOf es clock m) (hG : Gone es seen ds) (hnm : ∀ d ∈ ds, nameL d = true) (hall : ∀ e ∈ es.toList, seen.contains e.born = true)
    (hit : w.heap.size ≤ it) (h1 : w1.ownsRow (it + 1) 9 1 v ds.length ((sortN ds).map strV)) (h2 : wr.grownBy w1 v.ownBlock) (hb : Below w.heap.size w wr) (hown : wr.ownsRow (it + 1) 9 1 v ds.length (ds.map strV)) :
    NamesPost w m (.returned v) w1 := by
  have hp := hG.all E hnm hall
  have hl : ds.length = m.length := by have := hp.length_eq; simpa using this
  refine ⟨v, rfl, ?_, hb.grown h2 hb.size (fun k hk => ?_)⟩
  · rw [sortN_perm hp, hl] at h1
    exact ownsRow_mono h1 (by omega)
  · have := (hown.lt k hk).1
    omega

theorem names_step {w wr wr3 w' : World} {r clock b : Nat} {es : Array MapEntry} {seen : Array Nat} {ds : List (List UInt8)} {nm : List UInt8} {v v' : Value} {o : Obj}
    (hgs : Gone es (seen.push b) (ds ++ [nm])) (hnm : ∀ d ∈ ds, nameL d = true) (hok : nameL nm = true) (hi : wr.heap[w.heap.size]? = some (.mapIter (some r) clock seen clock)) (m2 : wr3.heap[w.heap.size]? = some (.mapIter (some r) clock (seen.push b) clock))
    (m4 : wr3.ownsRow (w.heap.size + 1) 9 1 v ds.length (ds.map strV)) (m5 : Below w.heap.size w wr3) (m6 : w.heap.size < wr3.heap.size) (hown : w'.ownsRow (w.heap.size + 1) 9 1 v' (ds.length + 1) (ds.map strV ++ [strV nm])) (hg : (wr3.alloc o).grownBy w' v.ownBlock) :
    NamesRel w r w.heap.size clock es v' w' ∧ es.size - met w' w.heap.size < es.size - met wr w.heap.size := by
  have hne : some w.heap.size ≠ v.ownBlock := by
    intro e
    have := (m4.lt _ e.symm).1
    omega
  have h1 : w'.heap[w.heap.size]? = some (.mapIter (some r) clock (seen.push b) clock) := by
    rw [hg.block _ (by simp; omega) hne, WW_old m6]; exact m2
  have h2 := hgs.size.2
  have hb : Below w.heap.size w w' := by
    refine (m5.alloc m5.size o).grown hg (by simp; omega) (fun k hk => ?_)
    have := (m4.lt k hk).1
    omega
  refine ⟨⟨seen.push b, ds ++ [nm], hgs, ?_, h1, ?_, hb, (Array.getElem?_eq_some_iff.1 h1).1⟩, ?_⟩
  · intro d hd
    rcases List.mem_append.1 hd with h | h
    · exact hnm d h
    · simp at h; subst h; exact hok
  · simpa using hown
  · simp [met, h1, hi] at h2 ⊢
    omega

set_option maxHeartbeats 4000000 in
theorem names_some {w : World} {b r : Nat} {m : Files} (hs : IsStore w b (some r) m) (hm : m.length ≤ 64) :
    Calls Try.prog 16 #[.pointer (some ⟨b, 0, none⟩)] w (NamesPost w m) := by
  obtain ⟨hbk, es, clock, hr, hE⟩ := hs
  have hcb : w.cell? ⟨b, 0, none⟩ = some (.map (some r)) := by
    rw [cell_of_row w b 0 _ _ _ hbk]; rfl
  have hrange : (Instr.range 49 (.map (some r))).run Try.prog w = .ok (.pointer (some ⟨w.heap.size, 0, none⟩)) (w.alloc (.mapIter (some r) clock #[] clock)) := by
    simp [Instr.range, run_underlying Try.underlying49, run_getObj_map hr]
  have hr0 : r < w.heap.size := (Array.getElem?_eq_some_iff.1 hr).1
  have HE := Lib.hid hE
  have HR := Lib.hid hr
  have HBK := Lib.hid hbk
  have HR0 := Lib.hid hr0
  clear hE hr hbk hr0
  go_enter Try.func16, Try.ntmps16
  go_wp2_with fail
  clear hrange hcb
  go_loopw [3] (fun v wr => NamesRel w r w.heap.size clock es v wr) (fun _ wr => es.size - met wr w.heap.size)
  case atStart => exact ⟨#[], [], Gone.nil es, by simp, heap_alloc_new _ _, World.ownsRow_nil _ _ _ _, (Below.refl _ _).alloc (Nat.le_refl _) _, by simp⟩
  case round =>
    obtain ⟨seen, ds, hG, hnm, hi, hown, hbel, hlt⟩ := hrel
    have hr' : wr.heap[r]? = some (.map es clock) := (hbel.block r HR0.out).trans HR.out
    have hborn := HE.out.born
    have HG := Lib.hid hG
    have HNM := Lib.hid hnm
    have HI := Lib.hid hi
    have HOWN := Lib.hid hown
    have HRr := Lib.hid hr'
    have HB := Lib.hid hborn
    have HBEL := Lib.hid hbel
    clear hG hnm hi hown hr' hborn hbel
    go_wp2_with (first | (refine wpList_next_map rfl (.tmp 12) rfl rfl HI.out HRr.out HB.out ?hend ?hmore))
    case hend =>
      intro hall
      have hall' : ∀ e ∈ es.toList, seen.contains e.born = true := by intro e he; simpa using hall e (by simpa using he)
      have hsz : ds.length < 4611686018427387904 := by
        have h1 := HG.out.size
        have h2 := HE.out.len
        omega
      have HALL := Lib.hid hall'
      have HSZ := Lib.hid hsz
      clear hall hall' hsz
      go_wp2_with (go_at_call 27; refine (sort_owned HOWN.out HSZ.out).mono ?_; rintro e w1 ⟨rfl, h1, h2⟩)
      go_ret
      exact names_done HE.out HG.out HNM.out HALL.out (Nat.le_refl _) h1 h2 HBEL.out HOWN.out
    case hmore =>
      intro e he hs n
      have he' : e ∈ es.toList := by simpa using he
      have hs' : seen.contains e.born = false := by simpa using hs
      obtain ⟨nm, t, hnmok, hkey, hval⟩ := HE.out.entry he'
      have hgs := HG.out.step he' hs' hkey
      have L := iter_laid (w := w) (n := n) (o := .mapIter (some r) clock (seen.push e.born) clock) hlt HRr.out (by have := HR0.out; omega) HOWN.out HBEL.out (Nat.le_refl _)
      have HE' := Lib.hid he'
      have HGS := Lib.hid hgs
      have HNMOK := Lib.hid hnmok
      clear he he' hs hs' hgs hnmok
      revert L
      generalize setIter (wr.drewN n) w.heap.size (.mapIter (some r) clock (seen.push e.born) clock) = wr2
      rintro ⟨l1, l2, l3, l4, l5⟩
      have L1 := Lib.hid l1
      have L2 := Lib.hid l2
      have L3 := Lib.hid l3
      have L4 := Lib.hid l4
      clear l1 l2 l3 l4
      have hk1 := keyL_one nm
      have hkl := keyL_length nm
      have hkey' : e.key = .agg (keyL nm).toArray := hkey
      have hat := keyL_at HNMOK.out
      have hend := keyL_end HNMOK.out
      generalize hKV : keyL nm = kv at *
      have HKV := Lib.hid hKV
      have HK1 := Lib.hid hk1
      have HKL := Lib.hid hkl
      have HAT := Lib.hid hat
      have HEND := Lib.hid hend
      clear hk1 hkl hKV hat hend hkey hval
      go_upto_region 7 with (first | (refine wpList_entry_map rfl (.tmp 12) rfl rfl L1.out L2.out HE'.out HE.out.apart ?_; rw [hkey']) | (refine wpList_store_row rfl 53 (.tmp 4) (.tmp 16) rfl _ rfl 53 kv.toArray _ rfl (heap_alloc_new _ _) (by rw [List.size_toArray, HKL.out]; rfl) (by rw [List.size_toArray, HKL.out]; kernel_rfl) (by simpa using HK1.out) ?_))
      have M := key_laid2 (z := zero24) (kv := kv.toArray) L1.out L2.out L3.out L4.out l5
      simp only [zero24, List.replicate] at M
      clear L1 L2 L3 L4 l5
      revert M
      generalize World.setRow _ wr2.heap.size kv.toArray = wr3
      generalize wr2.heap.size = g
      rintro ⟨m1, m2, m3, m4, m5, m6, m7⟩
      have M1 := Lib.hid m1
      have M2 := Lib.hid m2
      have M3 := Lib.hid m3
      have M4 := Lib.hid m4
      have M5 := Lib.hid m5
      clear m1 m2 m3 m4 m5
      go_wp2_with fail
      go_loop [5] (fun v => ∃ k : Nat, k ≤ nm.length ∧ v = .int .i64 k) (fun v => nm.length - (intOf v).toNat)
      case atStart => exact ⟨0, Nat.zero_le _, rfl⟩
      case round =>
        obtain ⟨k, hk, rfl⟩ := hrel
        have h24 := (nameL_len HNMOK.out).2.1
        by_cases hlt2 : k < nm.length
        · have hcell : wr3.cell? ⟨g, k, none⟩ = some (.int .u8 (nm[k].toNat : Int)) := by
            rw [cell_of_row wr3 g k _ _ _ M1.out]
            simpa using HAT.out k hlt2
          have hne : ((nm[k].toNat : Int) != 0) = true := by
            rw [bne_iff_ne]
            intro e0
            exact (nameL_len HNMOK.out).2.2 nm[k] (List.getElem_mem _) (UInt8.toNat_inj.1 (by simpa using e0))
          have hk24 : k < 24 := by omega
          go_wp2
          go_round
          case rel => exact ⟨k + 1, by omega, by go_num⟩
          case measure => simp [intOf]; omega
        · obtain rfl : k = nm.length := by omega
          have hconv := run_key_name M1.out HAT.out
          have hl3 : ds.length + 1 ≤ maxLen := by
            have h1 := HG.out.size
            have h2 := HE.out.len
            simp only [maxLen]; omega
          have hl4 : (ds.length + 1) * 16 ≤ 140737488355328 := by
            have h1 := HG.out.size
            have h2 := HE.out.len
            omega
          have hl5 : w.heap.size + 1 ≤ (wr3.alloc (.cells #[.string ⟨nm.toArray⟩] 9)).heap.size := by simp; omega
          have HL3 := Lib.hid hl3
          have HL4 := Lib.hid hl4
          have HL5 := Lib.hid hl5
          clear hl3 hl4 hl5
          have hsl := run_slice_key wr3 g nm.length h24
          obtain ⟨i0, hi0, hz0, hz1, hz2⟩ := info_parts info9
          by_cases hk24 : nm.length = 24
          · have hb24 : decide ((nm.length : Int) < 24) = false := by simp; omega
            clear hk24
            go_wp2_with (first | (at_builtin; (refine wpList_append_own _ rfl (.tmp 27) (.tmp 31) 33 rfl (w.heap.size + 1) 9 i0 (.string ByteArray.empty) 1 16 Try.underlying33 hi0 hz0 hz1 hz2 rfl (by decide) u3 ds.length (ds.map strV) rfl (M4.out.alloc _) ⟨wr3.heap.size, 0, none⟩ 1 1 [strV nm] rfl rfl (new_cell wr3 9 _) (one_str nm) HL3.out HL4.out HL5.out ?_); intro v' w' hown' hgrow _))
            exact names_step HGS.out HNM.out HNMOK.out HI.out M2.out M4.out M5.out m6 hown' hgrow
          · have hb24 : decide ((nm.length : Int) < 24) = true := by simp; omega
            have hcell : wr3.cell? ⟨g, nm.length, none⟩ = some (.int .u8 0) := by
              rw [cell_of_row wr3 g _ _ _ _ M1.out]
              simpa using HEND.out (by omega)
            have hlt24 : nm.length < 24 := by omega
            clear hk24
            go_wp2_with (first | (at_builtin; (refine wpList_append_own _ rfl (.tmp 27) (.tmp 31) 33 rfl (w.heap.size + 1) 9 i0 (.string ByteArray.empty) 1 16 Try.underlying33 hi0 hz0 hz1 hz2 rfl (by decide) u3 ds.length (ds.map strV) rfl (M4.out.alloc _) ⟨wr3.heap.size, 0, none⟩ 1 1 [strV nm] rfl rfl (new_cell wr3 9 _) (one_str nm) HL3.out HL4.out HL5.out ?_); intro v' w' hown' hgrow _))
            exact names_step HGS.out HNM.out HNMOK.out HI.out M2.out M4.out M5.out m6 hown' hgrow

theorem names_nil {w w1 : World} (h : Below w.heap.size w w1) : NamesPost w [] (.returned (.slice none 0 0)) w1 := ⟨_, rfl, by simpa [sortN] using World.ownsRow_nil w1 w.heap.size 9 1, h⟩

set_option maxHeartbeats 1000000 in
theorem names_none {w : World} {b : Nat} (hs : IsStore w b none []) : Calls Try.prog 16 #[.pointer (some ⟨b, 0, none⟩)] w (NamesPost w []) := by
  obtain ⟨hbk, _⟩ := hs
  have hcb : w.cell? ⟨b, 0, none⟩ = some (.map none) := by
    rw [cell_of_row w b 0 _ _ _ hbk]; rfl
  have hrange : (Instr.range 49 (.map none)).run Try.prog w = .ok (.pointer (some ⟨w.heap.size, 0, none⟩)) (w.alloc (.mapIter none 0 #[] 0)) := by
    simp [Instr.range, run_underlying Try.underlying49]
  have hnext : ∀ ty, (Instr.next (.pointer (some ⟨w.heap.size, 0, none⟩)) false ty).run Try.prog (w.alloc (.mapIter none 0 #[] 0)) = .ok (.tuple #[.bool false]) (w.alloc (.mapIter none 0 #[] 0)) := by
    intro ty
    have hg := run_getObj_iter (P := Try.prog) (heap_alloc_new w (.mapIter none 0 #[] 0))
    simp only [Instr.next, Sem.run_bind, hg, Result.andThen_ok, Sem.run_pure]
  have hb := (Below.refl w.heap.size w).alloc (Nat.le_refl _) (.mapIter none 0 #[] 0)
  have HB := Lib.hid hb
  clear hbk hb
  go_enter Try.func16, Try.ntmps16
  go_wp2_with fail
  clear hrange hcb
  go_loop [3] (fun v => v = .slice none 0 0) (fun _ => 0)
  case atStart => rfl
  case round =>
    subst hrel
    go_wp2_with (go_at_call 27; refine (Try.slices_Sort_string_none none 0 _).mono ?_; rintro e w1 ⟨rfl, rfl⟩)
    go_ret
    exact names_nil HB.out

/-- NAMES: whatever the store holds. -/
theorem names16 {w : World} {b : Nat} {mo : Option Nat} {m : Files} (hs : IsStore w b mo m) (hm : m.length ≤ 64) : Calls Try.prog 16 #[.pointer (some ⟨b, 0, none⟩)] w (NamesPost w m) := by
  cases mo with
  | none =>
    obtain rfl : m = [] := hs.2
    exact names_none hs
  | some r => exact names_some hs hm
end Go.Proofs.Ytglichmmoibagaa
