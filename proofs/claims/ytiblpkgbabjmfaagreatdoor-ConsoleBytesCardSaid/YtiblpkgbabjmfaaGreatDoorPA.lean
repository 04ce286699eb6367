/- Plain laws of lines and commands: words with blanks between, numbers, hexadecimal digits, names; what was read is written as it was. -/
import Derived.Lib.ItoaNum
import Derived.Lib.ParseIntB
namespace Go.Proofs.YtiblpkgbabjmfaaGreatDoor
open Go

/-! Words. -/
def cutGo : List UInt8 → List UInt8 → List (List UInt8)
  | cur, [] => [cur]
  | cur, c :: r => if c = 32 then cur :: cutGo [] r else cutGo (cur ++ [c]) r
def cutL (l : List UInt8) : List (List UInt8) := cutGo [] l

/-- Words, one blank between two. -/
def joinL : List (List UInt8) → List UInt8
  | [] => []
  | [a] => a
  | a :: b :: r => a ++ 32 :: joinL (b :: r)

theorem cutGo_cons (cur : List UInt8) (c : UInt8) (r : List UInt8) : cutGo cur (c :: r) = if c = 32 then cur :: cutGo [] r else cutGo (cur ++ [c]) r := rfl
theorem cutGo_ne : ∀ (l cur : List UInt8), cutGo cur l ≠ []
  | [], _ => by simp [cutGo]
  | c :: r, cur => by
    unfold cutGo
    split
    · simp
    · exact cutGo_ne r _

theorem joinL_cons (a : List UInt8) {r : List (List UInt8)} (h : r ≠ []) : joinL (a :: r) = a ++ 32 :: joinL r := by
  cases r with
  | nil => exact absurd rfl h
  | cons b r => rfl

theorem join_cutGo : ∀ (l cur : List UInt8), joinL (cutGo cur l) = cur ++ l
  | [], cur => by simp [cutGo, joinL]
  | c :: r, cur => by
    unfold cutGo
    split
    · rename_i h
      rw [joinL_cons _ (cutGo_ne r []), join_cutGo r [], h]; simp
    · rw [join_cutGo r]; simp
theorem join_cut (l : List UInt8) : joinL (cutL l) = l := by rw [cutL, join_cutGo]; simp

theorem cutGo_word : ∀ (a cur : List UInt8), (32 : UInt8) ∉ a → cutGo cur a = [cur ++ a]
  | [], cur, _ => by simp [cutGo]
  | c :: r, cur, h => by
    have h1 : c ≠ 32 := fun e => h (by simp [e])
    unfold cutGo
    rw [if_neg h1, cutGo_word r _ (fun e => h (by simp [e]))]; simp
theorem cutGo_blank : ∀ (a cur r : List UInt8), (32 : UInt8) ∉ a → cutGo cur (a ++ 32 :: r) = (cur ++ a) :: cutGo [] r
  | [], cur, r, _ => by simp [cutGo]
  | c :: a, cur, r, h => by
    have h1 : c ≠ 32 := fun e => h (by simp [e])
    simp only [List.cons_append]
    rw [cutGo_cons, if_neg h1, cutGo_blank a _ r (fun e => h (by simp [e]))]; simp
theorem cut_join : ∀ (ws : List (List UInt8)), ws ≠ [] → (∀ a ∈ ws, (32 : UInt8) ∉ a) → cutL (joinL ws) = ws
  | [], h, _ => absurd rfl h
  | [a], _, h => by rw [cutL, joinL, cutGo_word a [] (h a (by simp))]; simp
  | a :: b :: r, _, h => by
    rw [cutL, joinL, cutGo_blank a [] _ (h a (by simp))]
    have := cut_join (b :: r) (by simp) (fun x hx => h x (by simp [List.mem_cons.1 hx]))
    rw [cutL] at this
    rw [this]; simp

/-! Numbers. -/
def numL (s : List UInt8) : Option Nat :=
  if 9 < s.length then none else if 1 < s.length ∧ s.head? = some 48 then none else match Lib.parseUintB 32 s with
    | .ok u => some u
    | _ => none

def stepL (acc : Nat) (c : UInt8) : Nat := acc * 10 + (c.toNat - 48)
def valL (acc : Nat) (l : List UInt8) : Nat := l.foldl stepL acc
def isDig (c : UInt8) : Bool := decide (48 ≤ c.toNat) && decide (c.toNat ≤ 57)

theorem valL_snoc (l : List UInt8) (acc : Nat) (c : UInt8) : valL acc (l ++ [c]) = valL acc l * 10 + (c.toNat - 48) := by
  unfold valL
  rw [List.foldl_append, List.foldl_cons, List.foldl_nil, stepL]
theorem valL_nil (acc : Nat) : valL acc [] = acc := by unfold valL; rw [List.foldl_nil]
theorem valL_cons (acc : Nat) (c : UInt8) (r : List UInt8) : valL acc (c :: r) = valL (acc * 10 + (c.toNat - 48)) r := by
  unfold valL
  rw [List.foldl_cons, stepL]
theorem parseM_end (M acc : Nat) : Lib.parseUintM M acc [] = .ok acc := rfl
theorem parseM_step (M acc : Nat) (c : UInt8) (r : List UInt8) : Lib.parseUintM M acc (c :: r) = if 48 ≤ c.toNat ∧ c.toNat ≤ 57 then (if 1844674407370955162 ≤ acc then .range else if M < acc * 10 + (c.toNat - 48) then .range else Lib.parseUintM M (acc * 10 + (c.toNat - 48)) r) else Lib.parseUintB 32 [] := by
  rw [Lib.parseUintM]; rfl
theorem parseM_val (M : Nat) (l : List UInt8) : ∀ (acc u : Nat), Lib.parseUintM M acc l = .ok u → l.all isDig = true ∧ u = valL acc l := by
  induction l with
  | nil =>
    intro acc u h
    rw [parseM_end] at h
    have : acc = u := by injection h
    exact ⟨rfl, by rw [valL_nil, this]⟩
  | cons c r ih =>
    intro acc u h
    rw [parseM_step] at h
    by_cases hc : 48 ≤ c.toNat ∧ c.toNat ≤ 57
    · rw [if_pos hc] at h
      by_cases h5 : 1844674407370955162 ≤ acc
      · rw [if_pos h5] at h; cases h
      · rw [if_neg h5] at h
        by_cases h6 : M < acc * 10 + (c.toNat - 48)
        · rw [if_pos h6] at h; cases h
        · rw [if_neg h6] at h
          obtain ⟨h1, h2⟩ := ih _ u h
          refine ⟨?_, by rw [valL_cons]; exact h2⟩
          simp [isDig, hc, h1]
    · rw [if_neg hc] at h; cases h

theorem valL_ge (l : List UInt8) : ∀ acc : Nat, acc ≤ valL acc l := by
  induction l with
  | nil => intro acc; rw [valL_nil]; exact Nat.le_refl _
  | cons c r ih =>
    intro acc
    have h := ih (acc * 10 + (c.toNat - 48))
    rw [valL_cons]
    refine Nat.le_trans ?_ h
    omega
theorem valL_pos (c : UInt8) (r : List UInt8) (h : isDig c = true) (hc : c ≠ 48) : 1 ≤ valL 0 (c :: r) := by
  have := valL_ge r (0 * 10 + (c.toNat - 48))
  simp [isDig] at h
  have : c.toNat ≠ 48 := fun e => hc (UInt8.toNat_inj.1 (by simpa using e))
  rw [valL_cons]
  omega

theorem dig_of (c : UInt8) (h : isDig c = true) : UInt8.ofNat (48 + (c.toNat - 48)) = c := by
  simp [isDig] at h
  apply UInt8.toNat_inj.1
  simp; omega

theorem dec_val : ∀ (n : Nat) (l : List UInt8), l.length = n → l ≠ [] → l.all isDig = true → ¬ (1 < l.length ∧ l.head? = some 48) → Lib.decDigits (valL 0 l) = l := by
  intro n
  induction n with
  | zero => intro l hl hn; exact absurd (List.length_eq_zero_iff.1 hl) hn
  | succ n ih =>
    intro l hl hn hd hz
    have e : l = l.dropLast ++ [l.getLast hn] := (List.dropLast_concat_getLast hn).symm
    generalize l.getLast hn = c at e
    generalize l.dropLast = l' at e
    subst e
    rw [valL_snoc]
    simp only [List.all_append, Bool.and_eq_true, List.all_cons, List.all_nil, Bool.and_true] at hd
    obtain ⟨hd1, hd2⟩ := hd
    have hdc := hd2
    simp [isDig] at hdc
    cases l' with
    | nil =>
      rw [valL_nil, Nat.zero_mul, Nat.zero_add, List.nil_append]
      rw [Lib.decDigits, dif_pos (by omega), dig_of c hd2]
    | cons b r =>
      have hb : b ≠ 48 := fun e => hz ⟨by simp, by simp [e]⟩
      have hp : 1 ≤ valL 0 (b :: r) := valL_pos b r (by simp only [List.all_cons, Bool.and_eq_true] at hd1; exact hd1.1) hb
      have hih := ih (b :: r) (by simpa using hl) (by simp) hd1 (fun h => hb (by simpa using h.2))
      have h1 : (valL 0 (b :: r) * 10 + (c.toNat - 48)) / 10 = valL 0 (b :: r) := by omega
      have h2 : (valL 0 (b :: r) * 10 + (c.toNat - 48)) % 10 = c.toNat - 48 := by omega
      rw [Lib.decDigits, dif_neg (by omega), h1, h2, hih, dig_of c hd2]

theorem num_dec {s : List UInt8} {n : Nat} (h : numL s = some n) : Lib.itoa (n : Int) = s := by
  have e : Lib.itoa (n : Int) = Lib.decDigits n := by unfold Lib.itoa; rw [if_neg (by omega)]; simp
  rw [e]
  unfold numL at h
  split at h
  · cases h
  · split at h
    · cases h
    · rename_i hz
      split at h
      · rename_i u hu
        obtain rfl : u = n := by simpa using h
        unfold Lib.parseUintB at hu
        split at hu
        · cases hu
        · rename_i hne
          obtain ⟨h1, h2⟩ := parseM_val _ s 0 u hu
          rw [h2]
          exact dec_val _ s rfl hne h1 hz
      · cases h

theorem dec_digs (n : Nat) : (Lib.decDigits n).all isDig = true := by
  induction n using Nat.strongRecOn with
  | _ n ih =>
    rw [Lib.decDigits]
    split
    · rename_i h
      simp [isDig]; omega
    · simp only [List.all_append, ih (n / 10) (by omega), Bool.true_and]
      simp [isDig]; omega
theorem num_noBlank {s : List UInt8} {n : Nat} (h : numL s = some n) : (32 : UInt8) ∉ s := by
  intro hm
  have hd := dec_digs n
  have e : Lib.itoa (n : Int) = Lib.decDigits n := by unfold Lib.itoa; rw [if_neg (by omega)]; simp
  rw [← e, num_dec h, List.all_eq_true] at hd
  have := hd _ hm
  simp [isDig] at this

/-! Bytes as digits. -/
def hexD (n : Nat) : UInt8 := if n < 10 then UInt8.ofNat (48 + n) else UInt8.ofNat (87 + n)
def hexL (l : List UInt8) : List UInt8 := if l = [] then [45] else l.flatMap fun c => [hexD (c.toNat / 16), hexD (c.toNat % 16)]
def unD (c : UInt8) : Option Nat := if 48 ≤ c.toNat ∧ c.toNat ≤ 57 then some (c.toNat - 48) else if 97 ≤ c.toNat ∧ c.toNat ≤ 102 then some (c.toNat - 87) else none
def unPairs : List UInt8 → Option (List UInt8)
  | [] => some []
  | [_] => none
  | a :: b :: r => match unD a, unD b, unPairs r with
    | some x, some y, some t => some (UInt8.ofNat (16 * x + y) :: t)
    | _, _, _ => none
def unhexL (l : List UInt8) : Option (List UInt8) := if l = [45] then some [] else if l = [] then none else unPairs l

theorem unD_lt {c : UInt8} {x : Nat} (h : unD c = some x) : x < 16 ∧ hexD x = c := by
  have hc := c.toNat_lt
  unfold unD at h
  split at h
  · obtain rfl : c.toNat - 48 = x := by simpa using h
    refine ⟨by omega, ?_⟩
    unfold hexD
    rw [if_pos (by omega)]
    apply UInt8.toNat_inj.1
    simp; omega
  · split at h
    · obtain rfl : c.toNat - 87 = x := by simpa using h
      refine ⟨by omega, ?_⟩
      unfold hexD
      rw [if_neg (by omega)]
      apply UInt8.toNat_inj.1
      simp; omega
    · cases h

theorem unD_hexD {x : Nat} (h : x < 16) : unD (hexD x) = some x := by
  have : ∀ x : Fin 16, unD (hexD x.val) = some x.val := by decide
  exact this ⟨x, h⟩

theorem pairs_hex : ∀ (l t : List UInt8), unPairs l = some t → (t.flatMap fun c => [hexD (c.toNat / 16), hexD (c.toNat % 16)]) = l
  | [], t, h => by simp [unPairs] at h; subst h; rfl
  | [_], _, h => by simp [unPairs] at h
  | a :: b :: r, t, h => by
    unfold unPairs at h
    split at h
    · rename_i x y t' hx hy ht
      obtain rfl : UInt8.ofNat (16 * x + y) :: t' = t := by simpa using h
      obtain ⟨x1, x2⟩ := unD_lt hx
      obtain ⟨y1, y2⟩ := unD_lt hy
      have e : (UInt8.ofNat (16 * x + y)).toNat = 16 * x + y := by simp; omega
      have e1 : (16 * x + y) / 16 = x := by omega
      have e2 : (16 * x + y) % 16 = y := by omega
      rw [List.flatMap_cons, pairs_hex r t' ht, e, e1, e2, x2, y2]; rfl
    · cases h

theorem unhex_hex {l t : List UInt8} (h : unhexL l = some t) : hexL t = l := by
  unfold unhexL at h
  split at h
  · rename_i e; obtain rfl : [] = t := by simpa using h
    rw [e]; rfl
  · split at h
    · cases h
    · rename_i hne
      have h1 := pairs_hex l t h
      have ht : t ≠ [] := by rintro rfl; exact hne h1.symm
      unfold hexL
      rw [if_neg ht, h1]

theorem hex_pairs : ∀ t : List UInt8, unPairs (t.flatMap fun c => [hexD (c.toNat / 16), hexD (c.toNat % 16)]) = some t
  | [] => rfl
  | c :: t => by
    have hc := c.toNat_lt
    simp only [List.flatMap_cons, List.cons_append, List.nil_append]
    unfold unPairs
    rw [unD_hexD (by omega), unD_hexD (by omega), hex_pairs t]
    have : 16 * (c.toNat / 16) + c.toNat % 16 = c.toNat := by omega
    simp only [this]
    simp
theorem hexD_ne (x : Nat) (h : x < 16) : hexD x ≠ 45 ∧ hexD x ≠ 32 := by
  have : ∀ x : Fin 16, hexD x.val ≠ 45 ∧ hexD x.val ≠ 32 := by decide
  exact this ⟨x, h⟩
theorem hex_unhex (t : List UInt8) : unhexL (hexL t) = some t := by
  unfold hexL
  split
  · rename_i e; subst e; rfl
  · rename_i hne
    unfold unhexL
    cases t with
    | nil => exact absurd rfl hne
    | cons c t =>
      rw [if_neg (by simp), if_neg (by simp)]
      exact hex_pairs _
theorem hexL_length (t : List UInt8) : (hexL t).length = max 1 (2 * t.length) := by
  unfold hexL
  split
  · rename_i e; subst e; rfl
  · rename_i hne
    have : ∀ t : List UInt8, (t.flatMap fun c => [hexD (c.toNat / 16), hexD (c.toNat % 16)]).length = 2 * t.length := by
      intro t
      induction t with
      | nil => rfl
      | cons c t ih => rw [List.flatMap_cons, List.length_append, ih]; simp; omega
    rw [this]
    have : 0 < t.length := List.length_pos_iff.2 hne
    omega
theorem hex_noBlank (t : List UInt8) : (32 : UInt8) ∉ hexL t := by
  unfold hexL
  split
  · decide
  · intro h
    obtain ⟨c, _, hc⟩ := List.mem_flatMap.1 h
    have hl := c.toNat_lt
    simp only [List.mem_cons, List.not_mem_nil, or_false] at hc
    rcases hc with hc | hc
    · exact (hexD_ne _ (by omega)).2 hc.symm
    · exact (hexD_ne _ (by omega)).2 hc.symm

/-! Names. -/
def letB (c : Int) : Bool := decide (97 ≤ c) && decide (c ≤ 122) || decide (65 ≤ c) && decide (c ≤ 90)
/-- A byte that may stand in a name. -/
def okB (c : Int) : Bool := letB c || (decide (48 ≤ c) && decide (c ≤ 57)) || decide (c = 46)
def okL (l : List UInt8) : Bool := l.all fun c => okB c.toNat
def nameL (l : List UInt8) : Bool := match l with
  | [] => false
  | c :: r => decide (r.length < 24) && letB c.toNat && okL r
theorem name_noBlank {l : List UInt8} (h : nameL l = true) : (32 : UInt8) ∉ l := by
  intro hm
  cases l with
  | nil => cases hm
  | cons c r =>
    simp only [nameL, Bool.and_eq_true] at h
    rcases List.mem_cons.1 hm with e | e
    · rw [← e] at h; simp [letB] at h
    · have := List.all_eq_true.1 h.2 _ e
      simp [okB, letB] at this

/-! Commands. -/
structure Cmd where
  op : Int
  name : List UInt8
  text : List UInt8
  fuel : Int
  words : Int
  stack : Int
deriving DecidableEq

def wWrite : List UInt8 := [119, 114, 105, 116, 101]
def wDelete : List UInt8 := [100, 101, 108, 101, 116, 101]
def wCompile : List UInt8 := [99, 111, 109, 112, 105, 108, 101]
def wLoad : List UInt8 := [108, 111, 97, 100]
def wRun : List UInt8 := [114, 117, 110]

def parseW : List (List UInt8) → Option Cmd
  | [a, n] => if a = wDelete ∧ nameL n = true then some ⟨2, n, [], 0, 0, 0⟩ else if a = wCompile ∧ nameL n = true then some ⟨3, n, [], 0, 0, 0⟩ else none
  | [a, n, t] =>
    if a = wWrite ∧ nameL n = true then (unhexL t).map fun x => ⟨1, n, x, 0, 0, 0⟩
    else if a = wRun then (numL n).bind fun (k : Nat) => (unhexL t).map fun x => ⟨5, [], x, (k : Int), 0, 0⟩
    else none
  | [a, n, x, y] => if a = wLoad ∧ nameL n = true then (numL x).bind fun (i : Nat) => (numL y).map fun (j : Nat) => ⟨4, n, [], 0, (i : Int), (j : Int)⟩ else none
  | _ => none
def parseL (l : List UInt8) : Option Cmd := parseW (cutL l)

/-- The line of a command, before it is read again. -/
def lineW (c : Cmd) : List UInt8 :=
  if c.op = 1 then wWrite ++ [32] ++ c.name ++ [32] ++ hexL c.text
  else if c.op = 2 then wDelete ++ [32] ++ c.name
  else if c.op = 3 then wCompile ++ [32] ++ c.name
  else if c.op = 4 then wLoad ++ [32] ++ c.name ++ [32] ++ Lib.itoa c.words ++ [32] ++ Lib.itoa c.stack
  else if c.op = 5 then wRun ++ [32] ++ Lib.itoa c.fuel ++ [32] ++ hexL c.text
  else []
def lineL (c : Cmd) : Option (List UInt8) := if parseL (lineW c) = some c then some (lineW c) else none

/-- What was read is written as it was. -/
theorem line_parse {l : List UInt8} {c : Cmd} (h : parseL l = some c) : lineW c = l := by
  unfold parseL at h
  have hj := join_cut l
  generalize hw : cutL l = ws at h hj
  clear hw
  subst hj
  unfold parseW at h
  split at h
  · split at h
    · rename_i e; obtain rfl := Option.some.inj h; simp [lineW, joinL, e.1]
    · split at h
      · rename_i e; obtain rfl := Option.some.inj h; simp [lineW, joinL, e.1]
      · cases h
  · split at h
    · rename_i e
      obtain ⟨x, hx, rfl⟩ := Option.map_eq_some_iff.1 h
      simp [lineW, joinL, e.1, unhex_hex hx]
    · split at h
      · rename_i e
        obtain ⟨k, hk, h⟩ := Option.bind_eq_some_iff.1 h
        obtain ⟨x, hx, rfl⟩ := Option.map_eq_some_iff.1 h
        simp [lineW, joinL, e, unhex_hex hx, num_dec hk]
      · cases h
  · split at h
    · rename_i e
      obtain ⟨k, hk, h⟩ := Option.bind_eq_some_iff.1 h
      obtain ⟨x, hx, rfl⟩ := Option.map_eq_some_iff.1 h
      simp [lineW, joinL, e.1, num_dec hx, num_dec hk]
    · cases h
  · cases h

theorem lineL_parse {l : List UInt8} {c : Cmd} (h : parseL l = some c) : lineL c = some l := by
  unfold lineL
  rw [line_parse h, if_pos h]

/-- No number that was read is below 0. -/
theorem parse_nonneg {l : List UInt8} {c : Cmd} (h : parseL l = some c) : 0 ≤ c.fuel ∧ 0 ≤ c.words ∧ 0 ≤ c.stack := by
  unfold parseL parseW at h
  split at h
  · split at h
    · obtain rfl := Option.some.inj h; simp
    · split at h
      · obtain rfl := Option.some.inj h; simp
      · cases h
  · split at h
    · obtain ⟨x, _, rfl⟩ := Option.map_eq_some_iff.1 h; simp
    · split at h
      · obtain ⟨k, _, h⟩ := Option.bind_eq_some_iff.1 h
        obtain ⟨x, _, rfl⟩ := Option.map_eq_some_iff.1 h; simp
      · cases h
  · split at h
    · obtain ⟨k, _, h⟩ := Option.bind_eq_some_iff.1 h
      obtain ⟨x, _, rfl⟩ := Option.map_eq_some_iff.1 h; simp
    · cases h
  · cases h

def nameAMod : List UInt8 := [65, 46, 77, 111, 100]

theorem line_write (t : List UInt8) : lineL ⟨1, nameAMod, t, 0, 0, 0⟩ = some (wWrite ++ [32] ++ nameAMod ++ [32] ++ hexL t) := by
  have e : lineW ⟨1, nameAMod, t, 0, 0, 0⟩ = joinL [wWrite, nameAMod, hexL t] := by simp [lineW, joinL]
  have hp : parseL (lineW ⟨1, nameAMod, t, 0, 0, 0⟩) = some ⟨1, nameAMod, t, 0, 0, 0⟩ := by
    rw [parseL, e, cut_join _ (by simp) (by
      intro a ha
      simp only [List.mem_cons, List.not_mem_nil, or_false] at ha
      rcases ha with rfl | rfl | rfl
      · decide
      · decide
      · exact hex_noBlank t)]
    have ha : nameL nameAMod = true := by decide
    simp only [parseW, ha, hex_unhex, and_self, if_true]; rfl
  unfold lineL
  rw [if_pos hp]
  rfl
theorem line_run (t : List UInt8) : lineL ⟨5, [], t, 7, 0, 0⟩ = some (wRun ++ [32] ++ [55] ++ [32] ++ hexL t) := by
  have e7 : Lib.itoa 7 = [55] := by decide +kernel
  have n7 : numL [55] = some 7 := by decide +kernel
  have e : lineW ⟨5, [], t, 7, 0, 0⟩ = joinL [wRun, [55], hexL t] := by simp [lineW, joinL, e7]
  have hp : parseL (lineW ⟨5, [], t, 7, 0, 0⟩) = some ⟨5, [], t, 7, 0, 0⟩ := by
    rw [parseL, e, cut_join _ (by simp) (by
      intro a ha
      simp only [List.mem_cons, List.not_mem_nil, or_false] at ha
      rcases ha with rfl | rfl | rfl
      · decide
      · decide
      · exact hex_noBlank t)]
    have hne : ¬ (wRun = wWrite ∧ nameL [55] = true) := by decide
    simp only [parseW]
    rw [if_neg hne, if_pos trivial, n7, hex_unhex]; rfl
  unfold lineL
  rw [if_pos hp]
  simp [lineW, e7]
end Go.Proofs.YtiblpkgbabjmfaaGreatDoor
