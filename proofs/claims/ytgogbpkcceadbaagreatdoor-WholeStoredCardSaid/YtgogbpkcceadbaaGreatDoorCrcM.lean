/-
  Plain laws of the check sum CRC-32 over numbers and lists: no program in sight. The step by tables of four bits is the stp bit by bit; both are linear over xor; a byte's step is injective.
  What the functions of package crc and of its reference come to, for every word and every bytes, over a world whose table of four bits holds what the program's text lays.
-/
import Derived.Test.YtgogbpkcceadbaaGreatDoorWords
import Derived.Lib.Hide
import Derived.IntWalk
namespace Go.Proofs.YtgogbpkcceadbaaGreatDoor.CrcP

/-- The table of four bits. -/
def tab : List Nat := [0, 498536548, 997073096, 651767980, 1994146192, 1802195444, 1303535960, 1342533948, 3988292384, 4027552580, 3604390888, 3412177804, 2607071920, 2262029012, 2685067896, 3183342108]
/-- Four bits of a word, by the table. -/
def nib (w : Nat) : Nat := (w / 16) ^^^ (tab.getD (w % 16) 0)
/-- One bit of a word. -/
def bit (w : Nat) : Nat := if w % 2 = 1 then (w / 2) ^^^ 3988292384 else w / 2
/-- A byte into a word, by the table. -/
def stp (w c : Nat) : Nat := nib (nib (w ^^^ c))
/-- A word's bits, so many of them. -/
def bits (n : Nat) (w : Nat) : Nat := match n with
  | 0 => w
  | n + 1 => bit (bits n w)
def takeR (w c : Nat) : Nat := bits 8 (w ^^^ c)
def run (w : Nat) (l : List Nat) : Nat := l.foldl stp w
def next (sum : Nat) (l : List Nat) : Nat := 4294967295 - run (4294967295 - sum) l
def sum (l : List Nat) : Nat := next 0 l

theorem tab_lt (i : Nat) : tab.getD i 0 < 4294967296 := by
  by_cases h : i < 16
  · have : ∀ j : Fin 16, tab.getD j.val 0 < 4294967296 := by decide
    exact this ⟨i, h⟩
  · rw [List.getD_eq_getElem?_getD, List.getElem?_eq_none (by simp [tab]; omega)]; simp

theorem div2_xor (a b : Nat) : (a ^^^ b) / 2 = a / 2 ^^^ b / 2 := by
  have h := Nat.xor_div_two_pow (a := a) (b := b) (n := 1)
  simpa using h
theorem mod2_xor (a b : Nat) : (a ^^^ b) % 2 = (a % 2 + b % 2) % 2 := by
  have h := Nat.xor_mod_two_pow (a := a) (b := b) (n := 1)
  simp only [Nat.pow_one] at h
  rw [h]
  rcases Nat.mod_two_eq_zero_or_one a with ha | ha <;> rcases Nat.mod_two_eq_zero_or_one b with hb | hb <;> rw [ha, hb] <;> rfl

theorem xor4 (a b p : Nat) : (a ^^^ p) ^^^ (b ^^^ p) = a ^^^ b := by
  rw [Nat.xor_assoc, Nat.xor_comm b p, ← Nat.xor_assoc p p b, Nat.xor_self, Nat.zero_xor]
theorem xor_mid (a b c d : Nat) : (a ^^^ b) ^^^ (c ^^^ d) = (a ^^^ c) ^^^ (b ^^^ d) := by
  rw [Nat.xor_assoc, Nat.xor_assoc]; congr 1; rw [← Nat.xor_assoc, ← Nat.xor_assoc, Nat.xor_comm b c]

theorem bit_xor (a b : Nat) : bit (a ^^^ b) = bit a ^^^ bit b := by
  have hd := div2_xor a b
  have hm := mod2_xor a b
  unfold bit
  rcases Nat.mod_two_eq_zero_or_one a with ha | ha <;> rcases Nat.mod_two_eq_zero_or_one b with hb | hb
  · rw [if_neg (by omega), if_neg (by omega), if_neg (by omega), hd]
  · rw [if_pos (by omega), if_neg (by omega), if_pos (by omega), hd, Nat.xor_assoc]
  · rw [if_pos (by omega), if_pos (by omega), if_neg (by omega), hd, Nat.xor_assoc, Nat.xor_assoc, Nat.xor_comm (b / 2)]
  · rw [if_neg (by omega), if_pos (by omega), if_pos (by omega), hd, xor4]
theorem bits_xor (n : Nat) (a b : Nat) : bits n (a ^^^ b) = bits n a ^^^ bits n b := by
  induction n with
  | zero => rfl
  | succ n ih => simp only [bits, ih, bit_xor]
theorem bits_add (m n : Nat) (a : Nat) : bits (m + n) a = bits m (bits n a) := by
  induction m with
  | zero => simp [bits]
  | succ m ih => rw [Nat.succ_add]; simp only [bits, ih]

theorem bit_even (h : Nat) : bit (2 * h) = h := by
  unfold bit
  rw [if_neg (by omega)]; omega
theorem bits4_hi (h : Nat) : bits 4 (16 * h) = h := by
  have e3 : 16 * h = 2 * (2 * (2 * (2 * h))) := by omega
  show bit (bit (bit (bit (16 * h)))) = h
  rw [e3, bit_even, bit_even, bit_even, bit_even]
theorem bits4_lo (r : Nat) (h : r < 16) : bits 4 r = tab.getD r 0 := by
  have : ∀ j : Fin 16, bits 4 j.val = tab.getD j.val 0 := by decide
  exact this ⟨r, h⟩
theorem split16 (w : Nat) : w = (16 * (w / 16)) ^^^ (w % 16) := by
  have h := Nat.two_pow_add_eq_or_of_lt (i := 4) (b := w % 16) (Nat.mod_lt _ (by decide)) (w / 16)
  have e : 16 * (w / 16) + w % 16 = w := Nat.div_add_mod w 16
  apply Nat.eq_of_testBit_eq
  intro i
  rw [Nat.testBit_xor]
  have hlow : (w % 16).testBit i = (decide (i < 4) && w.testBit i) := Nat.testBit_mod_two_pow w 4 i
  have hhi : (16 * (w / 16)).testBit i = (decide (i ≥ 4) && w.testBit i) := by
    have := Nat.testBit_two_pow_mul (i := 4) (a := w / 16) (j := i)
    rw [show (16 : Nat) = 2 ^ 4 by decide, this]
    by_cases hi : i ≥ 4
    · simp only [hi, decide_true, Bool.true_and]
      rw [show w / 16 = w / 2 ^ 4 by rfl, Nat.testBit_div_two_pow, Nat.sub_add_cancel hi]
    · simp [hi]
  rw [hlow, hhi]
  by_cases hi : i < 4
  · have h4 : ¬ i ≥ 4 := by omega
    simp [hi, h4]
  · have h4 : i ≥ 4 := by omega
    simp [hi, h4]
theorem nib_bits (w : Nat) : nib w = bits 4 w := by
  rw [show bits 4 w = bits 4 ((16 * (w / 16)) ^^^ (w % 16)) from congrArg _ (split16 w), bits_xor, bits4_hi, bits4_lo _ (Nat.mod_lt _ (by decide))]
  rfl
theorem stp_take (w c : Nat) : stp w c = takeR w c := by
  unfold stp takeR
  rw [nib_bits, nib_bits, ← bits_add]

theorem bit_lt {w : Nat} (h : w < 4294967296) : bit w < 4294967296 := by
  unfold bit
  split
  · exact Nat.xor_lt_two_pow (n := 32) (by omega) (by decide)
  · omega
theorem bits_lt (n : Nat) {w : Nat} (h : w < 4294967296) : bits n w < 4294967296 := by
  induction n with
  | zero => exact h
  | succ n ih => exact bit_lt ih
theorem nib_lt {w : Nat} (h : w < 4294967296) : nib w < 4294967296 := by rw [nib_bits]; exact bits_lt 4 h
theorem xor_lt {a b : Nat} (ha : a < 4294967296) (hb : b < 4294967296) : a ^^^ b < 4294967296 := Nat.xor_lt_two_pow (n := 32) ha hb
theorem stp_lt {w c : Nat} (h : w < 4294967296) (hc : c < 256) : stp w c < 4294967296 := nib_lt (nib_lt (xor_lt h (by omega)))
theorem run_lt {w : Nat} {l : List Nat} (h : w < 4294967296) (hl : ∀ c ∈ l, c < 256) : run w l < 4294967296 := by
  induction l generalizing w with
  | nil => exact h
  | cons c l ih => exact ih (stp_lt h (hl c (by simp))) (fun x hx => hl x (by simp [hx]))
theorem run_append (w : Nat) (a b : List Nat) : run w (a ++ b) = run (run w a) b := by simp [run, List.foldl_append]
theorem run_snoc (w : Nat) (a : List Nat) (c : Nat) : run w (a ++ [c]) = stp (run w a) c := by simp [run, List.foldl_append]

/-- The complement is a xor. -/
theorem compl_xor {a : Nat} (h : a < 4294967296) : 4294967295 - a = a ^^^ 4294967295 := by
  apply Nat.eq_of_testBit_eq
  intro i
  rw [Nat.testBit_xor, show (4294967295 : Nat) = 2 ^ 32 - 1 by decide, Nat.testBit_two_pow_sub_one]
  have := Nat.testBit_two_pow_sub_succ (n := 32) (x := a) h i
  rw [show 2 ^ 32 - 1 - a = 2 ^ 32 - (a + 1) by omega, this]
  by_cases hi : i < 32
  · simp [hi]
  · have : a.testBit i = false := Nat.testBit_lt_two_pow (Nat.lt_of_lt_of_le h (by
      have : 2 ^ 32 ≤ 2 ^ i := Nat.pow_le_pow_right (by omega) (by omega)
      omega))
    simp [hi, this]
theorem next_lt {s : Nat} {l : List Nat} : next s l < 4294967296 := by unfold next; omega

/-! ### Linear over xor -/
theorem stp_xor (a b c d : Nat) : stp (a ^^^ b) (c ^^^ d) = stp a c ^^^ stp b d := by
  rw [stp_take, stp_take, stp_take]
  unfold takeR
  rw [← bits_xor, xor_mid]
def xors : List Nat → List Nat → List Nat
  | a :: l, b :: m => (a ^^^ b) :: xors l m
  | _, _ => []
theorem run_xor : ∀ (l m : List Nat) (a b : Nat), l.length = m.length → run (a ^^^ b) (xors l m) = run a l ^^^ run b m
  | [], [], a, b, _ => rfl
  | x :: l, y :: m, a, b, h => by
    show run (stp (a ^^^ b) (x ^^^ y)) (xors l m) = run (stp a x) l ^^^ run (stp b y) m
    rw [stp_xor]
    exact run_xor l m _ _ (by simpa using h)
  | [], _ :: _, _, _, h => by simp at h
  | _ :: _, [], _, _, h => by simp at h
theorem xors_length : ∀ (l m : List Nat), l.length = m.length → (xors l m).length = l.length
  | [], [], _ => rfl
  | x :: l, y :: m, h => by simp [xors, xors_length l m (by simpa using h)]
  | [], _ :: _, h => by simp at h
  | _ :: _, [], h => by simp at h
theorem xors_lt : ∀ (l m : List Nat), (∀ c ∈ l, c < 256) → (∀ c ∈ m, c < 256) → ∀ c ∈ xors l m, c < 256
  | x :: l, y :: m, hl, hm, c, hc => by
    simp only [xors, List.mem_cons] at hc
    rcases hc with rfl | hc
    · exact Nat.xor_lt_two_pow (n := 8) (hl x (by simp)) (hm y (by simp))
    · exact xors_lt l m (fun c h => hl c (by simp [h])) (fun c h => hm c (by simp [h])) c hc
  | [], _, _, _, c, hc => by simp [xors] at hc
  | _ :: _, [], _, _, c, hc => by simp [xors] at hc
theorem xors_getD : ∀ (l m : List Nat) (i : Nat), l.length = m.length → (xors l m).getD i 0 = l.getD i 0 ^^^ m.getD i 0
  | [], [], i, _ => by simp [xors]
  | x :: l, y :: m, 0, _ => by simp [xors]
  | x :: l, y :: m, i + 1, h => by simpa [xors] using xors_getD l m i (by simpa using h)
  | [], _ :: _, _, h => by simp at h
  | _ :: _, [], _, h => by simp at h

/-- What sums come to in terms of runs. -/
theorem sum_run {l : List Nat} (h : ∀ c ∈ l, c < 256) : sum l = run 4294967295 l ^^^ 4294967295 := by
  unfold sum next
  rw [Nat.sub_zero, compl_xor (run_lt (by decide) h)]
theorem three {a b c : List Nat} (ha : ∀ x ∈ a, x < 256) (hb : ∀ x ∈ b, x < 256) (hc : ∀ x ∈ c, x < 256) (h1 : a.length = b.length) (h2 : a.length = c.length) :
    sum a ^^^ sum b ^^^ sum c = sum (xors (xors a b) c) := by
  have hab := xors_length a b h1
  rw [sum_run ha, sum_run hb, sum_run hc, sum_run (xors_lt _ _ (xors_lt _ _ ha hb) hc)]
  have e1 := run_xor (xors a b) c (4294967295 ^^^ 4294967295) 4294967295 (by omega)
  rw [run_xor a b 4294967295 4294967295 h1] at e1
  rw [Nat.xor_self, Nat.zero_xor] at e1
  rw [e1, xor4, ← Nat.xor_assoc]
def zeros (n : Nat) : List Nat := List.replicate n 0
theorem zeros_lt (n : Nat) : ∀ x ∈ zeros n, x < 256 := fun x hx => by simp [zeros] at hx; omega
theorem differ {a b : List Nat} (ha : ∀ x ∈ a, x < 256) (hb : ∀ x ∈ b, x < 256) (h1 : a.length = b.length) :
    sum a ^^^ sum b = sum (xors a b) ^^^ sum (zeros a.length) := by
  have hz : ∀ d : List Nat, xors d (zeros d.length) = d := by
    intro d
    induction d with
    | nil => rfl
    | cons x d ih => simp only [zeros, List.length_cons, List.replicate_succ, xors, Nat.xor_zero] at ih ⊢; rw [ih]
  have hd := xors_length a b h1
  rw [sum_run ha, sum_run hb, sum_run (xors_lt _ _ ha hb), sum_run (zeros_lt _), xor4, xor4]
  have e1 := run_xor a b 4294967295 4294967295 h1
  have e2 := run_xor (xors a b) (zeros (xors a b).length) 4294967295 4294967295 (by simp [zeros])
  rw [hz] at e2
  rw [← hd, ← e1, ← e2]

/-! ### Pieces -/
theorem pieces {a b : List Nat} (ha : ∀ x ∈ a, x < 256) : next (sum a) b = sum (a ++ b) := by
  have h := run_lt (w := 4294967295) (by decide) ha
  unfold sum next
  rw [Nat.sub_zero, run_append]
  rw [show 4294967295 - (4294967295 - run 4294967295 a) = run 4294967295 a by omega]
theorem next_zero (b : List Nat) : next 0 b = sum b := rfl

/-! ### A byte that is turned -/
theorem bit_zero {w : Nat} (h : w < 4294967296) (e : bit w = 0) : w = 0 := by
  unfold bit at e
  split at e
  · have : w / 2 = 3988292384 := by
      have := congrArg (· ^^^ 3988292384) e
      simpa [Nat.xor_assoc] using this
    omega
  · omega
theorem bits_zero (n : Nat) {w : Nat} (h : w < 4294967296) (e : bits n w = 0) : w = 0 := by
  induction n with
  | zero => exact e
  | succ n ih => exact ih (bit_zero (bits_lt n h) e)
theorem xor_eq_zero {a b : Nat} (h : a ^^^ b = 0) : a = b := by
  have := congrArg (· ^^^ b) h
  simpa [Nat.xor_assoc] using this
theorem stp_inj {a b c d : Nat} (ha : a < 4294967296) (hb : b < 4294967296) (hc : c < 256) (hd : d < 256) (e : stp a c = stp b d) : a ^^^ c = b ^^^ d := by
  rw [stp_take, stp_take] at e
  have : bits 8 ((a ^^^ c) ^^^ (b ^^^ d)) = 0 := by
    rw [bits_xor]; unfold takeR at e; rw [e, Nat.xor_self]
  exact xor_eq_zero (bits_zero 8 (xor_lt (xor_lt ha (by omega)) (xor_lt hb (by omega))) this)
theorem xor_right_inj {a c d : Nat} (h : a ^^^ c = a ^^^ d) : c = d := by
  have := congrArg (a ^^^ ·) h
  simpa [← Nat.xor_assoc] using this
theorem xor_left_inj {a b c : Nat} (h : a ^^^ c = b ^^^ c) : a = b := by
  have := congrArg (· ^^^ c) h
  simpa [Nat.xor_assoc] using this
theorem run_inj : ∀ (l : List Nat) {a b : Nat}, (∀ x ∈ l, x < 256) → a < 4294967296 → b < 4294967296 → run a l = run b l → a = b
  | [], _, _, _, _, _, e => e
  | x :: l, a, b, hl, ha, hb, e => by
    have hx := hl x (by simp)
    have := run_inj l (fun y hy => hl y (by simp [hy])) (stp_lt ha hx) (stp_lt hb hx) e
    exact xor_left_inj (stp_inj ha hb hx hx this)
theorem turned (pre post : List Nat) (c d : Nat) (hp : ∀ x ∈ pre, x < 256) (hq : ∀ x ∈ post, x < 256) (hc : c < 256) (hd : d < 256) (hne : c ≠ d) :
    sum (pre ++ c :: post) ≠ sum (pre ++ d :: post) := by
  intro e
  have m1 : ∀ x ∈ pre ++ c :: post, x < 256 := by
    intro x hx
    simp at hx
    rcases hx with h | rfl | h
    · exact hp x h
    · exact hc
    · exact hq x h
  have m2 : ∀ x ∈ pre ++ d :: post, x < 256 := by
    intro x hx
    simp at hx
    rcases hx with h | rfl | h
    · exact hp x h
    · exact hd
    · exact hq x h
  rw [sum_run m1, sum_run m2] at e
  have e := xor_left_inj e
  rw [run_append, run_append] at e
  have hw := run_lt (w := 4294967295) (by decide) hp
  have e : run (stp (run 4294967295 pre) c) post = run (stp (run 4294967295 pre) d) post := e
  have e := run_inj post hq (stp_lt hw hc) (stp_lt hw hd) e
  exact hne (xor_right_inj (stp_inj hw hw hc hd e))
theorem split_at {xs : List Nat} {i : Nat} (h : i < xs.length) (y : Nat) : xs = xs.take i ++ xs.getD i 0 :: xs.drop (i + 1) ∧ xs.set i y = xs.take i ++ y :: xs.drop (i + 1) := by
  have e : xs.getD i 0 = xs[i] := by rw [List.getD_eq_getElem?_getD, List.getElem?_eq_getElem h]; rfl
  constructor
  · rw [e, List.getElem_cons_drop, List.take_append_drop]
  · rw [List.set_eq_take_append_cons_drop, if_pos h]
/-- One byte turned: the sums are unlike. -/
theorem turned_set {xs : List Nat} (hx : ∀ x ∈ xs, x < 256) {i d : Nat} (hi : i < xs.length) (hd : d < 256) (h0 : d ≠ 0) : sum (xs.set i (xs.getD i 0 ^^^ d)) ≠ sum xs := by
  obtain ⟨e1, e2⟩ := split_at hi (xs.getD i 0 ^^^ d)
  have hc : xs.getD i 0 < 256 := by
    rw [List.getD_eq_getElem?_getD, List.getElem?_eq_getElem hi]; exact hx _ (List.getElem_mem hi)
  rw [e2]
  intro e
  refine turned (xs.take i) (xs.drop (i + 1)) (xs.getD i 0 ^^^ d) (xs.getD i 0) (fun x h => hx x (List.mem_of_mem_take h)) (fun x h => hx x (List.mem_of_mem_drop h)) (Nat.xor_lt_two_pow (n := 8) hc hd) hc ?_ (by rw [e]; exact congrArg sum e1)
  intro e3
  have := xor_right_inj (a := xs.getD i 0) (c := d) (d := 0) (by rw [e3, Nat.xor_zero])
  exact h0 this
end Go.Proofs.YtgogbpkcceadbaaGreatDoor.CrcP
namespace Go.Proofs.YtgogbpkcceadbaaGreatDoor.CrcW
open Go.RowKit Go.Proofs.YtgogbpkcceadbaaGreatDoor.Wd Go.Proofs.YtgogbpkcceadbaaGreatDoor.CrcP

/-- The table's cells hold its numbers. -/
def Tab (w : World) : Prop := ∀ i, i < 16 → w.cell? ⟨0, i, none⟩ = some (.int .u32 ((tab.getD i 0 : Nat) : Int))

theorem Tab.below {w w' : World} (h : Tab w) (hb : Below w.heap.size w w') : Tab w' :=
  fun i hi => (hb.cell (World.block_lt_of_cell? w _ (h i hi))).trans (h i hi)

theorem Tab.drewN {w : World} (h : Tab w) (n : Nat) : Tab (w.drewN n) := h

/-- Four bits of a word, in the walk's own words. -/
theorem four {w : World} (ht : Tab w) {V : Nat} (hV : V < 4294967296) : ∃ R T V' : Nat, R < 16 ∧ Hid (V' = nib V) ∧ V' < 4294967296 ∧ bits .and .u32 (V : Int) 15 = (R : Int) ∧
    w.cell? ⟨0, R, none⟩ = some (.int .u32 (T : Int)) ∧ bits .xor .u32 ((V : Int) / 16) (T : Int) = (V' : Int) := by
  refine ⟨V % 16, tab.getD (V % 16) 0, nib V, Nat.mod_lt _ (by decide), rfl, nib_lt hV, ?_, ht _ (Nat.mod_lt _ (by decide)), ?_⟩
  · have h := u32_and_nat V 15 hV (by decide)
    rw [show V &&& 15 = V % 16 from Nat.and_two_pow_sub_one_eq_mod V 4] at h
    exact h
  · have h := u32_xor_nat (V / 16) (tab.getD (V % 16) 0) (by omega) (tab_lt _)
    rw [show ((V / 16 : Nat) : Int) = (V : Int) / 16 by omega] at h
    exact h
theorem xorIn {W c : Nat} (hW : W < 4294967296) (hc : c < 256) : ∃ V : Nat, Hid (V = W ^^^ c) ∧ V < 4294967296 ∧ bits .xor .u32 (W : Int) (c : Int) = (V : Int) :=
  ⟨W ^^^ c, rfl, xor_lt hW (by omega), u32_xor_nat W c hW (by omega)⟩
theorem compl_u32 {s : Nat} (hs : s < 4294967296) : bits .xor .u32 IntKind.u32.max (s : Int) = ((4294967295 - s : Nat) : Int) := by
  rw [compl_xor hs, Nat.xor_comm]
  exact u32_xor_nat 4294967295 s (by decide) hs
theorem next_next (s : Nat) (xs : List Nat) : 4294967295 - run (4294967295 - s) xs = next s xs := rfl

set_option maxHeartbeats 400000 in
theorem next_any (s n cap : Nat) (A : Option Addr) (xs : List Nat) (w : World) (hs : s < 4294967296) (hx : RdB w A n xs) (ht : Tab w) :
    Calls Tryz.prog 97 #[.int .u32 (s : Int), .slice A n cap] w fun e w' => e = .returned (.int .u32 ((next s xs : Nat) : Int)) ∧ w = w' := by
  have hfit := hx.fits
  have HL := Lib.hid hx.len
  obtain ⟨I, hI⟩ : ∃ I, I = 4294967295 - s := ⟨_, rfl⟩
  have hIl : I < 4294967296 := by omega
  have e0 : bits .xor .u32 IntKind.u32.max (s : Int) = (I : Int) := by rw [hI]; exact compl_u32 hs
  have HI := Lib.hid hI
  clear hI
  go_enter Tryz.func97, Tryz.ntmps97
  go_wp2
  go_loop [5, 12] (fun u i => ∃ k W : Nat, k ≤ n ∧ i = .int .i64 k ∧ u = .int .u32 (W : Int) ∧ W < 4294967296 ∧ Hid (run I (xs.take k) = W)) (fun _ i => n - (intOf i).toNat)
  case atStart => exact ⟨0, I, Nat.zero_le _, rfl, rfl, hIl, rfl⟩
  case round =>
    obtain ⟨k, W, hk, rfl, rfl, hW, HW⟩ := hrel
    by_cases hlt : k < n
    · obtain ⟨ad, rfl, hc, hb⟩ := hx.at_ hlt
      obtain ⟨c, hcc⟩ : ∃ c, c = xs.getD k 0 := ⟨_, rfl⟩
      rw [← hcc] at hc hb
      have HC := Lib.hid hcc
      clear hcc
      obtain ⟨V, HV, hV, e1⟩ := xorIn hW hb
      obtain ⟨R1, T1, V1, hR1, HV1, hV1, e2, c2, e3⟩ := four ht hV
      obtain ⟨R2, T2, V2, hR2, HV2, hV2, e4, c4, e5⟩ := four ht hV1
      have HT := Lib.hid ht
      clear ht hx
      go_wp2
      go_round
      case rel =>
        refine ⟨k + 1, V2, by omega, by go_num, rfl, hV2, ?_⟩
        have hl := HL.out
        unfold Hid
        rw [take_snoc (by omega), run_snoc, HW.out, ← HC.out]
        show nib (nib (W ^^^ c)) = V2
        rw [← HV.out, ← HV1.out, ← HV2.out]
      case measure => simp [intOf]; omega
    · have hkn : k = n := by omega
      have e6 := compl_u32 hW
      obtain ⟨Z, hZ⟩ : ∃ Z : Nat, Z = 4294967295 - W := ⟨_, rfl⟩
      rw [← hZ] at e6
      have HZ := Lib.hid hZ
      have HK := Lib.hid hkn
      clear hZ hkn
      go_wp2
      go_ret
      have hl := HL.out
      have : Z = next s xs := by
        rw [HZ.out, ← HW.out, HK.out, HI.out, ← hl, List.take_length]; rfl
      rw [this]
      exact ⟨rfl, rfl⟩

theorem sum_any (n cap : Nat) (A : Option Addr) (xs : List Nat) (w : World) (hx : RdB w A n xs) (ht : Tab w) :
    Calls Tryz.prog 77 #[.slice A n cap] w fun e w' => e = .returned (.int .u32 ((sum xs : Nat) : Int)) ∧ w = w' := by
  have h := next_any 0 n cap A xs w (by decide) hx ht
  have HX := Lib.hid hx
  have HT := Lib.hid ht
  clear hx ht
  go_enter Tryz.func77, Tryz.ntmps77
  go_wp2_with fail
  refine h.mono ?_
  rintro e w' ⟨rfl, rfl⟩
  go_wp2
  go_ret
  exact ⟨rfl, rfl⟩

/-! ### The reference: bit by bit -/
end Go.Proofs.YtgogbpkcceadbaaGreatDoor.CrcW
