/-
  The writer's Num, Bytes and All.
  The reader: Read, Num, Bytes and Done, on bytes that are as they should be.
  The reader's Bytes, Done and its failure.
  The reader's Bytes where too few are left.
-/
import Derived.Test.YtgogbpkcceadbaaGreatDoorPackA
import Derived.BigQuiet
import Derived.Test.YtgogbpkcceadbaaGreatDoorVintM
namespace Go.Proofs.YtgogbpkcceadbaaGreatDoor.Pk
open Go.RowKit Go.Proofs.YtgogbpkcceadbaaGreatDoor.Wd Go.Proofs.YtgogbpkcceadbaaGreatDoor.VintW Go.Proofs.YtgogbpkcceadbaaGreatDoor.VintP
set_option linter.unusedVariables false

theorem RdL.new1 (w : World) (T : TypeId) {A : Option Addr} {c : Nat} {xs : List Nat} (h : RdB w A xs.length xs) (hc : xs.length ≤ c) :
    RdL (w.alloc (.cells #[.slice A xs.length c] T)) (some ⟨w.heap.size, 0, none⟩) 1 [xs] :=
  ⟨rfl, by decide, fun _ => ⟨_, rfl, fun j hj => by
    have h0 : j = 0 := by omega
    subst h0
    refine ⟨A, c, ?_, hc, h.below ((Below.refl _ _).alloc (Nat.le_refl _) _)⟩
    show (w.alloc _).cell? ⟨w.heap.size, 0, none⟩ = _
    rw [cell_of_row _ w.heap.size 0 _ _ _ (heap_alloc_new w _)]
    rfl⟩⟩
theorem RdL.new2 (w : World) (T : TypeId) {A B : Option Addr} {c d : Nat} {xs ys : List Nat} (h : RdB w A xs.length xs) (hc : xs.length ≤ c) (h' : RdB w B ys.length ys) (hd : ys.length ≤ d) :
    RdL (w.alloc (.cells #[.slice A xs.length c, .slice B ys.length d] T)) (some ⟨w.heap.size, 0, none⟩) 2 [xs, ys] :=
  ⟨rfl, by decide, fun _ => ⟨_, rfl, fun j hj => by
    have h01 : j = 0 ∨ j = 1 := by omega
    rcases h01 with rfl | rfl
    · refine ⟨A, c, ?_, hc, h.below ((Below.refl _ _).alloc (Nat.le_refl _) _)⟩
      show (w.alloc _).cell? ⟨w.heap.size, 0, none⟩ = _
      rw [cell_of_row _ w.heap.size 0 _ _ _ (heap_alloc_new w _)]
      rfl
    · refine ⟨B, d, ?_, hd, h'.below ((Below.refl _ _).alloc (Nat.le_refl _) _)⟩
      show (w.alloc _).cell? ⟨w.heap.size, 0 + 1, none⟩ = _
      rw [cell_of_row _ w.heap.size (0 + 1) _ _ _ (heap_alloc_new w _)]
      rfl⟩⟩
set_option maxHeartbeats 2000000 in
set_option maxRecDepth 100000 in
theorem num_any (B g : Nat) (v : Value) (bs : List Nat) (n : Nat) (w : World) (h : WrAt w B g v bs) (hn : n ≤ 18446744073709551615) (hs : bs.length + (enc n).length ≤ 65536) :
    Calls Tryz.prog 31 #[.pointer (some ⟨g, 0, none⟩), .int .u64 (n : Int)] w fun e w' => e = .returned (.int .i64 0) ∧ (∃ v', WrAt w' B g v' (bs ++ enc n)) ∧ Below B w w' := by
  have Q := Lib.hid (put_any n w hn)
  have hBw : B ≤ w.heap.size := by have := h.lt; have := h.base; omega
  have H := Lib.hid h
  have HS := Lib.hid hs
  have HB := Lib.hid hBw
  clear h hs hBw
  go_enter Tryz.func31, Tryz.ntmps31
  go_wp2_with fail
  refine Q.out.mono ?_
  rintro e w1 ⟨v2, rfl, ho2, hb2⟩
  obtain ⟨A2, k2, rfl, hk2, hrd⟩ := ho2.rd
  have hb3 : Below w.heap.size w (w1.alloc (.cells #[.slice A2 (enc n).length k2] 41)) := hb2.alloc hb2.size _
  have q := lay_any B g v bs (some ⟨w1.heap.size, 0, none⟩) 1 1 [enc n] (w1.alloc (.cells #[.slice A2 (enc n).length k2] 41)) (H.out.below hb3) (RdL.new1 w1 _ hrd hk2) (by simpa using HS.out)
  have hb4 := hb3.mono HB.out
  generalize hm2 : (enc n).length = m2 at hk2 hrd q hb4 ⊢
  have Q2 := Lib.hid q
  have HB4 := Lib.hid hb4
  clear hb2 ho2 hrd hb3 hb4 hm2 q
  go_wp2_with fail
  refine Q2.out.mono ?_
  rintro e w2 ⟨rfl, ⟨v3, h3⟩, hb5⟩
  rw [show [enc n].flatten = enc n by simp] at h3
  have H3 := Lib.hid h3
  have HB5 := Lib.hid hb5
  clear h3 hb5
  go_wp2_with fail
  go_ret
  exact ⟨rfl, ⟨_, H3.out⟩, HB4.out.trans HB5.out⟩
set_option maxHeartbeats 2000000 in
set_option maxRecDepth 100000 in
theorem bytes_any (B g : Nat) (v : Value) (bs : List Nat) (A : Option Addr) (m c : Nat) (b : List Nat) (w : World) (h : WrAt w B g v bs) (hb : RdB w A m b) (hm : m ≤ c) (hs : bs.length + ((enc m).length + m) ≤ 65536) :
    Calls Tryz.prog 26 #[.pointer (some ⟨g, 0, none⟩), .slice A m c] w fun e w' => e = .returned (.int .i64 0) ∧ (∃ v', WrAt w' B g v' (bs ++ (enc m ++ b))) ∧ Below B w w' := by
  have Q := Lib.hid (put_any m w (by omega))
  have hBw : B ≤ w.heap.size := by have := h.lt; have := h.base; omega
  have hfit := hb.fits
  have H := Lib.hid h
  have HS := Lib.hid hs
  have HB := Lib.hid hBw
  have HR := Lib.hid hb
  have hm0 : (m : Int) ≤ 65536 := by omega
  clear h hs hBw hb
  go_enter Tryz.func26, Tryz.ntmps26
  go_wp2_with fail
  refine Q.out.mono ?_
  rintro e w1 ⟨v2, rfl, ho2, hb2⟩
  obtain ⟨A2, k2, rfl, hk2, hrd⟩ := ho2.rd
  have hml := HR.out.len
  have hrb := HR.out.below hb2
  have hb3 : Below w.heap.size w (w1.alloc (.cells #[.slice A2 (enc m).length k2, .slice A m c] 41)) := hb2.alloc hb2.size _
  have hl2 := RdL.new2 w1 41 hrd hk2 (c := k2) (B := A) (d := c) (ys := b) (by rw [hml]; exact hrb) (by rw [hml]; exact hm)
  rw [hml] at hl2
  have q := lay_any B g v bs (some ⟨w1.heap.size, 0, none⟩) 2 2 [enc m, b] (w1.alloc (.cells #[.slice A2 (enc m).length k2, .slice A m c] 41)) (H.out.below hb3) hl2 (by have := HS.out; simp [hml]; omega)
  have hb4 := hb3.mono HB.out
  generalize hm2 : (enc m).length = m2 at hk2 hrd q hb4 ⊢
  have Q2 := Lib.hid q
  have HB4 := Lib.hid hb4
  clear hb2 ho2 hrd hb3 hb4 hm2 q hml hrb hl2
  go_wp2_with fail
  refine Q2.out.mono ?_
  rintro e w2 ⟨rfl, ⟨v3, h3⟩, hb5⟩
  rw [show [enc m, b].flatten = enc m ++ b by simp] at h3
  have H3 := Lib.hid h3
  have HB5 := Lib.hid hb5
  clear h3 hb5
  go_wp2_with fail
  go_ret
  exact ⟨rfl, ⟨_, H3.out⟩, HB4.out.trans HB5.out⟩
set_option maxHeartbeats 2000000 in
set_option maxRecDepth 100000 in
theorem all_any (B g : Nat) (v : Value) (bs : List Nat) (w : World) (h : WrAt w B g v bs) (hs : bs.length ≤ 65536) :
    Calls Tryz.prog 48 #[.pointer (some ⟨g, 0, none⟩)] w fun e w' => ∃ v', e = .returned (.tuple #[v', .int .i64 0]) ∧ OwnB w' w.heap.size v' bs ∧ Below w.heap.size w w' := by
  have c0 := h.c0
  have c1 := h.c1
  have c2 := h.c2
  obtain ⟨A, k, rfl, hk, hrd⟩ := h.own.rd
  have q := clone_all bs.length k A bs w hrd hs
  generalize bs.length = m at c2 q
  have Q := Lib.hid q
  clear h hs hrd q
  go_enter Tryz.func48, Tryz.ntmps48
  go_wp2_with fail
  refine Q.out.mono ?_
  rintro e w1 ⟨v2, rfl, ho2, hb2⟩
  obtain ⟨A2, m2, k2, rfl⟩ := is_slice ho2
  have HO := Lib.hid ho2
  have HB := Lib.hid hb2
  clear ho2 hb2
  go_wp2_with fail
  go_ret2
  exact ⟨_, rfl, HO.out, HB.out⟩
end Go.Proofs.YtgogbpkcceadbaaGreatDoor.Pk
namespace Go.Proofs.YtgogbpkcceadbaaGreatDoor.Pk
open Go.RowKit Go.Proofs.YtgogbpkcceadbaaGreatDoor.Wd Go.Proofs.YtgogbpkcceadbaaGreatDoor.VintW Go.Proofs.YtgogbpkcceadbaaGreatDoor.VintP
set_option linter.unusedVariables false

theorem add_block (a : Addr) (k : Nat) : (a.add k).block = a.block := by
  unfold Addr.add
  split <;> rfl
/-- A reader of which these bytes are left, and no error. -/
structure RrAt (w : World) (g : Nat) (A : Option Addr) (c : Nat) (bs : List Nat) : Prop where
  row : w.heap[g]? = some (.cells #[.bool true, .int .i64 0, .slice A bs.length c] 130 (0, 0))
  cap : bs.length ≤ c
  rd : RdB w A bs.length bs
  ne : ∀ ad, A = some ad → ad.block < g
theorem RrAt.lt {w : World} {g c : Nat} {A : Option Addr} {bs : List Nat} (h : RrAt w g A c bs) : g < w.heap.size := (Array.getElem?_eq_some_iff.1 h.row).1
theorem RrAt.below {w w' : World} {g c : Nat} {A : Option Addr} {bs : List Nat} (h : RrAt w g A c bs) (hb : Below w.heap.size w w') : RrAt w' g A c bs :=
  ⟨by rw [hb.block g h.lt]; exact h.row, h.cap, h.rd.below hb, h.ne⟩
theorem RrAt.c0 {w : World} {g c : Nat} {A : Option Addr} {bs : List Nat} (h : RrAt w g A c bs) : w.cell? ⟨g, 0, none⟩ = some (.bool true) := by rw [cell_of_row w g 0 _ _ _ h.row]; rfl
theorem RrAt.c1 {w : World} {g c : Nat} {A : Option Addr} {bs : List Nat} (h : RrAt w g A c bs) : w.cell? ⟨g, 1, none⟩ = some (.int .i64 0) := by rw [cell_of_row w g 1 _ _ _ h.row]; rfl
theorem RrAt.c2 {w : World} {g c : Nat} {A : Option Addr} {bs : List Nat} (h : RrAt w g A c bs) : w.cell? ⟨g, 2, none⟩ = some (.slice A bs.length c) := by rw [cell_of_row w g 2 _ _ _ h.row]; rfl
theorem RrAt.fz {w : World} {g c : Nat} {A : Option Addr} {bs : List Nat} (h : RrAt w g A c bs) (k : Nat) : w.frozen? ⟨g, k, none⟩ = false := by simp [World.frozen?, h.row]
/-- Its first bytes are let go. -/
theorem RrAt.moved {w : World} {g c : Nat} {A : Option Addr} {xs ys : List Nat} (h : RrAt w g A c (xs ++ ys)) :
    RrAt (w.setCell ⟨g, 2, none⟩ (.slice (if c = xs.length then A else A.map (·.add xs.length)) ys.length (c - xs.length))) g (if c = xs.length then A else A.map (·.add xs.length)) (c - xs.length) ys := by
  have hcap := h.cap
  rw [List.length_append] at hcap
  have hd := h.rd.drop (k := xs.length) (cap := c) (by simp) h.cap
  rw [List.drop_left, List.length_append, Nat.add_sub_cancel_left] at hd
  have hne : ∀ ad, (if c = xs.length then A else A.map (·.add xs.length)) = some ad → ad.block < g := by
    intro ad he
    by_cases hc : c = xs.length
    · rw [if_pos hc] at he; exact h.ne ad he
    · rw [if_neg hc] at he
      cases hA : A with
      | none => rw [hA] at he; cases he
      | some a => rw [hA] at he; injection he with he; rw [← he]; have h9 := h.ne a hA; rwa [← add_block a xs.length] at h9
  refine ⟨?_, by omega, ⟨hd.len, hd.fits, hd.small, fun h0 => ?_⟩, hne⟩
  · rw [setCell_eq_setRow w g 2 _ _ _ _ h.row, setRow_heap w g _ _ _ _ h.row]
    rfl
  · obtain ⟨ad, e, hc⟩ := hd.cell h0
    refine ⟨ad, e, fun j hj => ?_⟩
    have hb := (grown_setCell w g 2 (.slice (if c = xs.length then A else A.map (·.add xs.length)) ys.length (c - xs.length))).block (ad.add j).block (World.block_lt_of_cell? w _ (hc j hj)) (fun e2 => by injection e2 with e2; exact absurd ((add_block ad _).symm.trans e2) (Nat.ne_of_lt (hne ad e)))
    rw [World.cell?_of_block (w := w) hb]
    exact hc j hj
set_option maxHeartbeats 2000000 in
set_option maxRecDepth 100000 in
theorem read_any (n cap : Nat) (A : Option Addr) (xs : List Nat) (w : World) (hx : RdB w A n xs) (hn : n ≤ 65536) :
    Calls Tryz.prog 55 #[.slice A n cap] w fun e w' => ∃ g A' c', e = .returned (.pointer (some ⟨g, 0, none⟩)) ∧ w.heap.size ≤ g ∧ RrAt w' g A' c' xs ∧ Below w.heap.size w w' := by
  have Q := Lib.hid (clone_all n cap A xs w hx hn)
  clear hx hn
  go_enter Tryz.func55, Tryz.ntmps55
  go_wp2_with fail
  refine Q.out.mono ?_
  rintro e w1 ⟨v2, rfl, ho2, hb2⟩
  obtain ⟨A2, k2, rfl, hk2, hrd⟩ := ho2.rd
  have hne : ∀ ad, A2 = some ad → ad.block < w1.heap.size := by
    rintro ad rfl
    exact (ho2.row.lt ad.block rfl).2
  have hb3 : Below w.heap.size w (w1.alloc (.cells #[.bool true, .int .i64 0, .slice A2 xs.length k2] 130)) := hb2.alloc hb2.size _
  have hr : RrAt (w1.alloc (.cells #[.bool true, .int .i64 0, .slice A2 xs.length k2] 130)) w1.heap.size A2 k2 xs :=
    ⟨heap_alloc_new w1 _, hk2, hrd.below ((Below.refl _ _).alloc (Nat.le_refl _) _), hne⟩
  have hs := hb2.size
  generalize xs.length = m at hk2 hrd hr hb3 ⊢
  have HR := Lib.hid hr
  have HB := Lib.hid hb3
  have HS := Lib.hid hs
  clear hne hb2 ho2 hrd hb3 hr hs
  go_wp2_with fail
  go_ret
  exact ⟨_, _, _, rfl, HS.out, HR.out, HB.out⟩
set_option maxHeartbeats 2000000 in
set_option maxRecDepth 100000 in
theorem rnum_ok (g c : Nat) (A : Option Addr) (n : Nat) (rest : List Nat) (w : World) (h : RrAt w g A c (enc n ++ rest)) (hn : n ≤ 18446744073709551615) :
    Calls Tryz.prog 56 #[.pointer (some ⟨g, 0, none⟩)] w fun e w' => e = .returned (.tuple #[.int .u64 (n : Int), .int .i64 0]) ∧ (∃ A' c', RrAt w' g A' c' rest) ∧ w.grownBy w' (some g) := by
  have c0 := h.c0
  have c1 := h.c1
  have c2 := h.c2
  have c3 := h.fz 2
  have hcap := h.cap
  have hfit := h.rd.fits
  have hl := enc_length n
  have hm := h.moved
  have q := get_any (enc n ++ rest).length c A (enc n ++ rest) w h.rd
  rw [get_enc (by omega)] at q
  unfold getVal at q
  rw [List.length_append] at c2 hcap q hfit
  generalize (enc n).length = k at *
  have hg := grown_setCell w g 2 (.slice (if c = k then A else A.map (·.add k)) rest.length (c - k))
  generalize rest.length = m at *
  obtain ⟨L, hL⟩ : ∃ L, L = k + m := ⟨_, rfl⟩
  have e1 : L - k = m := by omega
  rw [← hL] at c2 hcap q hfit
  have i0 : (0 : Int) ≤ (k : Int) := by omega
  have i1 : (k : Int) ≤ (L : Int) := by omega
  have i2 : (L : Int) ≤ (c : Int) := by omega
  by_cases hck : c = k
  · rw [if_pos hck, show c - k = 0 by omega] at hm hg
    subst hck
    have Q := Lib.hid q
    have HM := Lib.hid hm
    have HG := Lib.hid hg
    clear h q hm hg hL hl hn
    go_enter Tryz.func56, Tryz.ntmps56
    go_wp2_with fail
    refine Q.out.mono ?_
    rintro e w' ⟨rfl, rfl⟩
    go_wp2_with fail
    go_ret2
    exact ⟨rfl, ⟨A, 0, HM.out⟩, HG.out⟩
  · rw [if_neg hck] at hm hg
    have Q := Lib.hid q
    have HM := Lib.hid hm
    have HG := Lib.hid hg
    clear h q hm hg hL hl hn
    go_enter Tryz.func56, Tryz.ntmps56
    go_wp2_with fail
    refine Q.out.mono ?_
    rintro e w' ⟨rfl, rfl⟩
    go_wp2_with fail
    go_ret2
    exact ⟨rfl, ⟨A.map (·.add k), c - k, HM.out⟩, HG.out⟩
end Go.Proofs.YtgogbpkcceadbaaGreatDoor.Pk
namespace Go.Proofs.YtgogbpkcceadbaaGreatDoor.Pk
open Go.RowKit Go.Proofs.YtgogbpkcceadbaaGreatDoor.Wd Go.Proofs.YtgogbpkcceadbaaGreatDoor.VintW Go.Proofs.YtgogbpkcceadbaaGreatDoor.VintP
set_option linter.unusedVariables false

theorem grown_trans {a b c : World} {r : Option Nat} (h : a.grownBy b r) (h' : b.grownBy c r) : a.grownBy c r :=
  ⟨h'.os.trans h.os, h'.tape.trans h.tape, h'.output.trans h.output, Nat.le_trans h.size h'.size, fun k hk hr => (h'.block k (Nat.lt_of_lt_of_le hk h.size) hr).trans (h.block k hk hr)⟩
theorem grown_weak {a b : World} (r : Option Nat) (h : Below a.heap.size a b) : a.grownBy b r := ⟨h.os, h.tape, h.output, h.size, fun k hk _ => h.block k hk⟩
theorem RrAt.grown {w w' : World} {g g' c : Nat} {A : Option Addr} {bs : List Nat} (h : RrAt w g A c bs) (hb : w.grownBy w' (some g')) (hne : g < g') : RrAt w' g A c bs :=
  ⟨by rw [hb.block g h.lt (fun e => Nat.ne_of_lt hne (by injection e))]; exact h.row, h.cap, ⟨h.rd.len, h.rd.fits, h.rd.small, fun h0 => by
    obtain ⟨ad, e, hc⟩ := h.rd.cell h0
    refine ⟨ad, e, fun j hj => ?_⟩
    have hb2 := hb.block (ad.add j).block (World.block_lt_of_cell? w _ (hc j hj)) (fun e2 => by injection e2 with e2; exact absurd ((add_block ad _).symm.trans e2) (Nat.ne_of_lt (Nat.lt_trans (h.ne ad e) hne)))
    rw [World.cell?_of_block (w := w) hb2]
    exact hc j hj⟩, h.ne⟩
set_option maxHeartbeats 2000000 in
set_option maxRecDepth 100000 in
theorem done_ok (g c : Nat) (A : Option Addr) (bs : List Nat) (w : World) (h : RrAt w g A c bs) :
    Calls Tryz.prog 57 #[.pointer (some ⟨g, 0, none⟩)] w fun e w' => e = .returned (.bool (decide (bs.length = 0))) ∧ w = w' := by
  have c0 := h.c0
  have c1 := h.c1
  have c2 := h.c2
  clear h
  have hd : ((bs.length : Int) == 0) = decide (bs.length = 0) := by
    rw [Bool.eq_iff_iff]
    simp
  generalize bs.length = m at *
  go_enter Tryz.func57, Tryz.ntmps57
  go_wp2_with fail
  go_ret
  exact ⟨by first | rfl | exact congrArg (fun b => Ending.returned (.bool b)) hd, rfl⟩
set_option maxHeartbeats 4000000 in
set_option maxRecDepth 100000 in
theorem rbytes_ok (g c : Nat) (A : Option Addr) (b rest : List Nat) (w : World) (h : RrAt w g A c (enc b.length ++ (b ++ rest))) (hn : b.length ≤ 65536) :
    Calls Tryz.prog 58 #[.pointer (some ⟨g, 0, none⟩)] w fun e w' => (∃ v, e = .returned (.tuple #[v, .int .i64 0]) ∧ OwnB w' w.heap.size v b) ∧ (∃ A' c', RrAt w' g A' c' rest) ∧ w.grownBy w' (some g) := by
  have q := rnum_ok g c A b.length (b ++ rest) w h (by omega)
  have hlt := h.lt
  have HLT := Lib.hid hlt
  obtain ⟨m, hm⟩ : ∃ m, m = b.length := ⟨_, rfl⟩
  rw [← hm] at q hn
  have HM := Lib.hid hm
  have HN := Lib.hid hn
  have Q := Lib.hid q
  clear h q hm hlt
  go_enter Tryz.func58, Tryz.ntmps58
  go_wp2_with fail
  refine Q.out.mono ?_
  rintro e w1 ⟨rfl, ⟨A1, k1, h1⟩, hg1⟩
  have c0 := h1.c0
  have c1 := h1.c1
  have c2 := h1.c2
  have hcap := h1.cap
  have hfit := h1.rd.fits
  have htk := h1.rd.take (k := m) (by rw [List.length_append, ← HM.out]; omega)
  rw [show (b ++ rest).take m = b by rw [HM.out]; simp] at htk
  have q2 := clone_all m k1 A1 b w1 htk HN.out
  rw [List.length_append, ← HM.out] at c2 hcap hfit
  generalize hr : rest.length = r at c2 hcap hfit
  have HRL := Lib.hid hr
  obtain ⟨L, hL⟩ : ∃ L, L = m + r := ⟨_, rfl⟩
  have e1 : L - m = r := by omega
  rw [← hL] at c2 hcap hfit
  have i0 : (0 : Int) ≤ (m : Int) := by omega
  have i1 : (m : Int) ≤ (L : Int) := by omega
  have i2 : (L : Int) ≤ (k1 : Int) := by omega
  have i3 : (m : Int) ≤ (k1 : Int) := by omega
  have i4 : ¬ (m : Int) > (L : Int) := by omega
  have Q2 := Lib.hid q2
  have H1 := Lib.hid h1
  have G1 := Lib.hid hg1
  clear q2 htk h1 hg1 hL hr
  go_wp2_with fail
  refine Q2.out.mono ?_
  rintro e w2 ⟨v2, rfl, ho2, hb2⟩
  have h2 := H1.out.below hb2
  have d2 : w2.cell? ⟨g, 2, none⟩ = some (.slice A1 L k1) := (hb2.cell (p := ⟨g, 2, none⟩) H1.out.lt).trans c2
  have d3 := h2.fz 2
  have hm2 := h2.moved
  have hg3 := grown_trans G1.out (grown_weak (some g) hb2)
  have hg4 := fun u => grown_trans hg3 (grown_setCell w2 g 2 u)
  have hlt := Nat.lt_of_lt_of_le HLT.out G1.out.size
  have ho3 := fun u => (OwnB.mk (own_base ho2.row (Nat.le_refl _)) ho2.small).kept (grown_setCell w2 g 2 u) (.inr (ho2.ne hlt))
  have ho4 : ∀ u, OwnB (w2.setCell ⟨g, 2, none⟩ u) w.heap.size v2 b := fun u => ⟨own_base (ho3 u).row G1.out.size, ho2.small⟩
  obtain ⟨A2, m2, k2, rfl⟩ := is_slice ho2
  rw [← HM.out, HRL.out] at hm2
  have HO := Lib.hid ho4
  have HG := Lib.hid hg4
  clear ho2 hb2 h2 hg3 hg4 hlt ho3 ho4 c0 c1 c2
  by_cases hck : k1 = m
  · rw [if_pos hck, show k1 - m = 0 by omega] at hm2
    subst hck
    have HM2 := Lib.hid hm2
    clear hm2
    go_wp2_with fail
    go_ret2
    exact ⟨⟨_, rfl, HO.out _⟩, ⟨A1, 0, HM2.out⟩, HG.out _⟩
  · rw [if_neg hck] at hm2
    have HM2 := Lib.hid hm2
    clear hm2
    go_wp2_with fail
    go_ret2
    exact ⟨⟨_, rfl, HO.out _⟩, ⟨A1.map (·.add m), k1 - m, HM2.out⟩, HG.out _⟩
end Go.Proofs.YtgogbpkcceadbaaGreatDoor.Pk
namespace Go.Proofs.YtgogbpkcceadbaaGreatDoor.Pk
open Go.RowKit Go.Proofs.YtgogbpkcceadbaaGreatDoor.Wd Go.Proofs.YtgogbpkcceadbaaGreatDoor.VintW Go.Proofs.YtgogbpkcceadbaaGreatDoor.VintP
set_option linter.unusedVariables false

set_option maxHeartbeats 2000000 in
set_option maxRecDepth 100000 in
theorem fail_any (g : Nat) (e : Int) (w : World) (h1 : w.cell? ⟨g, 1, none⟩ = some (.int .i64 0)) (h2 : w.frozen? ⟨g, 1, none⟩ = false) :
    Calls Tryz.prog 76 #[.pointer (some ⟨g, 0, none⟩), .int .i64 e] w fun en w' => en = .returned (.int .i64 e) ∧ w' = w.setCell ⟨g, 1, none⟩ (.int .i64 e) := by
  have h3 : (w.setCell ⟨g, 1, none⟩ (.int .i64 e)).cell? ⟨g, 1, none⟩ = some (.int .i64 e) := World.cell?_setCell_same w ⟨g, 1, none⟩ _ (by rw [h1])
  have H3 := Lib.hid h3
  clear h3
  go_enter Tryz.func76, Tryz.ntmps76
  go_wp2_with fail
  have h3 := H3.out
  generalize w.setCell ⟨g, 1, none⟩ (.int .i64 e) = w1 at *
  go_wp2_with fail
  go_ret
  exact ⟨rfl, rfl⟩
set_option maxHeartbeats 4000000 in
set_option maxRecDepth 100000 in
theorem rbytes_short (g c n : Nat) (A : Option Addr) (w : World) (h : RrAt w g A c (enc n)) (h0 : 0 < n) (hn : n ≤ 18446744073709551615) :
    Calls Tryz.prog 58 #[.pointer (some ⟨g, 0, none⟩)] w fun e w' => e = .returned (.tuple #[.slice none 0 0, .int .i64 4]) ∧ w.grownBy w' (some g) := by
  have q := rnum_ok g c A n [] w (by rw [List.append_nil]; exact h) hn
  have Q := Lib.hid q
  clear h q
  go_enter Tryz.func58, Tryz.ntmps58
  go_wp2_with fail
  refine Q.out.mono ?_
  rintro e w1 ⟨rfl, ⟨A1, k1, h1⟩, hg1⟩
  have c0 := h1.c0
  have c1 := h1.c1
  have c2 := h1.c2
  have q2 := fail_any g 4 w1 c1 (h1.fz 1)
  have hg2 := grown_trans hg1 (grown_setCell w1 g 1 (.int .i64 4))
  have Q2 := Lib.hid q2
  have H1 := Lib.hid h1
  have G1 := Lib.hid hg2
  rw [show ([] : List Nat).length = 0 by rfl] at c2
  have i1 : (n : Int) > 0 := by omega
  clear q2 h1 hg1 hg2
  go_wp2_with fail
  refine Q2.out.mono ?_
  rintro e w2 ⟨rfl, rfl⟩
  go_wp2_with fail
  go_ret2
  exact ⟨rfl, G1.out⟩
end Go.Proofs.YtgogbpkcceadbaaGreatDoor.Pk
