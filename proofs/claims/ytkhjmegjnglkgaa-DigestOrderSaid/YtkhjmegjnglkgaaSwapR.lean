/-
  slices.swapRangeCmpFunc at operations.
-/
import Derived.Test.YtkhjmegjnglkgaaIndexF
import Derived.Test.YtkhjmegjnglkgaaSymP
import Derived.Shelf.SlSortCmp.KitK
import Derived.Sort.WalkB2
import Derived.Sort.WalkB12
import Derived.Deep.LoopGhost
namespace Go.Proofs.Ytkhjmegjnglkgaa.Vc
open Go.RowKit Go.Proofs.Ytkhjmegjnglkgaa.Wd Go.Sort Go.Proofs Go.Lib Go.Proofs.Ytkhjmegjnglkgaa.Sym
set_option linter.unusedVariables false

abbrev SW (w0 : World) (blk off : Nat) (d : Array OpN) (w : World) : Prop := SWK encO 23 w0 blk off d w
theorem loadK {W : World} {a : Addr} {cs : List Value} (h : Sem.run Try.prog (loadCellsFrom a 0 23 #[]) W = .ok cs.toArray W) : (ldK 54 a).run Try.prog W = .ok (.agg cs.toArray) W := by
  obtain ⟨i, hi⟩ := info_of_underlying Try.underlying54
  have hsz : i.size = 23 := by
    have h2 : (Try.prog.info? 54).map (·.size) = some 23 := by kernel_rfl
    rw [hi] at h2
    simpa using h2
  simp [ldK, loadVar, Sem.run_bind, Try.isAgg54, sizeOf, typeInfo, hi, hsz, loadCells, h]
theorem storeK {W W' : World} {a : Addr} {cs : List Value} (hl : cs.length = 23) (h : Sem.run Try.prog (storeCells a cs 0) W = .ok () W') : (stK 54 a (.agg cs.toArray)).run Try.prog W = .ok () W' := by
  simp [stK, storeVar, Value.cells, hl, h]
/-- What an exchange wants. -/
structure SwapF (w0 : World) (blk off : Nat) (d : Array OpN) (w : World) (i j : Nat) (cI cJ : List Value) (T : World) : Prop where
  la : (ldK 54 ⟨blk, off + i * 23, none⟩).run Try.prog w.drew = .ok (.agg cI.toArray) w.drew
  lb : (ldK 54 ⟨blk, off + j * 23, none⟩).run Try.prog w.drew = .ok (.agg cJ.toArray) w.drew
  sa : (stK 54 ⟨blk, off + i * 23, none⟩ (.agg cJ.toArray)).run Try.prog w.drew = .ok () (w.drew.setCells blk (off + i * 23) cJ)
  sb : (stK 54 ⟨blk, off + j * 23, none⟩ (.agg cI.toArray)).run Try.prog (w.drew.setCells blk (off + i * 23) cJ) = .ok () T
  sw : SW w0 blk off (swp d i j) T
theorem swapF {w0 w : World} {blk off : Nat} {d0 d : Array OpN} (R : RowK encO 23 w0 blk off d0) (hs : d.size = d0.size) (S : SW w0 blk off d w) (i j : Nat) (hi : i < d.size) (hj : j < d.size) : ∃ cI cJ T, SwapF w0 blk off d w i j cI cJ T :=
  ⟨encO d[i]!, encO d[j]!, _, loadK (S.ld1 R hs Try.prog i hi), loadK (S.ld1 R hs Try.prog j hj), storeK (R.hk _) (S.st1 R hs Try.prog i hi _), storeK (R.hk _) (S.st2 R hs Try.prog i j hi hj _ _), S.swapped R i j hi hj⟩
attribute [local go_sem ↓] ldKx stKx
set_option maxHeartbeats 4000000 in
set_option maxRecDepth 1000000 in
theorem swapRange_any (blk off cap a b n : Nat) (d0 d : Array OpN) (w0 w : World) (R : RowK encO 23 w0 blk off d0) (hs : d.size = d0.size) (S : SW w0 blk off d w) (hab : a + n ≤ b) (hb : b + n ≤ d.size) (hsz : d.size < 1000000) (F : Value) :
    Calls Try.prog 48 #[.slice (some ⟨blk, off, none⟩) d.size cap, .int .i64 a, .int .i64 b, .int .i64 n, F] w fun e w' => e = .returned (.tuple #[]) ∧ SW w0 blk off (swapR d a b n) w' := by
  have S0 := Lib.hid S
  clear S
  go_enter Try.func48, Try.ntmps48
  go_wp2_with fail
  go_loopw [10] (fun i wr => ∃ k : Nat, k ≤ n ∧ i = .int .i64 (k : Int) ∧ Hid (SW w0 blk off (swapR d a b k) wr)) (fun i _ => n - (intOf i).toNat)
  case atStart => exact ⟨0, Nat.zero_le _, rfl, S0.out⟩
  case round =>
    obtain ⟨k, hk, rfl, S1⟩ := hrel
    by_cases hlt : k < n
    · have hz := swapR_size d a b k
      obtain ⟨cI, cJ, T, hF⟩ := swapF R (hz.trans hs) S1.out (a + k) (b + k) (by omega) (by omega)
      have la := hF.la
      have lb := hF.lb
      have sa := hF.sa
      have sb := hF.sb
      have ST := Lib.hid hF.sw
      have ea : ((a : Int) + (k : Int)).toNat = a + k := by omega
      have pa : (0 : Int) ≤ (a : Int) + (k : Int) := by omega
      have ba : (a : Int) + (k : Int) < (d.size : Int) := by omega
      have ra : IntKind.i64.wrap ((a : Int) + (k : Int)) = (a : Int) + (k : Int) := by rw [IntKind.wrap_i64]; omega
      have eb : ((b : Int) + (k : Int)).toNat = b + k := by omega
      have pb : (0 : Int) ≤ (b : Int) + (k : Int) := by omega
      have bb : (b : Int) + (k : Int) < (d.size : Int) := by omega
      have rb : IntKind.i64.wrap ((b : Int) + (k : Int)) = (b : Int) + (k : Int) := by rw [IntKind.wrap_i64]; omega
      clear hF S1 hz
      have hmix := mix
      go_wp2_with fail
      go_big_region_o
      clear la lb sa sb
      go_wp2_with fail
      go_roundw
      case rel => exact ⟨k + 1, by omega, by go_num, ST.out⟩
      case measure => simp [intOf]; omega
    · have hkn : k = n := by omega
      subst hkn
      go_wp2_with fail
      go_end0
      exact ⟨rfl, S1.out⟩
end Go.Proofs.Ytkhjmegjnglkgaa.Vc
