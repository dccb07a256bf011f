/-
  slices.Sort at uint16: the whole
-/
import Derived.Test.YtgogbpkcceadbaaGreatDoorSrtM
import Derived.Sort.WalkA14
import Derived.Sort.LotD7
import Derived.OwnWalkIn
import Derived.TacticsInMore
import Derived.Shelf.RegionOpen
import Derived.Shelf.AbstractIn
import Derived.Sort.AssemblyPlain
import Derived.Test.YtgogbpkcceadbaaGreatDoorSrtA6
import Derived.Test.YtgogbpkcceadbaaGreatDoorSrt7
import Derived.Test.YtgogbpkcceadbaaGreatDoorSrtD
import Derived.Test.YtgogbpkcceadbaaGreatDoorSrtC
import Derived.Test.YtgogbpkcceadbaaGreatDoorSrtC4
import Derived.Test.YtgogbpkcceadbaaGreatDoorSrtB
import Derived.Test.YtgogbpkcceadbaaGreatDoorSrt13
import Derived.Shelf.SortM.So_math_bits_LenIn
import Derived.Sort.EveryDepth
import Derived.WalkKit
import Derived.RegionIn
import Derived.LoopNIn
import Derived.LoopIn
import Derived.Sort.LoopGhostIn
import Derived.Sort.CutIn
import Derived.Sort.QuietIn
namespace Go.Proofs.YtgogbpkcceadbaaGreatDoor.Srt
open Go.Shelf
variable {P : Program} {ρ : Ren}

open Go.RowKit Go.Sort

def pdqWalkIn_intM (P : Program) (ρ : Ren) (D : Nat) : Prop := ∀ (rm blk off cap a b limit : Nat) (d : Array Int) (w : World), pdqDepth ltInt d a b limit true true + 6 ≤ rm → Holds (Value.int .u16) w blk off d → blk < w.heap.size → a ≤ b → b ≤ d.size → d.size < 4611686018427387904 → limit < 4611686018427387904 → Below ltInt a b d →
  CallsIn (Fence.list [ρ.f 5, ρ.f 7, ρ.f 8, ρ.f 10, ρ.f 11, ρ.f 12, ρ.f 13, ρ.f 14, ρ.f 15, ρ.f 16, ρ.f 17, ρ.f 18, ρ.f 20, ρ.f 30, ρ.f 31, ρ.f 32, ρ.f 33, ρ.f 34, ρ.f 35, ρ.f 40] (some D)) rm P (ρ.f 7) #[.slice (some ⟨blk, off, none⟩) d.size cap, .int .i64 a, .int .i64 b, .int .i64 limit] w fun e w' =>
    e = .returned (.tuple #[]) ∧ ∃ n os, w' = grow (putRow (Value.int .u16) (Sort.ahead w n) blk off (Sort.pdq ltInt d a b limit true true)) os
def lenWalkInM (P : Program) (ρ : Ren) (D : Nat) : Prop := ∀ (n : Nat) (w : World), n < 4611686018427387904 → CallsIn (Fence.list [ρ.f 5, ρ.f 7, ρ.f 8, ρ.f 10, ρ.f 11, ρ.f 12, ρ.f 13, ρ.f 14, ρ.f 15, ρ.f 16, ρ.f 17, ρ.f 18, ρ.f 20, ρ.f 30, ρ.f 31, ρ.f 32, ρ.f 33, ρ.f 34, ρ.f 35, ρ.f 40] (some D)) 1 P (ρ.f 8) #[.int .u64 (n : Int)] w fun e w' => e = .returned (.int .i64 (bitsLen n : Nat)) ∧ w' = w

set_option maxRecDepth 100000 in
theorem AnySM.Sort_intIn (Ly : SrtL P ρ) (D : Nat) (hpdq : pdqWalkIn_intM P ρ D) (hlen : lenWalkInM P ρ D) (blk off cap : Nat) (d : Array Int) (w : World) (hH : Holds (Value.int .u16) w blk off d) (hblk : blk < w.heap.size) (hsz : d.size < 4611686018427387904) :
    CallsIn (Fence.list [ρ.f 5, ρ.f 7, ρ.f 8, ρ.f 10, ρ.f 11, ρ.f 12, ρ.f 13, ρ.f 14, ρ.f 15, ρ.f 16, ρ.f 17, ρ.f 18, ρ.f 20, ρ.f 30, ρ.f 31, ρ.f 32, ρ.f 33, ρ.f 34, ρ.f 35, ρ.f 40] (some D)) 66 P (ρ.f 5) #[.slice (some ⟨blk, off, none⟩) d.size cap] w fun e w' => e = .returned (.tuple #[]) ∧ ∃ n os, w' = grow (putRow (Value.int .u16) (Sort.ahead w n) blk off (Sort.sort ltInt d)) os := by
  have HH : Hid (Holds (Value.int .u16) w blk off d) := hH
  clear hH
  have hk : bitsLen d.size ≤ 62 := (bitsLen_le_iff d.size 62).2 (by omega)
  have hdp := pdqDepth_le_59 ltInt d 0 d.size (bitsLen d.size) true true (by omega)
  have mixed := Ly.mixed
  have t0 := Ly.t0; have a0 := Ly.a0; have z0 := Ly.z0; have v0 := Ly.v0; have t3 := Ly.t3; have a3 := Ly.a3; have z3 := Ly.z3; have v3 := Ly.v3; have t4 := Ly.t4; have a4 := Ly.a4; have z4 := Ly.z4; have v4 := Ly.v4; have t5 := Ly.t5; have a5 := Ly.a5; have z5 := Ly.z5; have v5 := Ly.v5; have t9 := Ly.t9; have a9 := Ly.a9; have z9 := Ly.z9; have v9 := Ly.v9; have t22 := Ly.t22; have a22 := Ly.a22; have z22 := Ly.z22; have v22 := Ly.v22; have t23 := Ly.t23; have a23 := Ly.a23; have z23 := Ly.z23; have v23 := Ly.v23; have t25 := Ly.t25; have a25 := Ly.a25; have z25 := Ly.z25; have v25 := Ly.v25; have t32 := Ly.t32; have a32 := Ly.a32; have z32 := Ly.z32; have v32 := Ly.v32; have t35 := Ly.t35; have a35 := Ly.a35; have z35 := Ly.z35; have v35 := Ly.v35; have t36 := Ly.t36; have a36 := Ly.a36; have z36 := Ly.z36; have v36 := Ly.v36; have t41 := Ly.t41; have a41 := Ly.a41; have z41 := Ly.z41; have v41 := Ly.v41; have t44 := Ly.t44; have a44 := Ly.a44; have z44 := Ly.z44; have v44 := Ly.v44; have t46 := Ly.t46; have a46 := Ly.a46; have z46 := Ly.z46; have v46 := Ly.v46; have t53 := Ly.t53; have a53 := Ly.a53; have z53 := Ly.z53; have v53 := Ly.v53; have t57 := Ly.t57; have a57 := Ly.a57; have z57 := Ly.z57; have v57 := Ly.v57; have t63 := Ly.t63; have a63 := Ly.a63; have z63 := Ly.z63; have v63 := Ly.v63; have t64 := Ly.t64; have a64 := Ly.a64; have z64 := Ly.z64; have v64 := Ly.v64
  have e125 : ∀ args w, (callFunc (ρ.f 8) args).run P w = .ok (.enter (ρ.f 8) args) w := enters_of Ly.f8 (by kernel_rfl) rfl
  have e257 : ∀ args w, (callFunc (ρ.f 7) args).run P w = .ok (.enter (ρ.f 7) args) w := Ly.f7.enters rfl
  obtain ⟨_, _, FG⟩ := Ly.f5
  gi_enter FG, SlBodyM.n5_ntmps ρ
  gi_wp2_with (first
    | (gi_at_fn (ρ.f 8); refine ((hlen d.size _ hsz).more (by decide)).mono ?_; rintro e w' ⟨rfl, rfl⟩)
    | (gi_at_fn (ρ.f 7); refine (hpdq 65 blk off cap 0 d.size (bitsLen d.size) d _ (by omega) (by exact HH.out) (by exact hblk) (Nat.zero_le _) (Nat.le_refl _) hsz (by omega) (Or.inl rfl)).mono ?_; rintro e w' ⟨rfl, n, os, rfl⟩))
  go_end0
  exact ⟨rfl, n, os, rfl⟩

end Go.Proofs.YtgogbpkcceadbaaGreatDoor.Srt

namespace Go.Proofs.YtgogbpkcceadbaaGreatDoor.Srt
open Go.Shelf
variable {P : Program} {ρ : Ren}

open Go.Sort

theorem callees13InM (Ly : SrtL P ρ) (D : Nat) : Callees13InM P ρ D := {
  heap := AnySM.heapSort_intIn { Ly with } D
  rev := AnySM.reverseRange_intIn { Ly with } D
  ins := AnySM.insertionSort_intIn { Ly with } D
  brk := AnySM.breakPatterns_intIn { Ly with } D
  piv := AnySM.choosePivot_intIn { Ly with } D
  par := AnySM.partialInsertionSort_intIn { Ly with } D
  peq := AnySM.partitionEqualOrdered_intIn { Ly with } D
  prt := AnySM.partitionOrdered_intIn { Ly with } D }

theorem plain13DM : Plain13 := {
  swo := swo_ltInt
  ins := insertionSort_holds
  par := partialInsertionSort_holds
  prt := partition_holds _
  peq := partitionEqual_holds _
  pdq := pdq_sorts _ }

theorem pdqWalkInIntM (Ly : SrtL P ρ) (D : Nat) : pdqWalkIn_intM P ρ D := fun rm blk off cap a b limit d w hrm hH hb hab hbd hsz hl hB =>
  AnySM.pdqsort_intIn { Ly with } D (callees13InM { Ly with } D) plain13DM (b - a + 1) rm blk off cap a b limit d w (by omega) hrm hH hb hab hbd hsz hl hB

theorem lenWalkInAllM (Ly : SlLaysM.n8 P ρ) (D : Nat) : lenWalkInM P ρ D := fun n w hn => by
  have h := AnySM.bits_LenIn { Ly with } D (n : Int) w (by omega) (by omega)
  rwa [Int.toNat_natCast, bitLen_eq _ (by omega)] at h

theorem sort_int_eqDM (zs : List Int) : Sort.sort ltInt zs.toArray = (zs.mergeSort fun x y => decide (x ≤ y)).toArray := by
  rw [← sortInt zs]

theorem AnySM.slices_Sort_int_in (Ly : SrtL P ρ) (D blk off cap : Nat) (zs : List Int) (w : World) (hH : Holds (Value.int .u16) w blk off zs.toArray) (hblk : blk < w.heap.size) (hsz : zs.length < 4611686018427387904) :
    CallsIn (Fence.list [ρ.f 5, ρ.f 7, ρ.f 8, ρ.f 10, ρ.f 11, ρ.f 12, ρ.f 13, ρ.f 14, ρ.f 15, ρ.f 16, ρ.f 17, ρ.f 18, ρ.f 20, ρ.f 30, ρ.f 31, ρ.f 32, ρ.f 33, ρ.f 34, ρ.f 35, ρ.f 40] (some D)) 66 P (ρ.f 5) #[.slice (some ⟨blk, off, none⟩) zs.length cap] w fun e w' =>
      e = .returned (.tuple #[]) ∧ ∃ n os, w' = grow (putRow (Value.int .u16) (Sort.ahead w n) blk off (zs.mergeSort fun x y => decide (x ≤ y)).toArray) os := by
  have h := AnySM.Sort_intIn { Ly with } D (pdqWalkInIntM { Ly with } D) (lenWalkInAllM { Ly with } D) blk off cap zs.toArray w hH hblk (by simpa using hsz)
  rw [sort_int_eqDM] at h
  simpa using h

end Go.Proofs.YtgogbpkcceadbaaGreatDoor.Srt

namespace Go.Proofs.YtgogbpkcceadbaaGreatDoor.Srt
open Go.Shelf Go.RowKit Go.Sort
variable {P : Program} {ρ : Ren}

set_option maxHeartbeats 1000000 in
theorem AnySM.insertionSort_int_none_in (L : SrtL P ρ) (D : Nat) (p : Option Addr) (cap : Nat) (w : World) :
    CallsIn (Fence.list [ρ.f 5, ρ.f 7, ρ.f 8, ρ.f 10, ρ.f 11, ρ.f 12, ρ.f 13, ρ.f 14, ρ.f 15, ρ.f 16, ρ.f 17, ρ.f 18, ρ.f 20, ρ.f 30, ρ.f 31, ρ.f 32, ρ.f 33, ρ.f 34, ρ.f 35, ρ.f 40] (some D)) 0 P (ρ.f 10) #[.slice p 0 cap, .int .i64 0, .int .i64 0] w fun e w' => e = .returned (.tuple #[]) ∧ w' = w := by
  have mixed := L.mixed; have t0 := L.t0; have a0 := L.a0; have z0 := L.z0; have v0 := L.v0; have t3 := L.t3; have a3 := L.a3; have z3 := L.z3; have v3 := L.v3; have t4 := L.t4; have a4 := L.a4; have z4 := L.z4; have v4 := L.v4; have t22 := L.t22; have a22 := L.a22; have z22 := L.z22; have v22 := L.v22; have t25 := L.t25; have a25 := L.a25; have z25 := L.z25; have v25 := L.v25
  obtain ⟨_, _, FG⟩ := L.f10
  gi_enter FG, SlBodyM.n10_ntmps ρ
  gi_wp2
  refine wpIn_loop_rounds 1 ?_
  rw [roundsIn_succ]
  gi_wp2
  go_end0
  exact ⟨rfl, rfl⟩

set_option maxHeartbeats 2000000 in
set_option maxRecDepth 100000 in
theorem AnySM.pdqsort_int_none_in (L : SrtL P ρ) (D : Nat) (p : Option Addr) (cap : Nat) (w : World) :
    CallsIn (Fence.list [ρ.f 5, ρ.f 7, ρ.f 8, ρ.f 10, ρ.f 11, ρ.f 12, ρ.f 13, ρ.f 14, ρ.f 15, ρ.f 16, ρ.f 17, ρ.f 18, ρ.f 20, ρ.f 30, ρ.f 31, ρ.f 32, ρ.f 33, ρ.f 34, ρ.f 35, ρ.f 40] (some D)) 1 P (ρ.f 7) #[.slice p 0 cap, .int .i64 0, .int .i64 0, .int .i64 0] w fun e w' => e = .returned (.tuple #[]) ∧ w' = w := by
  have mixed := L.mixed; have t0 := L.t0; have a0 := L.a0; have z0 := L.z0; have v0 := L.v0; have t3 := L.t3; have a3 := L.a3; have z3 := L.z3; have v3 := L.v3; have t4 := L.t4; have a4 := L.a4; have z4 := L.z4; have v4 := L.v4; have t5 := L.t5; have a5 := L.a5; have z5 := L.z5; have v5 := L.v5; have t9 := L.t9; have a9 := L.a9; have z9 := L.z9; have v9 := L.v9; have t22 := L.t22; have a22 := L.a22; have z22 := L.z22; have v22 := L.v22; have t25 := L.t25; have a25 := L.a25; have z25 := L.z25; have v25 := L.v25; have t32 := L.t32; have a32 := L.a32; have z32 := L.z32; have v32 := L.v32; have t35 := L.t35; have a35 := L.a35; have z35 := L.z35; have v35 := L.v35; have t36 := L.t36; have a36 := L.a36; have z36 := L.z36; have v36 := L.v36; have t41 := L.t41; have a41 := L.a41; have z41 := L.z41; have v41 := L.v41; have t44 := L.t44; have a44 := L.a44; have z44 := L.z44; have v44 := L.v44; have t46 := L.t46; have a46 := L.a46; have z46 := L.z46; have v46 := L.v46; have t53 := L.t53; have a53 := L.a53; have z53 := L.z53; have v53 := L.v53; have t57 := L.t57; have a57 := L.a57; have z57 := L.z57; have v57 := L.v57; have t63 := L.t63; have a63 := L.a63; have z63 := L.z63; have v63 := L.v63; have t64 := L.t64; have a64 := L.a64; have z64 := L.z64; have v64 := L.v64
  have e294 : ∀ args w, (callFunc (ρ.f 10) args).run P w = .ok (.enter (ρ.f 10) args) w := L.f10.enters rfl
  obtain ⟨_, _, FG⟩ := L.f7
  gi_enter FG, SlBodyM.n7_ntmps ρ
  gi_wp2
  refine wpIn_loop_rounds 1 ?_
  rw [roundsIn_succ]
  gi_wp2_with (gi_at_fn (ρ.f 10); refine (AnySM.insertionSort_int_none_in { L with } D p cap _).mono ?_; rintro e w' ⟨rfl, rfl⟩)
  (try simp only [Exit.inBlock, Exit.then]); refine bodyPost_ret (results_none rfl _ _ _) rfl ?_
  exact ⟨rfl, rfl⟩

set_option maxHeartbeats 2000000 in
set_option maxRecDepth 100000 in
theorem AnySM.slices_Sort_int_none_in (L : SrtL P ρ) (D : Nat) (p : Option Addr) (cap : Nat) (w : World) :
    CallsIn (Fence.list [ρ.f 5, ρ.f 7, ρ.f 8, ρ.f 10, ρ.f 11, ρ.f 12, ρ.f 13, ρ.f 14, ρ.f 15, ρ.f 16, ρ.f 17, ρ.f 18, ρ.f 20, ρ.f 30, ρ.f 31, ρ.f 32, ρ.f 33, ρ.f 34, ρ.f 35, ρ.f 40] (some D)) 2 P (ρ.f 5) #[.slice p 0 cap] w fun e w' => e = .returned (.tuple #[]) ∧ w' = w := by
  have hLen : ∀ w, CallsIn (Fence.list [ρ.f 5, ρ.f 7, ρ.f 8, ρ.f 10, ρ.f 11, ρ.f 12, ρ.f 13, ρ.f 14, ρ.f 15, ρ.f 16, ρ.f 17, ρ.f 18, ρ.f 20, ρ.f 30, ρ.f 31, ρ.f 32, ρ.f 33, ρ.f 34, ρ.f 35, ρ.f 40] (some D)) 1 P (ρ.f 8) #[.int .u64 0] w fun e w' => e = .returned (.int .i64 0) ∧ w' = w := fun w => AnySM.bits_LenIn { L with } D 0 w (by omega) (by omega)
  have mixed := L.mixed; have t0 := L.t0; have a0 := L.a0; have z0 := L.z0; have v0 := L.v0; have t3 := L.t3; have a3 := L.a3; have z3 := L.z3; have v3 := L.v3; have t4 := L.t4; have a4 := L.a4; have z4 := L.z4; have v4 := L.v4; have t5 := L.t5; have a5 := L.a5; have z5 := L.z5; have v5 := L.v5; have t9 := L.t9; have a9 := L.a9; have z9 := L.z9; have v9 := L.v9; have t22 := L.t22; have a22 := L.a22; have z22 := L.z22; have v22 := L.v22; have t23 := L.t23; have a23 := L.a23; have z23 := L.z23; have v23 := L.v23; have t25 := L.t25; have a25 := L.a25; have z25 := L.z25; have v25 := L.v25; have t32 := L.t32; have a32 := L.a32; have z32 := L.z32; have v32 := L.v32; have t35 := L.t35; have a35 := L.a35; have z35 := L.z35; have v35 := L.v35; have t36 := L.t36; have a36 := L.a36; have z36 := L.z36; have v36 := L.v36; have t41 := L.t41; have a41 := L.a41; have z41 := L.z41; have v41 := L.v41; have t44 := L.t44; have a44 := L.a44; have z44 := L.z44; have v44 := L.v44; have t46 := L.t46; have a46 := L.a46; have z46 := L.z46; have v46 := L.v46; have t53 := L.t53; have a53 := L.a53; have z53 := L.z53; have v53 := L.v53; have t57 := L.t57; have a57 := L.a57; have z57 := L.z57; have v57 := L.v57; have t63 := L.t63; have a63 := L.a63; have z63 := L.z63; have v63 := L.v63; have t64 := L.t64; have a64 := L.a64; have z64 := L.z64; have v64 := L.v64
  have e125 : ∀ args w, (callFunc (ρ.f 8) args).run P w = .ok (.enter (ρ.f 8) args) w := enters_of L.f8 (by kernel_rfl) rfl
  have e257 : ∀ args w, (callFunc (ρ.f 7) args).run P w = .ok (.enter (ρ.f 7) args) w := L.f7.enters rfl
  obtain ⟨_, _, FG⟩ := L.f5
  gi_enter FG, SlBodyM.n5_ntmps ρ
  gi_wp2_with (first
    | (gi_at_fn (ρ.f 8); refine (hLen _).mono ?_; rintro e w' ⟨rfl, rfl⟩)
    | (gi_at_fn (ρ.f 7); refine (AnySM.pdqsort_int_none_in { L with } D p cap _).mono ?_; rintro e w' ⟨rfl, rfl⟩))
  go_end0
  exact ⟨rfl, rfl⟩

theorem AnyM.slices_Sort_int_none (L : SrtL P ρ) (p : Option Addr) (cap : Nat) (w : World) :
    Calls P (ρ.f 5) #[.slice p 0 cap] w fun e w' => e = .returned (.tuple #[]) ∧ w' = w :=
  calls_of_every_depth fun D => AnySM.slices_Sort_int_none_in L D p cap w

end Go.Proofs.YtgogbpkcceadbaaGreatDoor.Srt
