/-
  segment: the closures, wrapped, Head, Foot, Record.
  segment: Foot, Record.
-/
import Derived.Test.YtgogbpkcceadbaaGreatDoorOpN
namespace Go.Proofs.YtgogbpkcceadbaaGreatDoor.Sg
open Go.RowKit Go.Proofs.YtgogbpkcceadbaaGreatDoor.Wd Go.Proofs.YtgogbpkcceadbaaGreatDoor.VintP Go.Proofs.YtgogbpkcceadbaaGreatDoor.VintW Go.Proofs.YtgogbpkcceadbaaGreatDoor.Pk Go.Proofs.YtgogbpkcceadbaaGreatDoor.Vc Go.Proofs.YtgogbpkcceadbaaGreatDoor.CrcW Go.Proofs.YtgogbpkcceadbaaGreatDoor.FrameP Go.Proofs.YtgogbpkcceadbaaGreatDoor.FrameW
set_option linter.unusedVariables false

/-- What a closure lays down. -/
def LaysC (w : World) (f : Nat) (K : Value) (xs : List Nat) : Prop :=
  ∀ (B g : Nat) (v : Value) (bs : List Nat) (W : World), Below w.heap.size w W → WrAt W B g v bs → bs.length ≤ 10 →
    Calls Tryz.prog f #[.pointer (some ⟨g, 0, none⟩), K] W fun e w' => e = .returned (.tuple #[]) ∧ (∃ v', WrAt w' B g v' (bs ++ xs)) ∧ Below B W w'
set_option maxHeartbeats 2000000 in
set_option maxRecDepth 100000 in
theorem wrapped_any (kind f : Nat) (K : Value) (xs : List Nat) (w : World) (hk : kind ≤ 100) (hcf : ∀ (args : Array Value) (W : World), (callFunc f args).run Tryz.prog W = .ok (.enter f args) W) (hf : LaysC w f K xs) (hl : xs.length ≤ 4000) (ht : Tab w) :
    Calls Tryz.prog 24 #[.int .u64 (kind : Int), .func (.func f) #[] #[K]] w (GivesB w (wrap (enc kind ++ xs))) := by
  have Q1 := Lib.hid (new_any w)
  have HF := Lib.hid hf
  have HT := Lib.hid ht
  have HL := Lib.hid hl
  have HK := Lib.hid hk
  clear hf ht hl hk
  go_enter Tryz.func24, Tryz.ntmps24
  go_wp2_with fail
  refine Q1.out.mono ?_
  rintro e w1 ⟨rfl, hw, hb⟩
  have q := num_any _ _ _ [] kind w1 hw (by have := HK.out; omega) (by have := (enc_length kind).2; simp; omega)
  rw [List.nil_append] at q
  have Q2 := Lib.hid q
  have HB1 := Lib.hid hb
  clear q hw hb Q1
  go_wp2_with fail
  refine Q2.out.mono ?_
  rintro e w2 ⟨rfl, ⟨v, hw2⟩, hb2⟩
  have hb3 := HB1.out.trans hb2
  have q := HF.out _ _ _ _ w2 hb3 hw2 (enc_length kind).2
  have HB3 := Lib.hid hb3
  have Q3 := Lib.hid q
  clear q hw2 hb2 hb3 Q2 HB1
  go_wp2_with fail
  refine Q3.out.mono ?_
  rintro e w3 ⟨rfl, ⟨v3, hw3⟩, hb4⟩
  have hb5 := HB3.out.trans hb4
  have hle : (enc kind ++ xs).length ≤ 4010 := by
    have := (enc_length kind).2
    have := HL.out
    rw [List.length_append]
    omega
  have q := all_any _ _ _ _ w3 hw3 (by omega)
  have Q4 := Lib.hid q
  have HB5 := Lib.hid hb5
  have HLE := Lib.hid hle
  clear q hw3 hb4 hb5 hle Q3 HB3
  go_wp2_with fail
  refine Q4.out.mono ?_
  rintro e w4 ⟨v4, rfl, ho4, hb6⟩
  have hb7 := HB5.out.trans (hb6.mono HB5.out.size)
  obtain ⟨A4, k4, rfl, hk4, hrd4⟩ := ho4.rd
  have q := wrap_any (enc kind ++ xs).length k4 A4 (enc kind ++ xs) w4 hrd4 (HT.out.below hb7) (by have := HLE.out; omega)
  have Q5 := Lib.hid q
  have HB7 := Lib.hid hb7
  generalize (enc kind ++ xs).length = m4 at *
  clear q ho4 hrd4 hb6 hb7 Q4 HB5
  go_wp2_with fail
  refine Q5.out.mono ?_
  rintro e w5 ⟨v5, rfl, ho5, hb8⟩
  have HOF := Lib.hid (show OwnB w5 w.heap.size v5 (wrap (enc kind ++ xs)) from ⟨own_base ho5.row HB7.out.size, ho5.small⟩)
  have HBF := Lib.hid (HB7.out.trans (hb8.mono HB7.out.size))
  obtain ⟨A9, m9, k9, rfl⟩ := is_slice ho5
  clear ho5 hb8 Q5
  go_wp2_with fail
  go_ret
  exact ⟨_, rfl, HOF.out, HBF.out⟩
theorem enters (f : Nat) (fn : Func) (c : Code) (hf : Tryz.prog.funcs[f]? = some fn) (hb : fn.body = some c) (hx : ¬ fn.name = "runtime.NumGoroutine") (args : Array Value) (W : World) : (callFunc f args).run Tryz.prog W = .ok (.enter f args) W := by
  simp [callFunc, go_sem, hf, hb, hx]
set_option maxHeartbeats 2000000 in
set_option maxRecDepth 100000 in
theorem head_any (n : Nat) (hn : n ≤ 4294967295) (w : World) (ht : Tab w) :
    Calls Tryz.prog 12 #[.int .u32 (n : Int)] w (GivesB w (wrap (enc 1 ++ enc n))) := by
  have hb : Below w.heap.size w (w.alloc (.cells #[.int .u32 (n : Int)] 28)) := (Below.refl _ _).alloc (Nat.le_refl _) _
  have hrow : (w.alloc (.cells #[.int .u32 (n : Int)] 28)).heap[w.heap.size]? = some (.cells #[.int .u32 (n : Int)] 28 (0, 0)) := heap_alloc_new w _
  have hlt : w.heap.size < (w.alloc (.cells #[.int .u32 (n : Int)] 28)).heap.size := (Array.getElem?_eq_some_iff.1 hrow).1
  have hC : LaysC (w.alloc (.cells #[.int .u32 (n : Int)] 28)) 30 (.pointer (some ⟨w.heap.size, 0, none⟩)) (enc n) := by
    intro B g v bs W hW hw hl
    have c0 : W.cell? ⟨w.heap.size, 0, none⟩ = some (.int .u32 (n : Int)) := by
      rw [cell_of_row W _ 0 _ _ _ ((hW.block _ hlt).trans hrow)]
      rfl
    have q := num_any B g v bs n W hw (by omega) (by have := (enc_length n).2; omega)
    have Q := Lib.hid q
    have wn : IntKind.u64.wrap (n : Int) = (n : Int) := by rw [IntKind.wrap_u64]; omega
    clear q hw hl hW hrow hlt hb ht
    go_enter Tryz.func30, Tryz.ntmps30
    go_wp2_with fail
    refine Q.out.mono ?_
    rintro e w1 ⟨rfl, h1, h2⟩
    have H1 := Lib.hid h1
    have H2 := Lib.hid h2
    clear h1 h2
    go_wp2_with fail
    go_end0
    exact ⟨rfl, H1.out, H2.out⟩
  have q := wrapped_any 1 30 (.pointer (some ⟨w.heap.size, 0, none⟩)) (enc n) (w.alloc (.cells #[.int .u32 (n : Int)] 28)) (by decide) (enters _ _ _ Tryz.func30 rfl (by decide)) hC (by have := (enc_length n).2; omega) (ht.below hb)
  have Q := Lib.hid q
  have HB := Lib.hid hb
  clear q hb hrow hlt hC ht
  go_enter Tryz.func12, Tryz.ntmps12
  go_wp2_with fail
  refine Q.out.mono ?_
  rintro e w5 ⟨v5, rfl, ho5, hb8⟩
  have HOF := Lib.hid (show OwnB w5 w.heap.size v5 (wrap (enc 1 ++ enc n)) from ⟨own_base ho5.row HB.out.size, ho5.small⟩)
  have HBF := Lib.hid (HB.out.trans (hb8.mono HB.out.size))
  obtain ⟨A9, m9, k9, rfl⟩ := is_slice ho5
  clear ho5 hb8 Q
  go_wp2_with fail
  go_ret
  exact ⟨_, rfl, HOF.out, HBF.out⟩
end Go.Proofs.YtgogbpkcceadbaaGreatDoor.Sg
namespace Go.Proofs.YtgogbpkcceadbaaGreatDoor.Sg
open Go.RowKit Go.Proofs.YtgogbpkcceadbaaGreatDoor.Wd Go.Proofs.YtgogbpkcceadbaaGreatDoor.VintP Go.Proofs.YtgogbpkcceadbaaGreatDoor.VintW Go.Proofs.YtgogbpkcceadbaaGreatDoor.Pk Go.Proofs.YtgogbpkcceadbaaGreatDoor.Vc Go.Proofs.YtgogbpkcceadbaaGreatDoor.CrcW Go.Proofs.YtgogbpkcceadbaaGreatDoor.FrameP Go.Proofs.YtgogbpkcceadbaaGreatDoor.FrameW
set_option linter.unusedVariables false

set_option maxHeartbeats 2000000 in
set_option maxRecDepth 100000 in
theorem foot_any (n : Nat) (hn : n ≤ 4096) (w : World) (ht : Tab w) :
    Calls Tryz.prog 17 #[.int .i64 (n : Int)] w (GivesOk w (wrap (enc 3 ++ enc n))) := by
  have hb : Below w.heap.size w (w.alloc (.cells #[.int .i64 (n : Int)] 3)) := (Below.refl _ _).alloc (Nat.le_refl _) _
  have hrow : (w.alloc (.cells #[.int .i64 (n : Int)] 3)).heap[w.heap.size]? = some (.cells #[.int .i64 (n : Int)] 3 (0, 0)) := heap_alloc_new w _
  have hlt : w.heap.size < (w.alloc (.cells #[.int .i64 (n : Int)] 3)).heap.size := (Array.getElem?_eq_some_iff.1 hrow).1
  have hC : LaysC (w.alloc (.cells #[.int .i64 (n : Int)] 3)) 36 (.pointer (some ⟨w.heap.size, 0, none⟩)) (enc n) := by
    intro B g v bs W hW hw hl
    have c0 : W.cell? ⟨w.heap.size, 0, none⟩ = some (.int .i64 (n : Int)) := by
      rw [cell_of_row W _ 0 _ _ _ ((hW.block _ hlt).trans hrow)]
      rfl
    have q := num_any B g v bs n W hw (by omega) (by have := (enc_length n).2; omega)
    have Q := Lib.hid q
    have wn : IntKind.u64.wrap (n : Int) = (n : Int) := by rw [IntKind.wrap_u64]; omega
    clear q hw hl hW hrow hlt hb ht
    go_enter Tryz.func36, Tryz.ntmps36
    go_wp2_with fail
    refine Q.out.mono ?_
    rintro e w1 ⟨rfl, h1, h2⟩
    have H1 := Lib.hid h1
    have H2 := Lib.hid h2
    clear h1 h2
    go_wp2_with fail
    go_end0
    exact ⟨rfl, H1.out, H2.out⟩
  have q := wrapped_any 3 36 (.pointer (some ⟨w.heap.size, 0, none⟩)) (enc n) (w.alloc (.cells #[.int .i64 (n : Int)] 3)) (by decide) (enters _ _ _ Tryz.func36 rfl (by decide)) hC (by have := (enc_length n).2; omega) (ht.below hb)
  have Q := Lib.hid q
  have HB := Lib.hid hb
  have HROW := Lib.hid hrow
  clear q hb hrow hlt hC ht
  have i1 : ¬ ((n : Int) > 4096) := by omega
  have i2 : decide (4096 < (n : Int)) = false := decide_eq_false (by omega)
  have i3 : ¬ ((n : Int) < 0) := by omega
  have i4 : decide ((n : Int) < 0) = false := decide_eq_false (by omega)
  have c9 : (w.alloc (.cells #[.int .i64 (n : Int)] 3)).cell? ⟨w.heap.size, 0, none⟩ = some (.int .i64 (n : Int)) := by rw [cell_of_row _ _ 0 _ _ _ HROW.out]; rfl
  go_enter Tryz.func17, Tryz.ntmps17
  go_wp2_with fail
  refine Q.out.mono ?_
  rintro e w5 ⟨v5, rfl, ho5, hb8⟩
  have HOF := Lib.hid (show OwnB w5 w.heap.size v5 (wrap (enc 3 ++ enc n)) from ⟨own_base ho5.row HB.out.size, ho5.small⟩)
  have HBF := Lib.hid (HB.out.trans (hb8.mono HB.out.size))
  obtain ⟨A9, m9, k9, rfl⟩ := is_slice ho5
  clear ho5 hb8 Q
  go_wp2_with fail
  go_ret2
  exact ⟨_, rfl, HOF.out, HBF.out⟩
theorem encOp_length (o : O) : (encOp o).length ≤ 250 := by
  have h1 := cat_length (nums o)
  have h2 := encV_length o.ctx
  have h3 := (enc_length (encV o.ctx).length).2
  rw [show (nums o).length = 7 from rfl] at h1
  unfold encOp
  rw [List.length_append, List.length_append]
  omega
/-- A record's frame. -/
def recB (o : O) : List Nat := wrap (enc 2 ++ (enc (encOp o).length ++ encOp o))
set_option maxHeartbeats 2000000 in
set_option maxRecDepth 100000 in
theorem record_any (o : O) (ho : OkO o) (hr : RightO o) (w : World) (ht : Tab w) :
    Calls Tryz.prog 10 #[.agg (opA o).toArray] w (GivesOk w (recB o)) := by
  have H1 := Lib.hid (OpAt.new w ho)
  have H0 := Lib.hid ((Below.refl w.heap.size w).alloc (Nat.le_refl _) (.cells (opA o).toArray 34))
  have Q1 := Lib.hid (fun W => encode_any o ho hr W)
  have HT := Lib.hid ht
  clear ho hr ht
  go_enter Tryz.func10, Tryz.ntmps10
  go_wp2_with (refine OpAt.load_list H1.out rfl (.tmp 1) rfl rfl ?_)
  generalize w.alloc (.cells (opA o).toArray 34) = w1 at *
  refine (Q1.out _).mono ?_
  rintro e w2 ⟨v2, rfl, ho2, hb2⟩
  obtain ⟨A2, k2, rfl, hk2, hrd2⟩ := ho2.rd
  have hlen := encOp_length o
  have hb3 := H0.out.trans (hb2.mono H0.out.size)
  have hb : Below w2.heap.size w2 (w2.alloc (.cells #[.slice A2 (encOp o).length k2] 41)) := (Below.refl _ _).alloc (Nat.le_refl _) _
  have hrow : (w2.alloc (.cells #[.slice A2 (encOp o).length k2] 41)).heap[w2.heap.size]? = some (.cells #[.slice A2 (encOp o).length k2] 41 (0, 0)) := heap_alloc_new w2 _
  have hlt : w2.heap.size < (w2.alloc (.cells #[.slice A2 (encOp o).length k2] 41)).heap.size := (Array.getElem?_eq_some_iff.1 hrow).1
  have hrd3 := hrd2.below hb
  have HT3 := Lib.hid ((HT.out.below hb3).below hb)
  have HB3 := Lib.hid (hb3.trans (hb.mono hb3.size))
  have hfin : wrap (enc 2 ++ (enc (encOp o).length ++ encOp o)) = recB o := rfl
  obtain ⟨m, hm⟩ : ∃ m, m = (encOp o).length := ⟨_, rfl⟩
  rw [← hm] at hrow hlt hrd3 HT3 HB3 hlen hk2 hfin ⊢
  have hC : LaysC (w2.alloc (.cells #[.slice A2 m k2] 41)) 25 (.pointer (some ⟨w2.heap.size, 0, none⟩)) (enc m ++ encOp o) := by
    intro B g v bs W hW hw hl
    have c0 : W.cell? ⟨w2.heap.size, 0, none⟩ = some (.slice A2 m k2) := by
      rw [cell_of_row W _ 0 _ _ _ ((hW.block _ hlt).trans hrow)]
      rfl
    have q := bytes_any B g v bs A2 m k2 (encOp o) W hw (hrd3.below hW) hk2 (by have := (enc_length m).2; omega)
    have Q := Lib.hid q
    clear q hw hl hW hrow hlt hb hrd3 hm hfin hlen hb3 ho2 hrd2 hb2
    go_enter Tryz.func25, Tryz.ntmps25
    go_wp2_with fail
    refine Q.out.mono ?_
    rintro e w1 ⟨rfl, h1, h2⟩
    have H1 := Lib.hid h1
    have H2 := Lib.hid h2
    clear h1 h2
    go_wp2_with fail
    go_end0
    exact ⟨rfl, H1.out, H2.out⟩
  have q := wrapped_any 2 25 (.pointer (some ⟨w2.heap.size, 0, none⟩)) (enc m ++ encOp o) (w2.alloc (.cells #[.slice A2 m k2] 41)) (by decide) (enters _ _ _ Tryz.func25 rfl (by decide)) hC (by have := (enc_length m).2; rw [List.length_append, ← hm]; omega) HT3.out
  rw [hfin] at q
  have Q := Lib.hid q
  clear q hrow hlt hC hm hfin hlen hb3 ho2 hrd2 hb2 hb hrd3 Q1 H1
  go_wp2_with fail
  refine Q.out.mono ?_
  rintro e w5 ⟨v5, rfl, ho5, hb8⟩
  have HOF := Lib.hid (show OwnB w5 w.heap.size v5 (recB o) from ⟨own_base ho5.row HB3.out.size, ho5.small⟩)
  have HBF := Lib.hid (HB3.out.trans (hb8.mono HB3.out.size))
  obtain ⟨A9, m9, k9, rfl⟩ := is_slice ho5
  clear ho5 hb8 Q
  go_wp2_with fail
  go_ret2
  exact ⟨_, rfl, HOF.out, HBF.out⟩
end Go.Proofs.YtgogbpkcceadbaaGreatDoor.Sg
