/-
  op.Right, of a right operation.
  op.Encode, of a right operation.
  (*op.taker).num, where the number is there and has not too many bits.
-/
import Derived.Test.YtgogbpkcceadbaaGreatDoorVecO
namespace Go.Proofs.YtgogbpkcceadbaaGreatDoor.Vc
open Go.RowKit Go.Proofs.YtgogbpkcceadbaaGreatDoor.Wd Go.Proofs.YtgogbpkcceadbaaGreatDoor.VintP Go.Proofs.YtgogbpkcceadbaaGreatDoor.VintW Go.Proofs.YtgogbpkcceadbaaGreatDoor.Pk
set_option linter.unusedVariables false
attribute [local go_sem ↓] ldKx stKx
set_option maxHeartbeats 4000000 in
set_option maxRecDepth 100000 in
theorem right_any (o : O) (ho : OkO o) (hr : RightO o) (w : World) :
    Calls Tryz.prog 45 #[.agg (opA o).toArray, .int .i64 16] w fun e w' => e = .returned (.bool true) ∧ Gr w w' := by
  have H1 := Lib.hid (OpAt.new w ho)
  have H0 := Lib.hid ((Gr.refl w).alloc (.cells (opA o).toArray 34))
  have Q1 := Lib.hid (fun W => vright_any o.ctx ho.ctx hr.small W)
  have Q2 := Lib.hid (fun W => shaped_any o ho hr.shp W)
  have HR := Lib.hid hr
  have HO := Lib.hid ho
  clear ho hr
  go_enter Tryz.func45, Tryz.ntmps45
  go_wp2_with (refine OpAt.load_ctx H1.out rfl (.tmp 6) rfl rfl ?_)
  generalize w.alloc (.cells (opA o).toArray 34) = w1 at *
  refine (Q1.out _).mono ?_
  rintro e w2 ⟨rfl, hg2⟩
  have h2 := H1.out.below hg2.below
  have c0 : w2.cell? ⟨w.heap.size, 0, none⟩ = some (.int .u8 ((o.rep : Nat) : Int)) := by rw [h2.cell]; rfl
  have c6 : w2.cell? ⟨w.heap.size, 6, none⟩ = some (.int .u32 ((o.tick : Nat) : Int)) := by rw [h2.cell]; rfl
  obtain ⟨rep, hrep⟩ : ∃ x, x = o.rep := ⟨_, rfl⟩
  obtain ⟨tick, htick⟩ : ∃ x, x = o.tick := ⟨_, rfl⟩
  have b0 := HR.out.rep
  have b6 := HR.out.tick
  rw [← hrep] at c0 b0
  rw [← htick] at c6 b6
  have i0 : ¬ ((rep : Int) ≥ 16) := by omega
  have i1 : decide (16 ≤ (rep : Int)) = false := decide_eq_false (by omega)
  have i2 : ¬ ((tick : Int) > 1073741824) := by omega
  have i3 : decide (1073741824 < (tick : Int)) = false := decide_eq_false (by omega)
  have ld := h2.loads
  have H2 := Lib.hid h2
  have G2 := Lib.hid (H0.out.trans hg2)
  have HREP := Lib.hid hrep
  have l0 := load_u8 c0
  have l6 := load_u32 c6
  clear h2 hg2 hrep htick H1 H0 Q1 c0 c6
  go_wp2_with fail
  refine (Q2.out _).mono ?_
  rintro e w3 ⟨rfl, hg3⟩
  have h3 := H2.out.below hg3.below
  have ld3 := h3.loadDot
  have sd3 := fun (x y : Int) => store_dot w3 #[.int .u8 0, .int .u32 0] rfl x y
  obtain ⟨seq, hseq⟩ : ∃ x, x = o.seq := ⟨_, rfl⟩
  have b1 := HR.out.seq1
  have b2 := HR.out.seq
  have b3 := HR.out.own
  rw [← HREP.out] at ld3 b3
  rw [← hseq] at ld3 b1 b2 b3
  have H3 := Lib.hid h3
  have G3 := Lib.hid (G2.out.trans hg3)
  have B3 := Lib.hid b3
  clear h3 hg3 G2 H2 ld l0 l6 hseq b3
  go_wp2_with fail
  have h4 := H3.out.below ((Below.refl w3.heap.size w3).alloc (Nat.le_refl _) (.cells #[.int .u8 (rep : Int), .int .u32 (seq : Int)] 30))
  have hrow : (w3.alloc (.cells #[.int .u8 (rep : Int), .int .u32 (seq : Int)] 30)).heap[w3.heap.size]? = some (.cells #[.int .u8 (rep : Int), .int .u32 (seq : Int)] 30 (0, 0)) := heap_alloc_new w3 _
  have G4 := Lib.hid (G3.out.alloc (.cells #[.int .u8 (rep : Int), .int .u32 (seq : Int)] 30))
  generalize w3.alloc (.cells #[.int .u8 (rep : Int), .int .u32 (seq : Int)] 30) = w4 at *
  obtain ⟨y, hy⟩ : ∃ y, y = seq - 1 := ⟨_, rfl⟩
  have ey : (seq : Int) - 1 = (y : Int) := by omega
  have d0 : ∀ n, (ldK 5 ⟨w3.heap.size, 0, none⟩).run Tryz.prog (w4.drewN n) = .ok (.int .u8 (rep : Int)) (w4.drewN n) := fun n => load_u8 (by show w4.cell? _ = _; rw [cell_of_row w4 _ 0 _ _ _ hrow]; rfl)
  have d1 : ∀ n, (ldK 28 ⟨w3.heap.size, 1, none⟩).run Tryz.prog (w4.drewN n) = .ok (.int .u32 (seq : Int)) (w4.drewN n) := fun n => load_u32 (by show w4.cell? _ = _; rw [cell_of_row w4 _ 1 _ _ _ hrow]; rfl)
  have d2 : ∀ n, (ldK 28 ⟨w.heap.size, 7 + rep, none⟩).run Tryz.prog (w4.drewN n) = .ok (.int .u32 (y : Int)) (w4.drewN n) := fun n => load_u32 (by
    show w4.cell? _ = _
    rw [h4.cell, hy, ← B3.out]
    unfold opA
    rw [List.getElem?_append_right (by simp), List.getElem?_map]
    simp [List.getD_eq_getElem?_getD, List.getElem?_eq_getElem (show rep < o.ctx.length by rw [HO.out.ctx.len]; exact b0)])
  have k0 : (0 : Int) ≤ (rep : Int) := by omega
  have k1 : (rep : Int) < 16 := by omega
  have k2 : decide (1 ≤ (seq : Int)) = true := decide_eq_true (by omega)
  have k3 : decide ((seq : Int) ≤ 1048576) = true := decide_eq_true (by omega)
  have wy : IntKind.u32.wrap (y : Int) = (y : Int) := by rw [IntKind.wrap_u32]; omega
  clear h4 hrow hy i0 i1 i2 i3 b6
  go_quiet (fail)
  have HGF := Lib.hid (G4.out.drewN nq)
  clear d0 d1 d2
  go_wp2
  go_ret
  exact ⟨rfl, HGF.out⟩
end Go.Proofs.YtgogbpkcceadbaaGreatDoor.Vc
namespace Go.Proofs.YtgogbpkcceadbaaGreatDoor.Vc
open Go.RowKit Go.Proofs.YtgogbpkcceadbaaGreatDoor.Wd Go.Proofs.YtgogbpkcceadbaaGreatDoor.VintP Go.Proofs.YtgogbpkcceadbaaGreatDoor.VintW Go.Proofs.YtgogbpkcceadbaaGreatDoor.Pk
set_option linter.unusedVariables false

/-- An operation's numbers, and its bytes. -/
def nums (o : O) : List Nat := [o.rep, o.seq, o.kind, o.cart, o.item, o.qty, o.tick]
def encOp (o : O) : List Nat := cat (nums o) ++ (enc (encV o.ctx).length ++ encV o.ctx)
theorem arr7_index {A : Array Value} {k x : Nat} (hk : k < 7) (hget : A[k]? = some (.int .u64 (x : Int))) (W : World) : (Instr.index 93 (.agg A) (.int .i64 (k : Int))).run Tryz.prog W = .ok (.int .u64 (x : Int)) W := by
  obtain ⟨i8, hi8⟩ := info_of_underlying Tryz.underlying72
  have hsz : i8.size = 1 := by
    have h2 : (Tryz.prog.info? 72).map (·.size) = some 1 := by kernel_rfl
    rw [hi8] at h2
    simpa using h2
  simp [Instr.index, run_underlying Tryz.underlying93, asIntOf, part, sizeOf, typeInfo, hi8, hsz, isAgg, run_underlying Tryz.underlying72, go_sem]
  rw [if_pos hk, hget]
  simp
theorem cat_snoc7 {L : List Nat} {k : Nat} (h : k < L.length) : cat (L.take (k + 1)) = cat (L.take k) ++ enc (L.getD k 0) := by
  rw [take_snoc h, cat_append]
  simp [cat]
theorem nums_le {o : O} (h : OkO o) : ∀ x ∈ nums o, x ≤ 4294967295 := by
  have := h.rep; have := h.seq; have := h.kind; have := h.cart; have := h.item; have := h.qty; have := h.tick
  intro x hx
  simp only [nums, List.mem_cons, List.not_mem_nil, or_false] at hx
  rcases hx with rfl | rfl | rfl | rfl | rfl | rfl | rfl <;> omega
set_option maxHeartbeats 4000000 in
set_option maxRecDepth 100000 in
theorem encode_any (o : O) (ho : OkO o) (hr : RightO o) (w : World) :
    Calls Tryz.prog 23 #[.agg (opA o).toArray] w fun e w' => ∃ v, e = .returned (.tuple #[v, .int .i64 0]) ∧ OwnB w' w.heap.size v (encOp o) ∧ Below w.heap.size w w' := by
  have H1 := Lib.hid (OpAt.new w ho)
  have H0 := Lib.hid ((Below.refl w.heap.size w).alloc (Nat.le_refl _) (.cells (opA o).toArray 34))
  have Q1 := Lib.hid (fun W => right_any o ho hr W)
  have HO := Lib.hid ho
  have HNL := Lib.hid (nums_le ho)
  clear ho hr
  go_enter Tryz.func23, Tryz.ntmps23
  go_wp2_with (refine OpAt.load_list H1.out rfl (.tmp 1) rfl rfl ?_)
  generalize w.alloc (.cells (opA o).toArray 34) = w1 at *
  refine (Q1.out _).mono ?_
  rintro e w2 ⟨rfl, hg2⟩
  have h2 := H1.out.below hg2.below
  have hb2 := H0.out.trans (hg2.below.mono H0.out.size)
  have Q2 := Lib.hid (new_any w2)
  have H2 := Lib.hid h2
  have HB2 := Lib.hid hb2
  clear h2 hg2 hb2 H1 H0 Q1
  go_wp2_with fail
  refine Q2.out.mono ?_
  rintro e w3 ⟨rfl, hw3, hb3⟩
  have h3 := H2.out.below hb3
  have c0 : w3.cell? ⟨w.heap.size, 0, none⟩ = some (.int .u8 ((o.rep : Nat) : Int)) := by rw [h3.cell]; rfl
  have c1 : w3.cell? ⟨w.heap.size, 1, none⟩ = some (.int .u32 ((o.seq : Nat) : Int)) := by rw [h3.cell]; rfl
  have c2 : w3.cell? ⟨w.heap.size, 2, none⟩ = some (.int .u8 ((o.kind : Nat) : Int)) := by rw [h3.cell]; rfl
  have c3 : w3.cell? ⟨w.heap.size, 3, none⟩ = some (.int .u16 ((o.cart : Nat) : Int)) := by rw [h3.cell]; rfl
  have c4 : w3.cell? ⟨w.heap.size, 4, none⟩ = some (.int .u16 ((o.item : Nat) : Int)) := by rw [h3.cell]; rfl
  have c5 : w3.cell? ⟨w.heap.size, 5, none⟩ = some (.int .u16 ((o.qty : Nat) : Int)) := by rw [h3.cell]; rfl
  have c6 : w3.cell? ⟨w.heap.size, 6, none⟩ = some (.int .u32 ((o.tick : Nat) : Int)) := by rw [h3.cell]; rfl
  have hn : nums o = [o.rep, o.seq, o.kind, o.cart, o.item, o.qty, o.tick] := rfl
  have b0 := HO.out.rep
  have b1 := HO.out.seq
  have b2 := HO.out.kind
  have b3 := HO.out.cart
  have b4 := HO.out.item
  have b5 := HO.out.qty
  have b6 := HO.out.tick
  generalize o.rep = x0 at *
  generalize o.seq = x1 at *
  generalize o.kind = x2 at *
  generalize o.cart = x3 at *
  generalize o.item = x4 at *
  generalize o.qty = x5 at *
  generalize o.tick = x6 at *
  have v0 : IntKind.u64.wrap (x0 : Int) = (x0 : Int) := by rw [IntKind.wrap_u64]; omega
  have v1 : IntKind.u64.wrap (x1 : Int) = (x1 : Int) := by rw [IntKind.wrap_u64]; omega
  have v2 : IntKind.u64.wrap (x2 : Int) = (x2 : Int) := by rw [IntKind.wrap_u64]; omega
  have v3 : IntKind.u64.wrap (x3 : Int) = (x3 : Int) := by rw [IntKind.wrap_u64]; omega
  have v4 : IntKind.u64.wrap (x4 : Int) = (x4 : Int) := by rw [IntKind.wrap_u64]; omega
  have v5 : IntKind.u64.wrap (x5 : Int) = (x5 : Int) := by rw [IntKind.wrap_u64]; omega
  have v6 : IntKind.u64.wrap (x6 : Int) = (x6 : Int) := by rw [IntKind.wrap_u64]; omega
  have harr : (#[.int .u64 (x0 : Int), .int .u64 (x1 : Int), .int .u64 (x2 : Int), .int .u64 (x3 : Int), .int .u64 (x4 : Int), .int .u64 (x5 : Int), .int .u64 (x6 : Int)] : Array Value) = ((nums o).map fun x => Value.int .u64 ((x : Nat) : Int)).toArray := by rw [hn]; rfl
  have HARR := Lib.hid harr
  have HLN := Lib.hid (show (nums o).length = 7 by rw [hn]; rfl)
  have HW3 := Lib.hid hw3
  have HB3 := Lib.hid hb3
  have HGL := Lib.hid H2.out.lt
  clear h3 hw3 hb3 hn harr Q2
  go_wp2_with fail
  rw [HARR.out]
  have hget : ∀ k, k < 7 → ((nums o).map fun x => Value.int .u64 ((x : Nat) : Int)).toArray[k]? = some (.int .u64 (((nums o).getD k 0 : Nat) : Int)) := fun k hk => by
    simp [List.getElem?_eq_getElem (show k < (nums o).length by rw [HLN.out]; exact hk), List.getD_eq_getElem?_getD]
  generalize ((nums o).map fun x => Value.int .u64 ((x : Nat) : Int)).toArray = A7 at hget ⊢
  have HGET := Lib.hid hget
  clear hget c0 c1 c2 c3 c4 c5 c6 v0 v1 v2 v3 v4 v5 v6 b0 b1 b2 b3 b4 b5 b6 HARR
  generalize hB : w2.heap.size = B at *
  have HBB := Lib.hid hB
  clear hB
  go_loopw [35] (fun i wr => ∃ k : Nat, k ≤ 7 ∧ i = .int .i64 (k : Int) ∧ Hid (∃ v', WrAt wr B B v' (cat ((nums o).take k))) ∧ Hid (Below B w2 wr)) (fun i _ => 7 - (intOf i).toNat)
  case atStart => exact ⟨0, Nat.zero_le _, rfl, ⟨_, HW3.out⟩, HB3⟩
  case round =>
    obtain ⟨k, hk, rfl, HW, HBL⟩ := hrel
    by_cases hlt : k < 7
    · have hsn := cat_snoc7 (L := nums o) (k := k) (by rw [HLN.out]; exact hlt)
      have hidx := fun W => arr7_index (A := A7) hlt (HGET.out k hlt) W
      have hxl : (nums o).getD k 0 ≤ 4294967295 := getD_le HNL.out k
      obtain ⟨v5, h5⟩ := HW.out
      have hcl := cat_length ((nums o).take k)
      rw [List.length_take] at hcl
      generalize (nums o).getD k 0 = x at *
      have q := num_any B B v5 _ x wr h5 (by omega) (by have := (enc_length x).2; omega)
      rw [← hsn] at q
      have Q := Lib.hid q
      clear hsn h5 hcl q HW
      go_wp2_with fail
      refine Q.out.mono ?_
      rintro e w5 ⟨rfl, h6, hb6⟩
      have H6 := Lib.hid h6
      have HB6 := Lib.hid (HBL.out.trans hb6)
      clear h6 hb6
      go_wp2_with fail
      go_roundw
      case rel => exact ⟨k + 1, by omega, by go_num, H6, HB6⟩
      case measure => simp [intOf]; omega
    · have hk7 : k = 7 := by omega
      subst hk7
      obtain ⟨v5, h5⟩ := HW.out
      rw [show (nums o).take 7 = nums o from List.take_of_length_le (by rw [HLN.out]; exact Nat.le_refl _)] at h5
      have h4 := H2.out.below (by rw [HBB.out]; exact HBL.out)
      have hcl := cat_length (nums o)
      rw [HLN.out] at hcl
      have hel := encV_length o.ctx
      have H4 := Lib.hid h4
      have H5 := Lib.hid h5
      have HCL := Lib.hid hcl
      have HEL := Lib.hid hel
      have Q := Lib.hid (vencode_any o.ctx HO.out.ctx wr)
      clear h5 hcl h4 hel HW HGET HLN HNL hlt hk
      go_wp2_with (refine OpAt.load_ctx H4.out rfl (.tmp 43) rfl rfl ?_)
      refine Q.out.mono ?_
      rintro e w6 ⟨v6, rfl, ho6, hb6⟩
      obtain ⟨A6, k6, rfl, hk6, hrd6⟩ := ho6.rd
      have h7 := H5.out.below hb6
      have hbB : B ≤ wr.heap.size := by rw [← HBB.out]; exact HBL.out.size
      have hb7 := HBL.out.trans (hb6.mono hbB)
      have q := bytes_any B B v5 _ A6 (encV o.ctx).length k6 (encV o.ctx) w6 h7 hrd6 hk6 (by have := HCL.out; have := HEL.out; have := (enc_length (encV o.ctx).length).2; omega)
      rw [show cat (nums o) ++ (enc (encV o.ctx).length ++ encV o.ctx) = encOp o from rfl] at q
      have HLE := Lib.hid (show (encOp o).length ≤ 65536 by
        have := HCL.out; have := HEL.out; have := (enc_length (encV o.ctx).length).2
        unfold encOp
        rw [List.length_append, List.length_append]
        omega)
      generalize (encV o.ctx).length = m6 at *
      have Q6 := Lib.hid q
      have HB7 := Lib.hid hb7
      clear q hb7 hbB h7 hrd6 ho6 hb6 Q
      go_wp2_with fail
      refine Q6.out.mono ?_
      rintro e w8 ⟨rfl, ⟨v8, h8⟩, hb8⟩
      have q := all_any B B v8 _ w8 h8 HLE.out
      have hb9 := HB2.out.trans ((HB7.out.trans hb8).mono (by rw [← HBB.out]; exact HB2.out.size))
      have Q8 := Lib.hid q
      have HB9 := Lib.hid hb9
      clear q h8 hb8 hb9
      go_wp2_with fail
      refine Q8.out.mono ?_
      rintro e w9 ⟨v9, rfl, ho9, hb9⟩
      have HOF := Lib.hid (show OwnB w9 w.heap.size v9 (encOp o) from ⟨own_base ho9.row HB9.out.size, ho9.small⟩)
      have HBF := Lib.hid (HB9.out.trans (hb9.mono HB9.out.size))
      obtain ⟨A9, m9, k9, rfl⟩ := is_slice ho9
      clear ho9 hb9
      go_wp2_with fail
      go_ret2
      exact ⟨_, rfl, HOF.out, HBF.out⟩
end Go.Proofs.YtgogbpkcceadbaaGreatDoor.Vc
namespace Go.Proofs.YtgogbpkcceadbaaGreatDoor.Vc
open Go.RowKit Go.Proofs.YtgogbpkcceadbaaGreatDoor.Wd Go.Proofs.YtgogbpkcceadbaaGreatDoor.VintP Go.Proofs.YtgogbpkcceadbaaGreatDoor.VintW Go.Proofs.YtgogbpkcceadbaaGreatDoor.Pk
set_option linter.unusedVariables false

/-- A taker. -/
def TkAt (w : World) (t g : Nat) : Prop := w.heap[t]? = some (.cells #[.pointer (some ⟨g, 0, none⟩), .bool false] 133 (0, 0))
theorem TkAt.grown {w w' : World} {t g : Nat} {r : Option Nat} (h : TkAt w t g) (hg : w.grownBy w' r) (hne : some t ≠ r) : TkAt w' t g := by
  unfold TkAt at h ⊢
  rw [hg.block t (Array.getElem?_eq_some_iff.1 h).1 hne]
  exact h
set_option maxHeartbeats 2000000 in
set_option maxRecDepth 100000 in
theorem tknum_any (t g c n b : Nat) (A : Option Addr) (rest : List Nat) (w : World) (ht : TkAt w t g) (htg : t ≠ g) (h : RrAt w g A c (enc n ++ rest)) (hb : b ≤ 32) (hn : n < 2 ^ b) :
    Calls Tryz.prog 78 #[.pointer (some ⟨t, 0, none⟩), .int .i64 (b : Int)] w fun e w' => e = .returned (.int .u64 (n : Int)) ∧ (∃ A' c', RrAt w' g A' c' rest) ∧ w.grownBy w' (some g) := by
  have h2 : 2 ^ b ≤ 2 ^ 32 := Nat.pow_le_pow_right (by decide) hb
  have q := rnum_ok g c A n rest w h (by have : (2 : Nat) ^ 32 = 4294967296 := by decide
                                         omega)
  have c0 : w.cell? ⟨t, 0, none⟩ = some (.pointer (some ⟨g, 0, none⟩)) := by rw [cell_of_row w t 0 _ _ _ ht]; rfl
  have Q := Lib.hid q
  have hsh : (n : Int) / 2 ^ b = 0 := by
    apply Int.ediv_eq_zero_of_lt (by omega)
    exact_mod_cast hn
  clear q h ht h2 hn
  go_enter Tryz.func78, Tryz.ntmps78
  go_wp2_with fail
  refine Q.out.mono ?_
  rintro e w1 ⟨rfl, hr1, hg1⟩
  have HR1 := Lib.hid hr1
  have HG1 := Lib.hid hg1
  clear hr1 hg1
  go_wp2_with fail
  go_ret
  exact ⟨rfl, HR1.out, HG1.out⟩
end Go.Proofs.YtgogbpkcceadbaaGreatDoor.Vc
