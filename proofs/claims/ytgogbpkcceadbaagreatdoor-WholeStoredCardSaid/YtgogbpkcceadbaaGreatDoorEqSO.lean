/-
  '==' between spans, and between operations.
-/
import Derived.Test.YtgogbpkcceadbaaGreatDoorOpW
import Derived.DeepKeys
namespace Go.Proofs.YtgogbpkcceadbaaGreatDoor.Vc
open Go.RowKit Go.Proofs.YtgogbpkcceadbaaGreatDoor.Wd
set_option linter.unusedVariables false

theorem wf8 {r : Nat} (h : r ≤ 255) : (Lit.int .u8 (r : Int)).wf = true := by
  simp [Lit.wf, IntKind.min, IntKind.max, IntKind.signed, IntKind.bits]
  omega
theorem wf16 {r : Nat} (h : r ≤ 65535) : (Lit.int .u16 (r : Int)).wf = true := by
  simp [Lit.wf, IntKind.min, IntKind.max, IntKind.signed, IntKind.bits]
  omega
theorem wf32 {r : Nat} (h : r ≤ 4294967295) : (Lit.int .u32 (r : Int)).wf = true := by
  simp [Lit.wf, IntKind.min, IntKind.max, IntKind.signed, IntKind.bits]
  omega
theorem kl_int {d : Nat} {t : TypeId} {k : IntKind} {n : Int} (ht : Tryz.prog.underlying t = some (.int k)) (hw : (Lit.int k n).wf = true) : Tryz.prog.keyLits (d + 1) t [.int k n] = some [.int k n] := by
  unfold Program.keyLits
  rw [ht]
  simp [hw]
theorem kl8 {d r : Nat} (h : r ≤ 255) : Tryz.prog.keyLits (d + 1) 5 [.int .u8 (r : Int)] = some [.int .u8 (r : Int)] := kl_int Tryz.underlying5 (wf8 h)
theorem kl16 {d r : Nat} (h : r ≤ 65535) : Tryz.prog.keyLits (d + 1) 23 [.int .u16 (r : Int)] = some [.int .u16 (r : Int)] := kl_int Tryz.underlying23 (wf16 h)
theorem kl32 {d r : Nat} (h : r ≤ 4294967295) : Tryz.prog.keyLits (d + 1) 28 [.int .u32 (r : Int)] = some [.int .u32 (r : Int)] := kl_int Tryz.underlying28 (wf32 h)
theorem d5 : Tryz.prog.cellsOf 5 = 1 := by kernel_rfl
theorem d22 : Tryz.prog.cellsOf 28 = 1 := by kernel_rfl
theorem d52 : Tryz.prog.cellsOf 23 = 1 := by kernel_rfl
theorem d24 : Tryz.prog.cellsOf 32 = 16 := by kernel_rfl
theorem d45 : Tryz.prog.cellsOf 30 = 2 := by kernel_rfl
theorem d54 : Tryz.prog.cellsOf 34 = 23 := by kernel_rfl
theorem mapM_some_of {α β : Type} {f : α → Option β} {g : α → β} : ∀ (l : List α), (∀ x ∈ l, f x = some (g x)) → l.mapM f = some (l.map g)
  | [], _ => rfl
  | x :: l, h => by
    rw [List.mapM_cons, h x (by simp), mapM_some_of l (fun y hy => h y (by simp [hy]))]
    rfl
theorem kl_vec {d : Nat} {xs : List Nat} (h : IsVec xs) : Tryz.prog.keyLits (d + 2) 32 (xs.map fun x => .int .u32 ((x : Nat) : Int)) = some (xs.map fun x => .int .u32 ((x : Nat) : Int)) := by
  unfold Program.keyLits
  rw [Tryz.underlying32]
  simp only []
  rw [if_pos (by rw [d24]; simp [h.len]), mapM_some_of (g := fun i => [Lit.int .u32 ((xs.getD i 0 : Nat) : Int)])]
  · simp only [Option.map_some, Option.some.injEq]
    apply List.ext_getElem (by simp [h.len, List.length_flatten, List.map_map, Function.comp_def]; decide)
    intro i h1 h2
    have e : ((List.range 16).map fun i => [Lit.int .u32 ((xs.getD i 0 : Nat) : Int)]).flatten = (List.range 16).map fun i => Lit.int .u32 ((xs.getD i 0 : Nat) : Int) := by
      rw [← List.flatMap_def, List.map_eq_flatMap]
    have hi : i < 16 := by simpa [h.len] using h2
    rw [← Option.some.injEq, ← List.getElem?_eq_getElem h1, e, ← List.getElem?_eq_getElem h2, List.getElem?_map, List.getElem?_range hi, List.getElem?_map, List.getElem?_eq_getElem (by rw [h.len]; exact hi)]
    simp [List.getD_eq_getElem?_getD, List.getElem?_eq_getElem (show i < xs.length by rw [h.len]; exact hi)]
  · intro i hi
    have hi16 := List.mem_range.1 hi
    have hlt : i < xs.length := by rw [h.len]; exact hi16
    rw [d22, Nat.mul_one, List.drop_eq_getElem_cons (by simpa using hlt), List.take_succ_cons, List.take_zero]
    rw [List.getElem_map]
    rw [kl32 (h.small _ (List.getElem_mem hlt))]
    simp [List.getD_eq_getElem?_getD, List.getElem?_eq_getElem hlt]
theorem kl_dot {d r s : Nat} (hr : r ≤ 255) (hs : s ≤ 4294967295) : Tryz.prog.keyLits (d + 2) 30 [.int .u8 (r : Int), .int .u32 (s : Int)] = some [.int .u8 (r : Int), .int .u32 (s : Int)] := by
  unfold Program.keyLits
  rw [Tryz.underlying30]
  simp [List.mapM_cons, d5, d22, d45, kl8 hr, kl32 hs]
def opLits (o : O) : List Lit := [.int .u8 ((o.rep : Nat) : Int), .int .u32 ((o.seq : Nat) : Int), .int .u8 ((o.kind : Nat) : Int), .int .u16 ((o.cart : Nat) : Int), .int .u16 ((o.item : Nat) : Int), .int .u16 ((o.qty : Nat) : Int), .int .u32 ((o.tick : Nat) : Int)] ++
  o.ctx.map fun x => .int .u32 ((x : Nat) : Int)
theorem kl_op {o : O} (h : OkO o) : Tryz.prog.keyLits 4 34 (opA o) = some (opLits o) := by
  have hc : ((o.ctx.map fun x => Value.int .u32 ((x : Nat) : Int)).take 16) = o.ctx.map fun x => Value.int .u32 ((x : Nat) : Int) := List.take_of_length_le (by simp [h.ctx.len])
  have hl := opA_length h
  unfold Program.keyLits
  rw [Tryz.underlying34]
  simp only []
  rw [if_pos ⟨by rw [d54]; exact hl, by simp⟩]
  simp [opA, opLits, List.mapM_cons, d5, d22, d52, d45, d24, kl8 h.kind, kl16 h.cart, kl16 h.item, kl16 h.qty, kl32 h.tick, kl_dot h.rep h.seq, hc, kl_vec h.ctx]
theorem opLits_inj {a b : O} : opLits a = opLits b ↔ a = b := by
  constructor
  · intro h
    cases a
    cases b
    simp [opLits] at h
    obtain ⟨h1, h2, h3, h4, h5, h6, h7, h8⟩ := h
    have h9 := (List.map_inj_right (f := fun x : Nat => Lit.int .u32 ((x : Nat) : Int)) (by intro x y hxy; simp at hxy; omega)).1 h8
    simp [h9]
    omega
  · rintro rfl
    rfl
theorem eqOpL (a b : O) (ha : OkO a) (hb : OkO b) (W : World) : (Op.equalIn 10000 34 (.agg (opA a).toArray) (.agg (opA b).toArray)).run Tryz.prog W = .ok (decide (a = b)) W := by
  obtain ⟨r, hr, hi⟩ := run_equalIn_deep (P := Tryz.prog) 9996 4 34 (by kernel_rfl) W 4 4 (.agg (opA a).toArray) (.agg (opA b).toArray) _ _
    (by simp [Value.formed, Tryz.underlying34, d54, opA_length ha]) (by simp [Value.formed, Tryz.underlying34, d54, opA_length hb]) (by simpa [Value.cells] using kl_op ha) (by simpa [Value.cells] using kl_op hb)
  have e : r = decide (a = b) := by
    rw [Bool.eq_iff_iff, hi, decide_eq_true_eq]
    exact opLits_inj
  rw [← e]
  exact hr
end Go.Proofs.YtgogbpkcceadbaaGreatDoor.Vc
