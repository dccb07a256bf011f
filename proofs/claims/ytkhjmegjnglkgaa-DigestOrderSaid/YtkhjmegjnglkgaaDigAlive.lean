/-
  'alive' of layer 19 says true.
-/
import Derived.Test.YtkhjmegjnglkgaaPick
import Derived.Test.YtkhjmegjnglkgaaRounds
import Derived.Great.Walk
namespace Go.Proofs.Ytkhjmegjnglkgaa.Vc
open Go.RowKit Go.Proofs.Ytkhjmegjnglkgaa.Wd Go.Sort Go.Proofs
set_option linter.unusedVariables false

def oa : O := ⟨0, 1, 0, 0, 0, 0, 0, List.replicate 16 0⟩
def ob : O := ⟨1, 1, 0, 0, 0, 0, 0, List.replicate 16 0⟩
theorem okA : OkO oa := ⟨by decide, by decide, by decide, by decide, by decide, by decide, by decide, ⟨by decide, by decide⟩⟩
theorem okB : OkO ob := ⟨by decide, by decide, by decide, by decide, by decide, by decide, by decide, ⟨by decide, by decide⟩⟩
def va : List Nat := [1, 5, 0, 0, 0, 0, 0, 0, 0, 0, 0, 0, 0, 0, 0, 0]
def vb : List Nat := [3, 2, 1, 0, 0, 0, 0, 0, 0, 0, 0, 0, 0, 0, 0, 0]
def v0 : List Nat := [0, 0, 0, 0, 0, 0, 0, 0, 0, 0, 0, 0, 0, 0, 0, 0]
def v5 : List Nat := [5, 0, 0, 0, 0, 0, 0, 0, 0, 0, 0, 0, 0, 0, 0, 0]
theorem ivA : IsVec va := ⟨by decide, by decide⟩
theorem ivB : IsVec vb := ⟨by decide, by decide⟩
theorem iv0 : IsVec v0 := ⟨by decide, by decide⟩
theorem iv5 : IsVec v5 := ⟨by decide, by decide⟩
theorem eqOp (W : World) : (Op.equalIn 10000 54 (.agg (opA oa).toArray) (.agg (opA oa).toArray)).run Try.prog W = .ok true W := by kernel_rfl
theorem eqSp (W : World) : (Op.equalIn 10000 38 (.agg #[.int .u8 0, .int .u32 2, .int .u32 3]) (.agg #[.int .u8 0, .int .u32 2, .int .u32 3])).run Try.prog W = .ok true W := by kernel_rfl
theorem need_lit (w : World) : Calls Try.prog 10 #[.agg (vecA va), .agg (vecA vb)] w (GivesSp 38 w [(0, 2, 3), (2, 1, 1)]) := by
  have h := need_any va vb ivA ivB w
  rw [show needTo va vb 16 = [(0, 2, 3), (2, 1, 1)] by decide] at h
  exact h
theorem sort_lit : (Sort.insertionSort (ltOf cf) #[⟨ob, okB⟩, ⟨oa, okA⟩] 0 2).toList = [⟨oa, okA⟩, ⟨ob, okB⟩] := by
  have h1 : ltOf cf ⟨oa, okA⟩ ⟨ob, okB⟩ = true := by decide
  unfold Sort.insertionSort insOuter
  rw [if_pos (by decide)]
  unfold insOuter
  rw [if_neg (by decide)]
  unfold insInner
  rw [if_pos (by simpa using h1)]
  unfold insInner
  simp [swp]
theorem rounds_lit : rounds v0 v5 2 = 3 := by decide

theorem store_op {ops : Array Oper} {rest : List Oper} {o : Oper} {a : Act} {w : World} {Q : Exit → Act → World → Prop} {g : Nat} {old : Array Value} {y : O} (hy : OkO y) (hg : w.heap[g]? = some (.cells old 54 (0, 0))) (hold : old.size = 23)
    (hgd : o.guard = none) (s x : Operand) (ho : o.op = .store 54 s x) (hs : a.eval s = .pointer (some ⟨g, 0, none⟩)) (hx : a.eval x = .agg (opA y).toArray)
    (hk : ∀ w', OpAt w' g y → w.grownBy w' (some g) → w'.heap.size = w.heap.size → wpList Try.prog ops Q rest (a.put o.dst undef) w') : wpList Try.prog ops Q (o :: rest) a w := by
  refine wpList_store_row hgd 54 s x ho g (opA y).toArray hs hx 54 old hg (by rw [List.size_toArray, opA_length hy]; kernel_rfl) (by rw [show (opA y).toArray.size = 23 by rw [List.size_toArray]; exact opA_length hy]; exact hold) ?_ ?_
  · rw [Array.all_eq_true_iff_forall_mem]
    intro v hv
    exact encO_one ⟨y, hy⟩ v (by show v ∈ opA y; simpa using hv)
  · exact hk _ ⟨hy, setRow_heap w g old _ _ _ hg⟩ ⟨rfl, rfl, rfl, by simp [World.setRow], fun k _ hne => setRow_other w g k _ (fun e => hne (by rw [e]))⟩ (by simp [World.setRow])
theorem build_lit : Try.prog.builtSlice 54 2 [(0, .agg (opA ob).toArray), (1, .agg (opA oa).toArray)] = some (flatL [⟨ob, okB⟩, ⟨oa, okA⟩]).toArray := by kernel_rfl
def LL : List OpN := [⟨ob, okB⟩, ⟨oa, okA⟩]
theorem rdLL (w : World) : RdO (w.alloc (.cells (flatL LL).toArray 54)) (some ⟨w.heap.size, 0, none⟩) 2 LL :=
  ⟨rfl, by decide, fun _ => ⟨_, rfl, fun t u hu => by
    have hadd : (⟨w.heap.size, 0, none⟩ : Addr).add t = ⟨w.heap.size, t, none⟩ := by unfold Addr.add; split <;> simp_all
    rw [hadd, cell_of_row _ w.heap.size t _ _ _ (heap_alloc_new w _)]
    simpa using hu⟩⟩
theorem pick_lit (w : World) (X : Array Value) (hX : X = (flatL LL).toArray) : Calls Try.prog 18 #[.slice (some ⟨w.heap.size, 0, none⟩) 2 2, .agg (vecA v0), .int .i64 1] (w.alloc (.cells X 54)) fun e w' =>
    ∃ g c, e = .returned (.slice (some ⟨g, 0, none⟩) 1 c) ∧ RdO w' (some ⟨g, 0, none⟩) 2 [⟨oa, okA⟩, ⟨ob, okB⟩] ∧ Below w.heap.size w w' := by
  subst hX
  have h := pick_small LL 2 2 ⟨w.heap.size, 0, none⟩ v0 1 _ (rdLL w) (by decide) (by decide) iv0 (by decide) (by
    intro x hx
    simp only [LL, List.mem_cons, List.not_mem_nil, or_false] at hx
    rcases hx with rfl | rfl <;> decide)
  rw [show LL.toArray = #[⟨ob, okB⟩, ⟨oa, okA⟩] from rfl, sort_lit] at h
  refine h.mono ?_
  rintro e w' ⟨g, c, he, hr, hb⟩
  exact ⟨g, c, he, hr, ((Below.refl w.heap.size w).alloc (Nat.le_refl _) _).trans (hb.mono (by simp))⟩
theorem RdS.at_ {w : World} {ad : Addr} {n : Nat} {l : List Sp} (h : RdS w (some ad) n l) {j : Nat} (hj : j < n) : w.cell? (ad.add (j * 3)) = some (.int .u8 (((l.getD j (0, 0, 0)).1 : Nat) : Int)) ∧
    w.cell? (ad.add (j * 3 + 1)) = some (.int .u32 (((l.getD j (0, 0, 0)).2.1 : Nat) : Int)) ∧ w.cell? (ad.add (j * 3 + 2)) = some (.int .u32 (((l.getD j (0, 0, 0)).2.2 : Nat) : Int)) := by
  obtain ⟨ad', e, hc⟩ := h.cell (by omega)
  injection e with e
  subst e
  exact hc j hj
theorem load38 {W : World} {a : Addr} {x y z : Value} (h0 : W.cell? a = some x) (h1 : W.cell? { block := a.block, off := a.off + 1 } = some y) (h2 : W.cell? { block := a.block, off := a.off + 2 } = some z) : (ldK 38 a).run Try.prog W = .ok (.agg #[x, y, z]) W := by
  simp [ldK, go_sem, h0, h1, h2]
attribute [local go_sem ↓] ldKx stKx
set_option maxHeartbeats 4000000 in
set_option maxRecDepth 100000 in
theorem alive_any (w : World) : Calls Try.prog 9 #[] w fun e w' => e = .returned (.bool true) ∧ Below w.heap.size w w' := by
  have Q1 := Lib.hid (need_lit w)
  go_enter Try.func9, Try.ntmps9
  go_wp2_with fail
  refine Q1.out.mono ?_
  rintro e w1 ⟨v1, rfl, ho1, hb1⟩
  have HB1 := Lib.hid hb1
  obtain ⟨A1, c1, hv1, hc1, hr1⟩ := ho1.rd (by
    intro s hs
    simp only [List.mem_cons, List.not_mem_nil, or_false] at hs
    rcases hs with rfl | rfl <;> exact ⟨by decide, by decide, by decide⟩)
  simp only [List.length_cons, List.length_nil] at hv1 hc1 hr1
  subst hv1
  obtain ⟨ad, hA, _⟩ := hr1.cell (by decide)
  subst hA
  have HR1 := Lib.hid hr1
  have hz1 : ∀ o1 o2, ((w1.alloc o1).alloc o2).heap[w1.heap.size]? = some o1 := fun o1 o2 => by
    show ((w1.heap.push o1).push o2)[w1.heap.size]? = some o1
    simp [Array.getElem?_push]
  have hz2 : ∀ o1 o2, ((w1.alloc o1).alloc o2).heap[w1.heap.size + 1]? = some o2 := fun o1 o2 => by simpa using heap_alloc_new (w1.alloc o1) o2
  have Z1 := Lib.hid hz1
  have Z2 := Lib.hid hz2
  clear ho1 hb1 hr1 hz1 hz2
  go_wp2_with (first
    | (refine store_op okA (Z1.out _ _) (by rfl) rfl (.tmp 2) (.tmp 9) rfl rfl rfl ?_; intro w2 hoa hga hsa; have HOA := Lib.hid hoa; have HGA := Lib.hid hga; have HSA := Lib.hid hsa; clear hoa hga hsa)
    | (refine store_op okB ((HGA.out.block _ (by simp) (by simp)).trans (Z2.out _ _)) (by rfl) rfl (.tmp 3) (.tmp 11) rfl rfl rfl ?_; intro w3 hob hgb hsb; have HOB := Lib.hid hob; have HGB := Lib.hid hgb; have HSB := Lib.hid hsb; have HOA2 := Lib.hid (show OpAt w3 w1.heap.size oa from ⟨okA, by rw [hgb.block _ (by rw [HSA.out]; simp; omega) (by simp)]; exact HOA.out.row⟩); clear hob hgb hsb)
    | (refine OpAt.load_list HOB.out rfl (.tmp 3) rfl rfl ?_)
    | (refine OpAt.load_list HOA2.out rfl (.tmp 2) rfl rfl ?_)
    | (refine wpList_buildSliceTo rfl 40 54 2 _ rfl _ rfl _ rfl Try.underlying40 _ (by simp only [List.map_toArray, List.map_cons, List.map_nil]; exact build_lit) ?_))
  refine (pick_lit w3 _ (by kernel_rfl)).mono ?_
  rintro e w5 ⟨g, c, rfl, hr5, hb5⟩
  have hb13 : RowKit.Below w1.heap.size w1 w3 := by
    have h1 : RowKit.Below w1.heap.size w1 w2 := ((((Below.refl w1.heap.size w1).alloc (Nat.le_refl _) _).alloc (by simp) _).grown HGA.out (by simp; omega) (fun k hk => by injection hk with hk; omega))
    exact h1.grown HGB.out h1.size (fun k hk => by injection hk with hk; omega)
  have hb15 := hb13.trans (hb5.mono hb13.size)
  have HB5 := Lib.hid (HB1.out.trans (hb15.mono HB1.out.size))
  have l1 : ∀ W, RowKit.Below w5.heap.size w5 W → (ldK 54 ⟨g, 0, none⟩).run Try.prog W = .ok (.agg (opA oa).toArray) W := fun W hW => hr5.load (k := 0) (x := ⟨oa, okA⟩) rfl W hW
  have l2 : ∀ W, RowKit.Below w5.heap.size w5 W → (ldK 54 ⟨w1.heap.size, 0, none⟩).run Try.prog W = .ok (.agg (opA oa).toArray) W := fun W hW => ((HOA2.out.below hb5).below hW).load
  have HS := Lib.hid (HR1.out.below hb15)
  have l3 : ∀ W, RowKit.Below w5.heap.size w5 W → (ldK 38 ad).run Try.prog W = .ok (.agg #[.int .u8 0, .int .u32 2, .int .u32 3]) W := fun W hW => by
    obtain ⟨h0, h1, h2⟩ := (HS.out.below hW).at_ (j := 0) (by decide)
    exact load38 h0 h1 h2
  have l4 : ∀ W, RowKit.Below w5.heap.size w5 W → (ldK 5 (ad.add 3)).run Try.prog W = .ok (.int .u8 2) W := fun W hW => load8 ((HS.out.below hW).at_ (j := 1) (by decide)).1
  have l5 : ∀ W, RowKit.Below w5.heap.size w5 W → (ldK 5 { block := ad.block, off := ad.off + 3 }).run Try.prog W = .ok (.int .u8 2) W := fun W hW => l4 W hW
  have QS := Lib.hid (fun W (hW : RowKit.Below w5.heap.size w5 W) => size_any 2 c1 (some ad) [(0, 2, 3), (2, 1, 1)] W (HS.out.below hW) (by decide))
  have qr := fun W => rounds_any v0 v5 iv0 iv5 2 (by decide) (by decide) W
  rw [rounds_lit] at qr
  have QR := Lib.hid qr
  clear qr
  have e1 := eqOp
  have e2 := eqSp
  clear hr5 hb5 hb13 hb15
  go_wp2_with fail
  go_region_held3 (fun w' => RowKit.Below w5.heap.size w5 w') (first | assumption | exact (Below.refl _ _).drew)
    (first
      | (go_at_call 13; refine (QS.out _ (by assumption)).mono ?_; rintro e w6 ⟨rfl, hb6⟩; have hb7 := Below.trans ‹RowKit.Below w5.heap.size w5 _› (hb6.mono (Below.size ‹RowKit.Below w5.heap.size w5 _›)))
      | (go_at_call 15; refine (QR.out _).mono ?_; rintro e w6 ⟨rfl, hb6⟩; have hb7 := Below.trans ‹RowKit.Below w5.heap.size w5 _› (hb6.mono (Below.size ‹RowKit.Below w5.heap.size w5 _›))))
  all_goals
    have HGF := Lib.hid (HB5.out.trans (RowKit.Below.mono ‹RowKit.Below w5.heap.size w5 w6› HB5.out.size))
    go_wp2
    go_ret
    exact ⟨rfl, HGF.out⟩
end Go.Proofs.Ytkhjmegjnglkgaa.Vc
