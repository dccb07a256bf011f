/-
  '==' between two arrays of whole numbers, in the model's own words.
-/
import Derived.Test.YtchncgniiohgdaaDoorRows
import Derived.Laws.StructEq
import Derived.ChangeKeysEq
import Derived.KernelRfl
namespace Go.Proofs.YtchncgniiohgdaaDoor.Eqa
open Go

theorem eqItems_ints {P : Program} (d : Nat) {e : TypeId} {k : IntKind} (he : P.underlying e = some (.int k)) (hp : P.plainKey e = true) (ps qs : List Int) (w : World) :
    ∀ is : List Nat, (∀ i ∈ is, i < ps.length ∧ i < qs.length) →
    (Op.eqItems (d + 1) e 1 (ps.map (Value.int k)).toArray (qs.map (Value.int k)).toArray is).run P w = .ok (is.all fun i => ps.getD i 0 == qs.getD i 0) w
  | [], _ => by simp [Op.eqItems]
  | i :: is, h => by
    have hi := h i (by simp)
    have ha : (ps.map (Value.int k)).toArray[i * 1]? = some (.int k (ps.getD i 0)) := by
      simp [List.getElem?_eq_getElem hi.1, List.getD_eq_getElem?_getD]
    have hb : (qs.map (Value.int k)).toArray[i * 1]? = some (.int k (qs.getD i 0)) := by
      simp [List.getElem?_eq_getElem hi.2, List.getD_eq_getElem?_getD]
    have ih := eqItems_ints d he hp ps qs w is (fun j hj => h j (by simp [hj]))
    simp only [Op.eqItems, Sem.run_bind, run_part_plain w hp ha, run_part_plain w hp hb, Result.andThen_ok, run_equalIn_int w d e k k _ _ he]
    cases hc : (ps.getD i 0 == qs.getD i 0)
    · simp only [Bool.not_false, if_true, Sem.run_pure, List.all_cons, hc, Bool.false_and]
    · simp only [Bool.not_true, Bool.false_eq_true, if_false, List.all_cons, hc, Bool.true_and]
      exact ih
theorem eq_ints {P : Program} (d : Nat) {t e : TypeId} {n : Nat} {k : IntKind} {i : TypeInfo} (ht : P.underlying t = some (.array n e)) (he : P.underlying e = some (.int k)) (hp : P.plainKey e = true) (hi : P.info? e = some i) (hc : P.cellsOf e = 1)
    (ps qs : List Int) (ha : ps.length = n) (hb : qs.length = n) (w : World) :
    (Op.equalIn (d + 2) t (.agg (ps.map (Value.int k)).toArray) (.agg (qs.map (Value.int k)).toArray)).run P w = .ok (decide (ps = qs)) w := by
  rw [run_equalIn_array w (d + 1) _ _ ht hi, hc, eqItems_ints d he hp ps qs w _ (fun i hi => by rw [ha, hb]; simpa using hi)]
  congr 1
  rw [Bool.eq_iff_iff]
  simp only [List.all_eq_true, List.mem_range, beq_iff_eq, decide_eq_true_eq]
  constructor
  · intro h
    apply List.ext_getElem (by rw [ha, hb])
    intro j h1 h2
    have := h j (by omega)
    simpa [List.getD_eq_getElem?_getD, List.getElem?_eq_getElem h1, List.getElem?_eq_getElem h2] using this
  · rintro rfl j _
    rfl
/-- Arrays of four bytes. -/
theorem eq4 {b0 b1 b2 b3 d0 d1 d2 d3 : Nat} (W : World) :
    (Op.equalIn 10000 44 (.agg #[.int .u8 (b0 : Int), .int .u8 (b1 : Int), .int .u8 (b2 : Int), .int .u8 (b3 : Int)]) (.agg #[.int .u8 (d0 : Int), .int .u8 (d1 : Int), .int .u8 (d2 : Int), .int .u8 (d3 : Int)])).run Tryd.prog W = .ok (decide ([b0, b1, b2, b3] = [d0, d1, d2, d3])) W := by
  obtain ⟨i, hi⟩ := info_of_underlying Tryd.underlying5
  have h := eq_ints (P := Tryd.prog) 9998 Tryd.underlying44 Tryd.underlying5 (by kernel_rfl) hi (by kernel_rfl) [(b0 : Int), b1, b2, b3] [(d0 : Int), d1, d2, d3] rfl rfl W
  have e : decide ([(b0 : Int), (b1 : Int), (b2 : Int), (b3 : Int)] = [(d0 : Int), (d1 : Int), (d2 : Int), (d3 : Int)]) = decide ([b0, b1, b2, b3] = [d0, d1, d2, d3]) := by
    rw [decide_eq_decide]
    simp
    omega
  rw [e] at h
  exact h
end Go.Proofs.YtchncgniiohgdaaDoor.Eqa
