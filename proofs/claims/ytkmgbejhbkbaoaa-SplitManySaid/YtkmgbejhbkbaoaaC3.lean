/- The program's check: shapes. -/
import Derived.Test.YtkmgbejhbkbaoaaC2
import Derived.Test.YtkmgbejhbkbaoaaL6
import Derived.Test.YtkmgbejhbkbaoaaD1
namespace Go.Proofs.Ytkmgbejhbkbaoaa
set_option linter.unusedSimpArgs false
set_option linter.unusedVariables false
open Go.RowKit

/-- of a kind: operands at least, at most; blocks at least, at most -/
def shapeF (k : Int) : Option (Int × Int × Int × Int) :=
  if k = 1 then some (0, 0, 1, 1) else if k = 2 then some (1, 1, 2, 2) else if k = 3 then some (1, 1, 2, 65) else if k = 4 then some (0, 1, 0, 0) else if k = 5 then some (0, 0, 0, 0) else none
def shpV (s : Int × Int × Int × Int) : Value := .agg #[.int .i64 s.1, .int .i64 s.2.1, .int .i64 s.2.2.1, .int .i64 s.2.2.2]
def shapeL : List (Value × Value) := [(.int .i64 1, shpV (0, 0, 1, 1)), (.int .i64 2, shpV (1, 1, 2, 2)), (.int .i64 3, shpV (1, 1, 2, 65)), (.int .i64 4, shpV (0, 1, 0, 0)), (.int .i64 5, shpV (0, 0, 0, 0))]
abbrev KpI : Value → Prop := fun v => ∃ a, v = .int .i64 a

set_option maxRecDepth 20000 in
theorem shapes_calls (w : World) : Calls Try.prog 72 #[] w fun e w' => e = .returned (.map (some w.heap.size)) ∧ MapR KpI w' w.heap.size shapeL ∧ Ext [] w w' := by
  have hmm := @run_makeMap Try.prog
  obtain ⟨w1, hw1⟩ : ∃ w1, w1 = w.alloc (.map #[] 0) := ⟨_, rfl⟩
  have h0 : MapR KpI w1 w.heap.size [] := by rw [hw1]; exact MapR.new w
  have hx0 : Ext [] w w1 := by rw [hw1]; exact (Ext.refl _ _).alloc _
  have ht := Try.underlying125
  obtain ⟨w2, r2, h2, x2⟩ := h0.put klInt ht ⟨1, rfl⟩ (by simp) (shpV (0, 0, 1, 1))
  obtain ⟨w3, r3, h3, x3⟩ := h2.put klInt ht ⟨2, rfl⟩ (by simp) (shpV (1, 1, 2, 2))
  obtain ⟨w4, r4, h4, x4⟩ := h3.put klInt ht ⟨3, rfl⟩ (by simp) (shpV (1, 1, 2, 65))
  obtain ⟨w5, r5, h5, x5⟩ := h4.put klInt ht ⟨4, rfl⟩ (by simp) (shpV (0, 1, 0, 0))
  obtain ⟨w6, r6, h6, x6⟩ := h5.put klInt ht ⟨5, rfl⟩ (by simp) (shpV (0, 0, 0, 0))
  have hx : Ext [] w w6 := by
    have hy := (((x2.same x3).same x4).same x5).same x6
    exact hx0.trans hy (by simp)
  simp only [shpV] at r2 r3 r4 r5 r6
  subst hw1
  go_enter Try.func72, Try.ntmps72
  go_wp2
  go_ret
  exact ⟨rfl, h6, hx⟩
def shpOf (k : Int) : (Int × Int × Int × Int) × Bool := match shapeF k with | none => ((0, 0, 0, 0), false) | some s => (s, true)
theorem zero_shape (w : World) : (zeroValue 123).run Try.prog w = .ok (shpV (0, 0, 0, 0)) w := by kernel_rfl
theorem shape_look {w : World} {m : Nat} (h : MapR KpI w m shapeL) (k : Int) :
    (Instr.lookup 125 (.map (some m)) (.int .i64 k) true).run Try.prog w = .ok (.tuple #[shpV (shpOf k).1, .bool (shpOf k).2]) w := by
  rcases h.look klInt Try.underlying125 (zero_shape w) ⟨k, rfl⟩ with ⟨hrun, hno⟩ | ⟨v, hv, hrun⟩
  · have h1 : k ≠ 1 := fun e => hno _ (.head _) (by rw [e])
    have h2 : k ≠ 2 := fun e => hno _ (.tail _ (.head _)) (by rw [e])
    have h3 : k ≠ 3 := fun e => hno _ (.tail _ (.tail _ (.head _))) (by rw [e])
    have h4 : k ≠ 4 := fun e => hno _ (.tail _ (.tail _ (.tail _ (.head _)))) (by rw [e])
    have h5 : k ≠ 5 := fun e => hno _ (.tail _ (.tail _ (.tail _ (.tail _ (.head _))))) (by rw [e])
    rw [hrun]
    simp [shpOf, shapeF, h1, h2, h3, h4, h5]
  · rw [hrun]
    simp only [shapeL, List.mem_cons, Prod.mk.injEq, Value.int.injEq, true_and, List.not_mem_nil, or_false] at hv
    rcases hv with ⟨rfl, rfl⟩ | ⟨rfl, rfl⟩ | ⟨rfl, rfl⟩ | ⟨rfl, rfl⟩ | ⟨rfl, rfl⟩ <;> rfl
end Go.Proofs.Ytkmgbejhbkbaoaa
