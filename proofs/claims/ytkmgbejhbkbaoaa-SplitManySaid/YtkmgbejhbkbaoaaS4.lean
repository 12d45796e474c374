/- The program's split: which edge was given which block; an element whose blocks of memory stay. -/
import Derived.Test.YtkmgbejhbkbaoaaS3
import Derived.Test.YtkmgbejhbkbaoaaL5
import Derived.Test.YtkmgbejhbkbaoaaG7
import Derived.WideKeyPair
namespace Go.Proofs.Ytkmgbejhbkbaoaa
set_option linter.unusedSimpArgs false
set_option linter.unusedVariables false
open Go.RowKit

section
variable {α : Type} {d : Kd α} {e : TypeId} {w w1 : World} {S Si : List Nat} {xs : List α} {g cap i : Nat} {cs : List Value}
/-- what it leads to has changed, in the same blocks of memory -/
theorem SlAt.same (h : SlAt d e w S g cap xs i Si cs) (hn : S.Nodup) {x' : α} (hx : ∀ k ∈ S, k ∉ Si → w1.heap[k]? = w.heap[k]?) (hr : d.rep w1 Si x' cs) : SlR d e w1 S (.slice (some ⟨g, 0, none⟩) xs.length cap) (xs.set i x') := by
  have hni := h.notin
  obtain ⟨⟨C, Ss, h0, h1, h2, hb0, hC, hgn, rfl, hE, hSi, rfl⟩, hi, hrep⟩ := h
  have hnf : Ss.flatten.Nodup := (List.nodup_cons.1 hn).2
  refine .inr ⟨g, cap, C, Ss, by rw [List.length_set], h0, by rw [List.length_set]; exact h1, h2, hb0.move (hx g (by simp) hni), hC, hgn, rfl, ?_⟩
  refine ⟨by rw [List.length_set, hE.1], fun j x hj => ?_⟩
  by_cases hij : i = j
  · subst hij
    rw [List.getElem?_set_self hi] at hj
    injection hj with hj
    subst hj
    exact ⟨Si, hSi, hr⟩
  · rw [List.getElem?_set_ne hij] at hj
    obtain ⟨Sj, hSj, hrj⟩ := hE.2 j x hj
    refine ⟨Sj, hSj, d.move hrj fun k hk => hx k (List.mem_cons_of_mem _ (List.mem_flatten.2 ⟨Sj, List.mem_of_getElem? hSj, hk⟩)) ?_⟩
    exact flatten_disj hnf hSj hSi (fun e => hij e.symm) k hk
end

/-! ### keys of two numbers -/
open WideMaps (ArrKey keyOf_pair)
def KpT : Value → Prop := fun v => ∃ a b : Nat, v = .agg #[.int .i64 (a : Int), .int .i64 (b : Int)] ∧ a ≤ 1073741824 ∧ b ≤ 1073741824
theorem Try.laidOut : laidOutB Try.prog = true := by kernel_rfl
theorem Try.cellsTwo : Try.prog.cellsOf 77 = 2 := by kernel_rfl
theorem Try.arrTwo : ArrKey Try.prog 77 3 2 := ⟨Try.underlying77, by kernel_rfl, by kernel_rfl, Try.cellsTwo⟩
theorem Try.rowTwo : (77 : TypeId) < Try.prog.types.size := of_decide_eq_true (by kernel_rfl)
theorem Try.wideTwo : (match Try.prog.underlying 77 with | some (.array _ _) | some (.struct _) => true | _ => false) = true := by rw [Try.underlying77]
set_option maxRecDepth 100000 in
theorem Try.lawTwo : WideMaps.KeyLaw Try.prog 77 := deep_law_laid Try.laidOut (m := 2) (by omega) Try.rowTwo (by kernel_rfl) Try.wideTwo
theorem sizes_succ : ∃ m, Try.prog.types.size = m + 1 := by
  have h : 0 < Try.prog.types.size := Nat.lt_of_le_of_lt (Nat.zero_le _) Try.rowTwo
  exact ⟨Try.prog.types.size - 1, by omega⟩
theorem wf_small {a : Nat} (h : a ≤ 1073741824) : (Lit.int .i64 (a : Int)).wf = true := by
  have h1 : IntKind.i64.min = -9223372036854775808 := by decide
  have h2 : IntKind.i64.max = 9223372036854775807 := by decide
  simp only [Lit.wf, h1, h2, Bool.and_eq_true, decide_eq_true_eq]; omega
theorem klTwo : KL Try.prog 77 KpT := by
  have K := KL.of_keyed (Maps.Keyed.of_law Try.lawTwo)
  have hk : ∀ v, KpT v → ∃ l, keyOf Try.prog 77 v = some l := by
    rintro v ⟨a, b, rfl, ha, hb⟩
    exact ⟨_, keyOf_pair Try.arrTwo Try.underlying3 sizes_succ (wf_small ha) (wf_small hb)⟩
  exact ⟨fun w em {v} hv => K.check w em (hk v hv), fun w {x} hx es hes => K.find w (hk x hx) es fun e he => hk _ (hes e he)⟩
end Go.Proofs.Ytkmgbejhbkbaoaa
