/- Maps that the program makes: their entries as a list. -/
import Derived.Test.YtkmgbejhbkbaoaaL0
import Derived.MapKept
import Derived.Maps.Keyed
import Derived.DeepKeys4
namespace Go.Proofs.Ytkmgbejhbkbaoaa
set_option linter.unusedSimpArgs false
set_option linter.unusedVariables false
open Go.RowKit

/-- what a map's laws need of its keys -/
structure KL (P : Program) (k : TypeId) (Kp : Value → Prop) : Prop where
  check : ∀ (w : World) (em : Bool) {v : Value}, Kp v → (Instr.checkKey em 10000 k v).run P w = .ok () w
  find : ∀ (w : World) {x : Value}, Kp x → ∀ es : List MapEntry, (∀ e ∈ es, Kp e.key) →
    ((Instr.findKey k x es).run P w = .ok none w ∧ ∀ e ∈ es, e.key ≠ x) ∨ ∃ j e, (Instr.findKey k x es).run P w = .ok (some (j, e.val)) w ∧ es[j]? = some e ∧ e.key = x
theorem KL.int {P : Program} {k : TypeId} {q : IntKind} (hk : P.underlying k = some (.int q)) : KL P k (fun v => ∃ a, v = .int q a) := {
  check := by rintro w em _ ⟨a, rfl⟩; exact MapKept.run_checkKey hk (by simp [MapKept.IsKey]) em 9999
  find := by
    rintro w _ ⟨a, rfl⟩ es hes
    rcases MapKept.findNow_spec (d := .int q) (k := .int q a) (by simp [MapKept.IsKey]) es 0 (fun e he => by obtain ⟨b, hb⟩ := hes e he; rw [hb]; simp [MapKept.IsKey]) with ⟨h1, h2⟩ | ⟨j, e, h1, h2, h3⟩
    · exact .inl ⟨MapKept.run_findKey hk h1, h2⟩
    · exact .inr ⟨j, e, by simpa using MapKept.run_findKey hk h1, h2, h3⟩ }
theorem KL.of_keyed {P : Program} {k : TypeId} (K : Maps.Keyed P k) : KL P k (fun v => ∃ l, keyOf P k v = some l) := {
  check := by rintro w em v ⟨l, h⟩; exact K.check w em h
  find := by rintro w x ⟨l, h⟩ es hes; exact K.find w h es hes }

/-- a map's block: its entries in the order in which they came -/
def MapR (Kp : Value → Prop) (w : World) (g : Nat) (L : List (Value × Value)) : Prop :=
  ∃ es clock, w.heap[g]? = some (.map es clock) ∧ es.toList.map (fun e => (e.key, e.val)) = L ∧ ∀ p ∈ L, Kp p.1
section
variable {P : Program} {Kp : Value → Prop} {w w' : World} {g : Nat} {L : List (Value × Value)}
theorem MapR.lt (h : MapR Kp w g L) : g < w.heap.size := by obtain ⟨_, _, h, _⟩ := h; exact (Array.getElem?_eq_some_iff.1 h).1
theorem MapR.move (h : MapR Kp w g L) (hm : w'.heap[g]? = w.heap[g]?) : MapR Kp w' g L := by
  obtain ⟨es, c, h1, h2, h3⟩ := h; exact ⟨es, c, hm.trans h1, h2, h3⟩
theorem MapR.ext (h : MapR Kp w g L) {M : List Nat} (hx : Ext M w w') (hg : g ∉ M) : MapR Kp w' g L := h.move (hx.block g h.lt hg)
theorem MapR.new (w : World) : MapR Kp (w.alloc (.map #[] 0)) w.heap.size [] := ⟨#[], 0, heap_alloc_new w _, rfl, by simp⟩

theorem MapR.look {k t e : TypeId} (K : KL P k Kp) (ht : P.underlying t = some (.map k e)) {z : Value} (hz : (zeroValue e).run P w = .ok z w) (h : MapR Kp w g L) {key : Value} (hk : Kp key) :
    ((Instr.lookup t (.map (some g)) key true).run P w = .ok (.tuple #[z, .bool false]) w ∧ ∀ p ∈ L, p.1 ≠ key) ∨
    ∃ v, (key, v) ∈ L ∧ (Instr.lookup t (.map (some g)) key true).run P w = .ok (.tuple #[v, .bool true]) w := by
  obtain ⟨es, clock, hb, rfl, hL⟩ := h
  have hes : ∀ e ∈ es.toList, Kp e.key := fun e he => hL (e.key, e.val) (List.mem_map.2 ⟨e, he, rfl⟩)
  rcases K.find w hk es.toList hes with ⟨h1, h2⟩ | ⟨j, e0, h1, h2, h3⟩
  · refine .inl ⟨by simp [Instr.lookup, run_underlying ht, MapKept.run_getObj_map hb, K.check w _ hk, h1, hz, Result.andThen], fun p hp => ?_⟩
    obtain ⟨e, he, rfl⟩ := List.mem_map.1 hp
    exact h2 e he
  · exact .inr ⟨e0.val, List.mem_map.2 ⟨e0, List.mem_of_getElem? h2, by rw [h3]⟩, by simp [Instr.lookup, run_underlying ht, MapKept.run_getObj_map hb, K.check w _ hk, h1, Result.andThen]⟩
/-- a new key -/
theorem MapR.put {k t e : TypeId} (K : KL P k Kp) (ht : P.underlying t = some (.map k e)) (h : MapR Kp w g L) {key : Value} (hk : Kp key) (hn : ∀ p ∈ L, p.1 ≠ key) (val : Value) :
    ∃ w', (Instr.mapUpdate t (.map (some g)) key val).run P w = .ok () w' ∧ MapR Kp w' g (L ++ [(key, val)]) ∧ Ext [g] w w' := by
  obtain ⟨es, clock, hb, rfl, hL⟩ := h
  have hes : ∀ e ∈ es.toList, Kp e.key := fun e he => hL (e.key, e.val) (List.mem_map.2 ⟨e, he, rfl⟩)
  have hlt : g < w.heap.size := (Array.getElem?_eq_some_iff.1 hb).1
  rcases K.find w hk es.toList hes with ⟨h1, h2⟩ | ⟨j, e0, h1, h2, h3⟩
  · refine ⟨{ w with heap := w.heap.setIfInBounds g (.map (es.push ⟨key, val, clock⟩) (clock + 1)) }, by simp [Instr.mapUpdate, run_underlying ht, MapKept.run_getObj_map hb, K.check w false hk, h1, MapKept.run_setObj_map _ hb, Result.andThen],
      ⟨_, _, (MapKept.heap_set hb).1, by simp, fun p hp => ?_⟩, ⟨rfl, rfl, rfl, by simp, fun k hk hg => (MapKept.heap_set hb).2 k (by simpa using hg)⟩⟩
    rcases List.mem_append.1 hp with hp | hp
    · exact hL p hp
    · simp at hp; subst hp; exact hk
  · exact absurd h3 (hn (e0.key, e0.val) (List.mem_map.2 ⟨e0, List.mem_of_getElem? h2, rfl⟩))
end
end Go.Proofs.Ytkmgbejhbkbaoaa
