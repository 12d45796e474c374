/- The program's graph of a function. -/
import Derived.Test.YtkmgbejhbkbaoaaG2
import Derived.Test.YtkmgbejhbkbaoaaL2
namespace Go.Proofs.Ytkmgbejhbkbaoaa
set_option linter.unusedSimpArgs false
set_option linter.unusedVariables false
open Go.RowKit

theorem Try.info22 : (Try.prog.info? 22).map (fun i => (i.zero, i.size, i.bytes)) = some (some (.slice none 0 0), 1, 24) := by kernel_rfl
theorem ei_rows : EI Try.prog 33 22 1 24 := ei_of Try.underlying33 Try.info22 rfl (by decide)
abbrev kRow : Kd (List Nat) := kSl 3 kNat

/-- P2.1 -/
def ofF (bs : List JBlock) : List (List Nat) := bs.map fun b => keptF b.term.to bs.length

set_option maxRecDepth 20000 in
set_option maxHeartbeats 400000 in
theorem of_calls {w : World} {S : List Nat} {v : Value} {f : JFunc} (h : FnR w S v f) (hn : f.blocks.length ≤ 1073741824) (hl : ∀ b ∈ f.blocks, b.term.to.length ≤ 1073741824) :
    Calls Try.prog 12 #[v] w fun e w' => ∃ v' S', e = .returned v' ∧ SlR kRow 22 w' S' v' (ofF f.blocks) ∧ New w w' S' := by
  obtain ⟨vb, rfl, hb⟩ := h
  obtain ⟨A, cap, rfl, hcap⟩ := hb.shape
  have hmk := run_make_eq Try.underlying33 Try.info22 rfl f.blocks.length f.blocks.length (by simp) hn (by decide)
  go_enter Try.func12, Try.ntmps12
  go_wp2
  clear hmk
  obtain ⟨So0, hs0, hf0, hn0⟩ := slr_made (d := kRow) (e := 22) (w := w.alloc (.cells #[.int .i64 f.params, .slice A f.blocks.length cap] 26)) (zc := #[.slice none 0 0]) (x := []) f.blocks.length f.blocks.length (by simp [kRow, kSl]) hn rfl (by decide) (fun w => ⟨_, rfl, SlR.nil _ _ _⟩)
  simp only [World.size_alloc] at hs0 hf0
  go_loopg [13] f.blocks.length (fun k vi wr => ∃ (i : Nat) (So : List Nat), vi = .int .i64 (i : Int) ∧ i ≤ f.blocks.length ∧ Hid (i + k = f.blocks.length) ∧
    SlR kRow 22 wr So (.slice (some ⟨w.heap.size + 1, 0, none⟩) f.blocks.length f.blocks.length) ((ofF f.blocks).take i ++ List.replicate (f.blocks.length - i) []) ∧ New w wr So ∧
    Blk wr w.heap.size 26 #[.int .i64 f.params, .slice A f.blocks.length cap] ∧ w.heap.size ∉ So)
  case atStart => 
    refine ⟨0, So0, rfl, by omega, by simp [Hid], by simpa using hs0, ⟨((Ext.refl _ _).alloc _).alloc _, fun k hk => ?_, hn0⟩, (Blk.new _ _ _).alloc _, fun hk => ?_⟩
    · have := hf0 k hk; omega
    · have := hf0 _ hk; omega
  case round =>
    obtain ⟨i, So, rfl, hi, HK, hso, hnew, hblk, hnin⟩ := hrel
    have hsz := hblk.lt
    by_cases hlt : i < f.blocks.length
    · obtain ⟨g, cap', Ap, cp, Ai, ci, Aa, ca, At, ct, Sb, Sp, Si, Sa, St, hv, hg, hsub, hbc, c0, c1, c2, c3, c4, c5⟩ := FnR.block (hb.ext0 hnew.ext) i hlt
      cases hv
      have d0 := hblk.cell (i := 0) rfl
      have d1 := hblk.cell (i := 1) rfl
      generalize hx : f.blocks[i] = x at *
      have Hx := Lib.hid hx
      clear hx hf0 hs0
      go_wp2_with fail
      refine (kept_calls (hbc.t.ext0 ((Ext.refl _ _).alloc _)) f.blocks.length hn (by rw [← Hx.out]; exact hl _ (List.getElem_mem hlt))).mono ?_
      rintro e w1 ⟨v1, S1, rfl, hr1, hnew1⟩
      obtain ⟨A1, c1', rfl, _⟩ := hr1.shape
      have hxx : Ext [] wr w1 := ((Ext.refl _ _).alloc _).nil hnew1.ext
      obtain ⟨g', cap', Si, cs, hv, hat⟩ := hso.at i (by simp [ofF]; omega)
      have hlen : ((ofF f.blocks).take i ++ List.replicate (f.blocks.length - i) []).length = f.blocks.length := by simp [ofF]; omega
      rw [hlen] at hv
      cases hv
      obtain ⟨vv, rfl, hvv⟩ := hat.rep
      have e1 := (hat.ext0 hxx).cell 0 rfl
      have e2 := (hat.ext0 hxx).frozen i
      simp only [kRow, kSl, Nat.mul_one, Nat.add_zero] at e1
      have hblk1 := hblk.ext hxx (by simp)
      have hsz1 := hblk1.lt
      go_wp2
      go_roundg (gk - 1)
      case measure => have := HK.out; omega
      case rel =>
        have hw : ∀ k ∈ S1, wr.heap.size ≤ k := fun k hk => by have := hnew1.fresh k hk; simp at this; omega
        obtain ⟨S', p1, p2, p3, p4⟩ := hat.put1 hnew.nodup rfl hxx (x' := keptF x.term.to f.blocks.length) (Sx := S1) ⟨_, rfl, hr1⟩ hw
        refine ⟨i + 1, S', by go_num, by omega, by have := HK.out; simp only [Hid]; omega, ?_, ⟨hnew.ext.trans p4 fun k hk => .inr (hnew.fresh k hk), fun k hk => ?_, p3 hnew1.nodup⟩, ?_, ?_⟩
        · rw [hlen] at p1
          have hset : ((ofF f.blocks).take i ++ List.replicate (f.blocks.length - i) []).set i (keptF x.term.to f.blocks.length) = (ofF f.blocks).take (i + 1) ++ List.replicate (f.blocks.length - (i + 1)) [] := by
            rw [List.set_append_right _ _ (by simp [ofF]; omega), List.take_succ_eq_append_getElem (by simp [ofF]; omega), List.append_assoc]
            congr 1
            rw [show i - ((ofF f.blocks).take i).length = 0 from by simp [ofF]; omega, show f.blocks.length - i = (f.blocks.length - (i + 1)) + 1 from by omega, List.replicate_succ]
            simp [ofF, Hx.out]
          rw [hset] at p1
          exact p1
        · rcases p2 k hk with h3 | h3
          · exact hnew.fresh k h3
          · omega
        · exact hblk.ext p4 hnin
        · intro hk
          rcases p2 _ hk with h3 | h3
          · exact hnin h3
          · omega
    · have hi' : i = f.blocks.length := by omega
      subst hi'
      go_wp2
      go_ret
      refine ⟨_, So, rfl, ?_, hnew⟩
      have : (ofF f.blocks).take f.blocks.length = ofF f.blocks := List.take_of_length_le (by simp [ofF])
      simpa [this] using hso
end Go.Proofs.Ytkmgbejhbkbaoaa
