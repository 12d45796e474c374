/- Parts joined by program: G10, C1, C2, L6, C3, C4, C5, C6, C7, R1, R2, L7, S1, S2, S3, G7, S4, S5. -/
import Derived.Test.YtkmgbejhbkbaoaaDom1
import Derived.WideKeyPair
/- The program's graph: Idom. -/
namespace Go.Proofs.Ytkmgbejhbkbaoaa
set_option linter.unusedSimpArgs false
set_option linter.unusedVariables false
open Go.RowKit

theorem made_int {w : World} {n : Nat} (h0 : 0 < n) (hn : n ≤ 1073741824) : SlR kInt 3 (w.alloc (.cells (madeCells #[.int .i64 0] n) 3)) [w.heap.size] (.slice (some ⟨w.heap.size, 0, none⟩) n n) (List.replicate n 0) := by
  obtain ⟨St, h1, h2, _⟩ := slr_made (d := kInt) (e := 3) (w := w) (zc := #[.int .i64 0]) (x := 0) n n (by simp [kInt, kSc]) hn rfl (by decide) (fun w => ⟨rfl, rfl⟩)
  obtain ⟨g', _, _, hv, _, _, _, _, _, hS, _⟩ := slr_own h1 (by intro h; have := congrArg List.length h; rw [List.length_replicate, List.length_nil] at this; omega)
  rw [hS] at h2 h1
  rw [h2 g' (by simp)] at h1
  exact h1
theorem sl_at {w : World} {S : List Nat} {b n cap : Nat} {l : List Int} (h : SlR kInt 3 w S (.slice (some ⟨b, 0, none⟩) n cap) l) (i : Nat) (hi : i < l.length) : w.cell? ⟨b, i, none⟩ = some (.int .i64 l[i]) ∧ w.frozen? ⟨b, i, none⟩ = false := by
  obtain ⟨_, _, hv, _, hc, hf⟩ := h.cell i hi
  injection hv with e1 e2 e3
  injection e1 with e1
  injection e1 with e1
  subst e1
  exact ⟨hc, hf⟩

/-! ### passes, as the walk wants them -/
section
variable {n : Nat} {P : Nat → List Nat} {num par : Nat → Nat}
theorem pass_at (hn : Net n P num par) {k : Nat} (hk : ∀ a b, a < n → b < n → num a + num b < k) {l : List Nat} (hl : Line n num l) (hnd : l.Nodup) {D : Nat → Option Nat} (h : D = (fun _ => none) ∨ Mid n P num par 1 D) (j : Nat) (hj : j < l.length) :
    Tr n P num par (passC P num k D (l.take j)).1 ∧ ∃ c, bestN (passC P num k D (l.take j)).1 num k (P l[j]) none = some (some c) := by
  obtain ⟨b1, b2⟩ := hl.lt _ (List.getElem_mem hj)
  rcases h with rfl | h
  · have h1 := pass_one hn hk hl j (by omega)
    obtain ⟨c, c1, _⟩ := h1.step hn hk b1 b2 (hl.place j hj)
    exact ⟨h1.tr, c, c1⟩
  · have h1 := (pass_mid hn hk hl hnd h j (by omega)).1
    obtain ⟨c, _, c1, _⟩ := h1.step hn hk b1 b2 (hl.place j hj)
    exact ⟨h1.tr, c, c1⟩
/-- the outer loop's state -/
def PSt (n : Nat) (P : Nat → List Nat) (num par : Nat → Nat) (k : Nat) (l : List Nat) (q : Nat) (D : Nat → Option Nat) (ch : Bool) : Prop :=
  (ch = true ∧ D = (fun _ => none) ∧ n * n + 2 ≤ q) ∨ (ch = true ∧ Mid n P num par 1 D ∧ mu num D l + 1 ≤ q) ∨ (ch = false ∧ Mid n P num par 1 D ∧ Fix n P num k D)
theorem PSt.next (hn : Net n P num par) {k : Nat} (hk : ∀ a b, a < n → b < n → num a + num b < k) {l : List Nat} (hl : Line n num l) (hnd : l.Nodup) (hln : l.length + 1 = n) {D : Nat → Option Nat} {q : Nat} (h : PSt n P num par k l q D true) :
    1 ≤ q ∧ PSt n P num par k l (q - 1) (passC P num k D l).1 (passC P num k D l).2 := by
  have hlt := hl.num_lt hn
  rcases h with ⟨_, rfl, hq⟩ | ⟨_, h, hq⟩ | ⟨h, _⟩
  · refine ⟨by omega, ?_⟩
    have h1 := pass_one hn hk hl l.length (Nat.le_refl _)
    rw [List.take_length] at h1
    have h2 := h1.mid hlt
    have h3 := mu_le (num := num) h2.tr (fun x hx => by have := hlt x hx; omega) l
    have h4 : l.length * n ≤ n * n := Nat.mul_le_mul_right _ (by omega)
    cases hc : (passC P num k (fun _ => none) l).2 with
    | true => exact .inr (.inl ⟨rfl, h2, by omega⟩)
    | false =>
      refine .inr (.inr ⟨rfl, h2, fun b hb h0 => ?_⟩)
      exfalso
      have hch : ∀ j, j ≤ l.length → (passC P num k (fun _ => none) (l.take j)).2 = false → j = 0 := by
        intro j
        induction j with
        | zero => intro _ _; rfl
        | succ j ih =>
          intro hj hf
          exfalso
          have hlt2 : j < l.length := by omega
          obtain ⟨b1, b2⟩ := hl.lt _ (List.getElem_mem hlt2)
          have h6 := pass_one hn hk hl j (by omega)
          obtain ⟨c, c1, _⟩ := h6.step hn hk b1 b2 (hl.place j hlt2)
          rw [List.take_succ_eq_append_getElem hlt2, passC_snoc] at hf
          have h7 := (stepC_eq (P := P) (num := num) (k := k) (st := passC P num k (fun _ => none) (l.take j)) c1).2
          have h8 : (passC P num k (fun _ => none) (l.take j)).1 l[j] ≠ some c := by
            intro e
            have := (h6.known _ b1 b2).1 (by rw [e]; simp)
            rw [hl.place j hlt2] at this
            omega
          rw [h7.2 (.inr h8)] at hf
          cases hf
      have := hch l.length (Nat.le_refl _) (by rw [List.take_length]; exact hc)
      have hm := hl.all b hb h0
      have : l = [] := List.eq_nil_of_length_eq_zero this
      rw [this] at hm
      cases hm
  · refine ⟨by omega, ?_⟩
    obtain ⟨h1, h2, h3, h4⟩ := pass_mid hn hk hl hnd h l.length (Nat.le_refl _)
    rw [List.take_length] at h1 h2 h3 h4
    have h5 := h1.first hlt
    cases hc : (passC P num k D l).2 with
    | true => exact .inr (.inl ⟨rfl, h5, by have := h3 hc; omega⟩)
    | false =>
      obtain ⟨h6, h7⟩ := h4 hc
      refine .inr (.inr ⟨rfl, h5, fun b hb h0 => ?_⟩)
      obtain ⟨i, hi, rfl⟩ := List.mem_iff_getElem.1 (hl.all b hb h0)
      rw [h6]
      exact h7 i hi hi
  · cases h
theorem PSt.or {k : Nat} {l : List Nat} {q : Nat} {D : Nat → Option Nat} (h : PSt n P num par k l q D true) : D = (fun _ => none) ∨ Mid n P num par 1 D := by
  rcases h with ⟨_, h, _⟩ | ⟨_, h, _⟩ | ⟨h, _⟩
  · exact .inl h
  · exact .inr h
  · cases h
end

set_option maxRecDepth 20000 in
set_option maxHeartbeats 1600000 in
theorem idom_calls {w : World} {S : List Nat} {v : Value} {g : List (List Nat)} (h : SlR kRow 22 w S v g) (hg : Good g) (ha : AllR g) (hn : g.length ≤ 32768) :
    Calls Try.prog 11 #[v] w fun e w' => ∃ v' S' idom, e = .returned v' ∧ SlR kInt 3 w' S' v' idom ∧ IdomOk g idom ∧ New w w' S' := by
  obtain ⟨A, cap, rfl, hcap⟩ := h.shape
  have hmk := run_make_eq Try.underlying22 Try.info3 rfl g.length g.length (by simp) (by omega) (by decide)
  go_enter Try.func11, Try.ntmps11
  go_wp2_with fail
  refine (order_calls h hg (by omega)).mono ?_
  rintro e w1 ⟨v1, S1, rfl, hr1, hnew1⟩
  have hlen := order_len hg ha
  have hpos := ha.1
  obtain ⟨A1, c1, rfl, hc1⟩ := hr1.shape
  rw [hlen] at hr1 hc1
  rw [hlen]
  have Hlen := Lib.hid hlen
  clear hlen
  go_wp2
  clear hmk
  obtain ⟨m, hm⟩ : ∃ m, w1.heap.size = m := ⟨_, rfl⟩
  have hwm : w.heap.size ≤ m := by have := hnew1.ext.size; omega
  have hS1 : ∀ k ∈ S1, k < m := fun k hk => by rw [← hm]; exact hr1.lt k hk
  have hS : ∀ k ∈ S, k < m := fun k hk => by have := h.lt k hk; omega
  have q1 := (made_int (w := w1) hpos (by omega)).ext0 (((Ext.refl [] _).alloc (.cells (madeCells #[.int .i64 0] g.length) 3)))
  have q2 := made_int (w := w1.alloc (.cells (madeCells #[.int .i64 0] g.length) 3)) hpos (by omega)
  obtain ⟨W0, hW0⟩ : ∃ W0, (w1.alloc (.cells (madeCells #[.int .i64 0] g.length) 3)).alloc (.cells (madeCells #[.int .i64 0] g.length) 3) = W0 := ⟨_, rfl⟩
  have hx0 : Ext [] w1 W0 := by rw [← hW0]; exact ((Ext.refl _ _).alloc _).alloc _
  have hsz0 : W0.heap.size = m + 2 := by rw [← hW0, ← hm]; simp
  simp only [World.size_alloc] at q2
  rw [hW0] at q1 q2 ⊢
  rw [hm] at q1 q2 ⊢
  clear hW0 hm
  have q3 := hr1.ext0 hx0
  have h0 := (h.ext0 hnew1.ext).ext0 hx0
  have hxw : Ext [] w W0 := hnew1.ext.nil hx0
  clear hr1
  have hfill : Hid (∀ i, i < g.length → (part (List.replicate g.length (-1 : Int)) 0 i).set i (-1) = part (List.replicate g.length (-1)) 0 (i + 1)) := fun i hi => fill_set 0 (-1) hi
  have hfl : Hid (∀ i, i ≤ g.length → (part (List.replicate g.length (-1 : Int)) 0 i).length = g.length) := fun i hi => by rw [part_len _ _ (by simpa using hi)]; simp
  have q0 : part (List.replicate g.length (-1 : Int)) 0 0 = List.replicate g.length 0 := by rw [part_zero]; simp
  rw [← q0] at q1 q2
  clear q0
  go_loopg [26] g.length (fun k vi wr => ∃ (i : Nat), vi = .int .i64 (i : Int) ∧ i ≤ g.length ∧ Hid (i + k = g.length) ∧
    SlR kInt 3 wr [m] (.slice (some ⟨m, 0, none⟩) g.length g.length) (part (List.replicate g.length (-1)) 0 i) ∧
    SlR kInt 3 wr [m + 1] (.slice (some ⟨m + 1, 0, none⟩) g.length g.length) (part (List.replicate g.length (-1)) 0 i) ∧ Ext [m, m + 1] W0 wr)
  case atStart => exact ⟨0, rfl, by omega, by simp [Hid], q1, q2, Ext.refl _ _⟩
  case round =>
    obtain ⟨i, rfl, hi, HK, s1, s2, hx⟩ := hrel
    clear q1 q2
    by_cases hlt : i < g.length
    · obtain ⟨e1, f1⟩ := sl_at s1 i (by rw [hfl.out i hi]; exact hlt)
      obtain ⟨e2, f2⟩ := sl_at s2 i (by rw [hfl.out i hi]; exact hlt)
      have t1 := (s1.set i (by rw [hfl.out i hi]; exact hlt) (-1)).ext ((Ext.refl [m + 1] _).setCell (p := ⟨m + 1, i, none⟩) (.inl (by simp)) (.int .i64 (-1))) (fun k hk => by simp at hk ⊢; omega)
      have t2 := (s2.ext ((Ext.refl [m] _).setCell (p := ⟨m, i, none⟩) (.inl (by simp)) (.int .i64 (-1))) (fun k hk => by simp at hk ⊢; omega)).set i (by rw [hfl.out i hi]; exact hlt) (-1)
      rw [hfill.out i hlt] at t1 t2
      go_wp2
      go_roundg (gk - 1)
      case measure => have := HK.out; omega
      case rel =>
        exact ⟨i + 1, by go_num, by omega, by have := HK.out; simp only [Hid]; omega, t1, t2, (hx.setCell (.inl (by simp)) _).setCell (.inl (by simp)) _⟩
    · have hie : i = g.length := by omega
      subst hie
      have hpa : part (List.replicate g.length (-1 : Int)) 0 g.length = List.replicate g.length (-1) := by
        have := part_all (List.replicate g.length (-1 : Int)) 0
        simpa using this
      rw [hpa] at s1 s2
      have Hpa := Lib.hid hpa
      clear hpa hfill hfl
      have q3 := q3.ext hx (fun k hk h => by have := hS1 k hk; simp at h; omega)
      have h0 := h0.ext hx (fun k hk h => by have := hS k hk; simp at h; omega)
      have hxw : Ext [] w wr := hxw.trans hx (fun k hk => by simp at hk; omega)
      have hszr : m + 2 ≤ wr.heap.size := by have := hx.size; omega
      rw [← npart_zero (orderF g)] at s1
      obtain ⟨w3, hw3⟩ : ∃ x, x = wr := ⟨_, rfl⟩
      subst hw3
      go_wp2
      go_loopg [38] g.length (fun k vi wr2 => ∃ (i : Nat), vi = .int .i64 (i : Int) ∧ i ≤ g.length ∧ Hid (i + k = g.length) ∧
        SlR kInt 3 wr2 [m] (.slice (some ⟨m, 0, none⟩) g.length g.length) (npart (orderF g) g.length i) ∧ Ext [m] w3 wr2)
      case atStart => exact ⟨0, rfl, by omega, by simp [Hid], s1, Ext.refl _ _⟩
      case round =>
        obtain ⟨i, rfl, hi, HK, s1, hx2⟩ := hrel
        by_cases hlt : i < g.length
        · have hil : i < (orderF g).length := by rw [Hlen.out]; exact hlt
          obtain ⟨p1, c1', hv, _, eo, _⟩ := (q3.ext hx2 (fun k hk h => by have := hS1 k hk; simp at h; omega)).cell i hil
          rw [Hlen.out] at hv
          cases hv
          have hord : Hid (Ord g (orderF g)) := orderF_ord hpos (fun row hr b hb => (hg row hr).2 b hb)
          have hb : (orderF g)[i] < g.length := Rch.lt hg hpos ((hord.out.mem _).1 (List.getElem_mem hil))
          have Hset : Hid ((npart (orderF g) g.length i).set (orderF g)[i] (i : Int) = npart (orderF g) g.length (i + 1)) := npart_set hord.out.nodup hil
          generalize (orderF g)[i] = b at *
          obtain ⟨e1, f1⟩ := sl_at s1 b (by rw [npart_len]; exact hb)
          have t1 := s1.set b (by rw [npart_len]; exact hb) (i : Int)
          rw [Hset.out] at t1
          go_wp2
          go_roundg (gk - 1)
          case measure => have := HK.out; omega
          case rel => exact ⟨i + 1, by go_num, by omega, by have := HK.out; simp only [Hid]; omega, t1, hx2.setCell (.inl (by simp)) _⟩
        · have hie : i = g.length := by omega
          subst hie
          rw [npart_all hg ha] at s1
          have s2 := s2.ext hx2 (fun k hk h => by simp at hk h; omega)
          have q3 := q3.ext hx2 (fun k hk h => by have := hS1 k hk; simp at h; omega)
          have h0 := h0.ext hx2 (fun k hk h => by have := hS k hk; simp at h; omega)
          have hxw : Ext [] w wr := hxw.trans hx2 (fun k hk => by simp at hk; omega)
          have hszr : m + 2 ≤ wr.heap.size := by have := hx2.size; omega
          go_wp2_with fail
          refine (preds_calls h0 hg hn).mono ?_
          rintro e w5 ⟨v4, S4, rfl, hr4, hnew4⟩
          have hS4 : ∀ k ∈ S4, m + 2 ≤ k := fun k hk => by have := hnew4.fresh k hk; omega
          have s1 := s1.ext0 hnew4.ext
          have s2 := s2.ext0 hnew4.ext
          have q3 := q3.ext0 hnew4.ext
          have hxw : Ext [] w w5 := hxw.nil hnew4.ext
          obtain ⟨A4, c4, rfl, _⟩ := hr4.shape
          have hpl : (predsF g).length = g.length := by simp [predsF, predsOf]
          rw [hpl]
          rw [hpl] at hr4
          have Hpl := Lib.hid hpl
          clear hpl h0 hx hx2 HK hnew1 hnew4 hx0
          have hne : (outL g.length (fun _ => none)) = List.replicate g.length (-1) := outL_none _
          rw [← hne] at s2
          clear hne
          have HN : Hid (Net g.length (prd g) (numF g) (parF g)) := net_of hg ha
          have HL : Hid (Line g.length (numF g) (orderF g).tail) := line_of hg ha
          have hord : Hid (Ord g (orderF g)) := orderF_ord hpos (fun row hr b hb => (hg row hr).2 b hb)
          have Hnd : Hid ((orderF g).tail.Nodup) := (List.tail_sublist _).nodup hord.out.nodup
          have Htl : Hid ((orderF g).tail.length + 1 = g.length) := by rw [Hid, List.length_tail, Hlen.out]; omega
          have HK2 : Hid (∀ a b, a < g.length → b < g.length → numF g a + numF g b < 2 * g.length + 1) := fun a b h1 h2 => by
            have h3 := HL.out.num_lt HN.out a h1
            have h4 := HL.out.num_lt HN.out b h2
            have := Htl.out; omega
          go_wp2
          go_loopg [10] (g.length * g.length + 2) (fun k vc wr2 => ∃ (D : Nat → Option Nat) (ch : Bool), vc = .bool ch ∧ SlR kInt 3 wr2 [m + 1] (.slice (some ⟨m + 1, 0, none⟩) g.length g.length) (outL g.length D) ∧
            Ext [m + 1] w5 wr2 ∧ Hid (PSt g.length (prd g) (numF g) (parF g) (2 * g.length + 1) (orderF g).tail k D ch))
          case atStart => exact ⟨_, true, rfl, s2, Ext.refl _ _, .inl ⟨rfl, rfl, Nat.le_refl _⟩⟩
          case round =>
            obtain ⟨D0, ch, rfl, s2, hx5, hP⟩ := hrel
            cases ch with
            | false =>
              go_wp2
              go_ret
              rcases hP.out with ⟨h6, _⟩ | ⟨h6, _⟩ | ⟨_, h7, h8⟩
              · cases h6
              · cases h6
              · refine ⟨_, _, _, rfl, s2, idom_ok hg ha HK2.out h7 h8, hxw.trans hx5 (fun k hk => by simp at hk; omega), fun k hk => by simp at hk; omega, by simp⟩
            | true =>
              obtain ⟨q, hq⟩ : ∃ x, x = gk := ⟨_, rfl⟩
              subst hq
              have hq1 := (hP.out.next HN.out HK2.out HL.out Hnd.out Htl.out)
              have hq2 : Hid (1 ≤ q) := hq1.1
              have hPn : Hid (PSt g.length (prd g) (numF g) (parF g) (2 * g.length + 1) (orderF g).tail (q - 1) (passC (prd g) (numF g) (2 * g.length + 1) D0 (orderF g).tail).1 (passC (prd g) (numF g) (2 * g.length + 1) D0 (orderF g).tail).2) := hq1.2
              have Hpas : Hid (∀ (j : Nat) (hj : j < (orderF g).tail.length), Tr g.length (prd g) (numF g) (parF g) (passC (prd g) (numF g) (2 * g.length + 1) D0 ((orderF g).tail.take j)).1 ∧
                ∃ c, bestN (passC (prd g) (numF g) (2 * g.length + 1) D0 ((orderF g).tail.take j)).1 (numF g) (2 * g.length + 1) (prd g (orderF g).tail[j]) none = some (some c)) :=
                fun j hj => pass_at HN.out HK2.out HL.out Hnd.out hP.out.or j hj
              clear hq1 hP
              have q4 := q3.ext hx5 (fun k hk h => by have := hS1 k hk; simp at h; omega)
              obtain ⟨b1, c1', hv, _, _, _⟩ := q4.cell 0 (by rw [Hlen.out]; exact hpos)
              rw [Hlen.out] at hv
              cases hv
              have hmin : (min 1 (g.length : Int)).toNat = 1 := by omega
              have hpL : Hid ((prd g) = fun x => (predsF g).getD x []) := rfl
              go_wp2
              · have hc : c1 = 1 := h
                clear h
                have ht0 : Hid ((orderF g).tail = []) := List.eq_nil_of_length_eq_zero (by have := Htl.out; omega)
                have hg1 : ¬ (0 : Int) < ((g.length - 1 : Nat) : Int) := by omega
                subst hc
                have hp0 : passC (prd g) (numF g) (2 * g.length + 1) D0 (orderF g).tail = (D0, false) := by rw [ht0.out]; rfl
                rw [hp0] at hPn
                have Hp0 := Lib.hid hp0
                clear hp0
                go_loopg [57, 10] 0 (fun k vi vc wr2 => vi = .int .i64 0 ∧ vc = .bool false ∧ wr2 = wr)
                case atStart => exact ⟨rfl, rfl, rfl⟩
                case round =>
                  obtain ⟨rfl, rfl, rfl⟩ := hrel
                  go_wp2
                  go_roundg (q - 1)
                  case measure => have := hq2.out; omega
                  case rel => exact ⟨D0, false, rfl, s2, hx5, hPn⟩
              · have hc := h
                go_loopg [57, 10] (g.length - 1) (fun k vj vc wr2 => ∃ j : Nat, vj = .int .i64 (j : Int) ∧ j ≤ g.length - 1 ∧ Hid (j + k = g.length - 1) ∧ vc = .bool (passC (prd g) (numF g) (2 * g.length + 1) D0 ((orderF g).tail.take j)).2 ∧
                  SlR kInt 3 wr2 [m + 1] (.slice (some ⟨m + 1, 0, none⟩) g.length g.length) (outL g.length (passC (prd g) (numF g) (2 * g.length + 1) D0 ((orderF g).tail.take j)).1) ∧ Ext [m + 1] w5 wr2)
                case atStart => exact ⟨0, rfl, by omega, by simp [Hid], rfl, s2, hx5⟩
                case round =>
                  obtain ⟨j, rfl, hj, HK, rfl, s3, hx6⟩ := hrel
                  obtain ⟨q', hq'⟩ : ∃ x, x = gk := ⟨_, rfl⟩
                  subst hq'
                  clear s2
                  by_cases hlt : j < g.length - 1
                  · have hjl : j < (orderF g).tail.length := by have := Htl.out; omega
                    obtain ⟨hT, c, hc2⟩ := Hpas.out j hjl
                    have Hsn : Hid (passC (prd g) (numF g) (2 * g.length + 1) D0 ((orderF g).tail.take (j + 1)) = stepC (prd g) (numF g) (2 * g.length + 1) (passC (prd g) (numF g) (2 * g.length + 1) D0 ((orderF g).tail.take j)) (orderF g).tail[j]) := by
                      rw [Hid, List.take_succ_eq_append_getElem hjl, passC_snoc]
                    have Hpos : Hid ((orderF g).tail[j] < g.length ∧ (orderF g).tail[j] ≠ 0) := HL.out.lt _ (List.getElem_mem hjl)
                    obtain ⟨_, _, hv, _, eo, _⟩ := (q3.ext hx6 (fun k hk h => by have := hS1 k hk; simp at h; omega)).cell (j + 1) (by rw [Hlen.out]; omega)
                    rw [Hlen.out] at hv
                    cases hv
                    have htb : (orderF g)[j + 1]'(by rw [Hlen.out]; omega) = (orderF g).tail[j] := by rw [List.getElem_tail]
                    rw [htb] at eo
                    rw [Nat.add_comm] at eo
                    clear htb
                    generalize (orderF g).tail[j] = b at *
                    generalize passC (prd g) (numF g) (2 * g.length + 1) D0 ((orderF g).tail.take j) = st at *
                    have hb : b < (predsF g).length := by rw [Hpl.out]; exact Hpos.out.1
                    obtain ⟨p4, _, Ar, cr, Si, hv, _, er, hrow, hsub⟩ := row_get (hr4.ext hx6 (fun k hk h => by have := hS4 k hk; have := hr4.lt k hk; simp at h; omega)) b hb
                    rw [Hpl.out] at hv
                    cases hv
                    have hprd : prd g b = (predsF g)[b] := by simp [prd, List.getD, hb]
                    have HT := Lib.hid hT
                    have Hc2 := Lib.hid hc2
                    have hbl : b < g.length := Hpos.out.1
                    clear hT hc2
                    have Hrow : Hid (∀ a ∈ prd g b, a < g.length) := HN.out.plt b hbl
                    rw [hprd] at Hc2 Hrow
                    have Hprd := Lib.hid hprd
                    clear hprd
                    have hrl : (predsF g)[b].length ≤ 1073741824 := by
                      simp only [predsF, predsOf, List.getElem_map, List.length_map]
                      exact Nat.le_trans (List.length_filter_le _ _) (edgesF_len hg hn)
                    generalize (predsF g)[b] = row at *
                    go_wp2
                    go_loopg [66, 13] row.length (fun k vi vb wr2 => ∃ (i : Nat) (r : Option Nat), vi = .int .i64 (i : Int) ∧ i ≤ row.length ∧ Hid (i + k = row.length) ∧ vb = .int .i64 (oi r) ∧
                      Hid (bestN st.1 (numF g) (2 * g.length + 1) (row.take i) none = some r) ∧ Ext [] wr wr2)
                    case atStart => exact ⟨0, none, rfl, by omega, by simp [Hid], rfl, by simp [Hid, bestN], Ext.refl _ _⟩
                    case round =>
                      obtain ⟨i, r, rfl, hi, HK3, rfl, Hr, hx7⟩ := hrel
                      by_cases hlt2 : i < row.length
                      · obtain ⟨p5, _, hv, _, ea, _⟩ := (hrow.ext0 hx7).cell i hlt2
                        cases hv
                        have ha2 : row[i] < g.length := Hrow.out _ (List.getElem_mem hlt2)
                        have Hsn2 : Hid (bestN st.1 (numF g) (2 * g.length + 1) (row.take (i + 1)) none = bestN st.1 (numF g) (2 * g.length + 1) [row[i]] r) := by
                          rw [Hid, List.take_succ_eq_append_getElem hlt2, bestN_append, Hr.out]; rfl
                        obtain ⟨r', hr', _, _⟩ := bestN_spec HN.out HT.out (2 * g.length + 1) HK2.out (row.take (i + 1)) none (fun a ha => Hrow.out a (List.mem_of_mem_take ha)) (fun _ e => by cases e)
                        have hrb : ∀ b', r = some b' → b' < g.length := by
                          obtain ⟨r2, hr2, _, h3⟩ := bestN_spec HN.out HT.out (2 * g.length + 1) HK2.out (row.take i) none (fun a ha => Hrow.out a (List.mem_of_mem_take ha)) (fun _ e => by cases e)
                          rw [Hr.out] at hr2
                          injection hr2 with hr2
                          intro b' hb'
                          exact (h3 b' (hr2 ▸ hb')).1
                        have Hr' := Lib.hid hr'
                        rw [Hsn2.out] at hr'
                        clear Hsn2
                        generalize row[i] = a at *
                        have n1 := (sl_at (s1.ext (hx6.nil hx7) (fun k hk h => by simp at hk h; omega)) a (by rw [numI_len]; exact ha2)).1
                        have n2 := (sl_at (s3.ext0 hx7) a (by rw [outL_len]; exact ha2)).1
                        rw [numI_get] at n1
                        rw [outL_get] at n2
                        simp only [bestN] at hr'
                        have hge : ¬ ((numF g a : Int) < 0) := by omega
                        by_cases hsk : a ≠ 0 ∧ st.1 a = none
                        · rw [if_pos hsk] at hr'
                          injection hr' with hr'
                          subst hr'
                          have ha0 : ((a : Int) == 0) = false := beq_eq_false_iff_ne.2 (by omega)
                          have ha1 : ¬ a = 0 := hsk.1
                          have ha2 : (a : Int) ≠ 0 := by omega
                          rw [hsk.2] at n2
                          simp only [oi] at n2
                          clear hsk
                          go_wp2
                          go_roundg (gk - 1)
                          case measure => have := HK3.out; omega
                          case rel => exact ⟨i + 1, _, by go_num, by omega, by have := HK3.out; simp only [Hid]; omega, rfl, Hr', hx7⟩
                        · rw [if_neg hsk] at hr'
                          have hka : a = 0 ∨ (a ≠ 0 ∧ ∃ z, st.1 a = some z) := by
                            by_cases h0 : a = 0
                            · exact .inl h0
                            · cases e : st.1 a with
                              | none => exact absurd ⟨h0, e⟩ hsk
                              | some z => exact .inr ⟨h0, z, rfl⟩
                          clear hsk
                          rcases hka with rfl | ⟨ha1, z, hz⟩
                          · cases r with
                            | none =>
                              simp only [oi] at hr' ⊢
                              injection hr' with hr'
                              subst hr'
                              go_wp2
                              go_roundg (gk - 1)
                              case measure => have := HK3.out; omega
                              case rel => exact ⟨i + 1, _, by go_num, by omega, by have := HK3.out; simp only [Hid]; omega, rfl, Hr', hx7⟩
                            | some b' =>
                              have hb2 := hrb b' rfl
                              have hbn : ¬ (b' : Int) < 0 := by omega
                              simp only [oi] at hr' ⊢
                              obtain ⟨c0, hc0, hr'⟩ := Option.bind_eq_some_iff.1 hr'
                              injection hr' with hr'
                              subst hr'
                              have Hc0 := Lib.hid hc0
                              clear hc0 hrb
                              go_wp2_with fail
                              refine (common_calls (s3.ext0 hx7) (s1.ext (hx6.nil hx7) (fun k hk h => by simp at hk h; omega)) (fun x z e => (HT.out.lt x z e).2.1) _ _ _ _ Hc0.out hb2 ha2).mono ?_
                              rintro e w7 ⟨rfl, hx8⟩
                              go_wp2
                              go_roundg (gk - 1)
                              case measure => have := HK3.out; omega
                              case rel => exact ⟨i + 1, _, by go_num, by omega, by have := HK3.out; simp only [Hid]; omega, rfl, Hr', hx7.nil hx8⟩
                          · rw [hz] at n2
                            simp only [oi] at n2
                            have hzz : ¬ (z : Int) < 0 := by omega
                            have ha3 : (a : Int) ≠ 0 := by omega
                            have ha0 : ((a : Int) == 0) = false := beq_eq_false_iff_ne.2 (by omega)
                            cases r with
                            | none =>
                              simp only [oi] at hr' ⊢
                              injection hr' with hr'
                              subst hr'
                              go_wp2
                              go_roundg (gk - 1)
                              case measure => have := HK3.out; omega
                              case rel => exact ⟨i + 1, _, by go_num, by omega, by have := HK3.out; simp only [Hid]; omega, rfl, Hr', hx7⟩
                            | some b' =>
                              have hb2 := hrb b' rfl
                              have hbn : ¬ (b' : Int) < 0 := by omega
                              simp only [oi] at hr' ⊢
                              obtain ⟨c0, hc0, hr'⟩ := Option.bind_eq_some_iff.1 hr'
                              injection hr' with hr'
                              subst hr'
                              have Hc0 := Lib.hid hc0
                              clear hc0 hrb
                              go_wp2_with fail
                              refine (common_calls (s3.ext0 hx7) (s1.ext (hx6.nil hx7) (fun k hk h => by simp at hk h; omega)) (fun x z e => (HT.out.lt x z e).2.1) _ _ _ _ Hc0.out hb2 ha2).mono ?_
                              rintro e w7 ⟨rfl, hx8⟩
                              go_wp2
                              go_roundg (gk - 1)
                              case measure => have := HK3.out; omega
                              case rel => exact ⟨i + 1, _, by go_num, by omega, by have := HK3.out; simp only [Hid]; omega, rfl, Hr', hx7.nil hx8⟩
                      · have hie : i = row.length := by omega
                        subst hie
                        have hrc : r = some c := by
                          have h1 := Hr.out
                          rw [List.take_length, Hc2.out] at h1
                          injection h1 with h1
                          exact h1.symm
                        subst hrc
                        have hbo := s3.ext0 hx7
                        obtain ⟨n2, f2⟩ := sl_at hbo b (by rw [outL_len]; exact hbl)
                        rw [outL_get] at n2
                        have Hc3 : Hid (bestN st.1 (numF g) (2 * g.length + 1) (prd g b) none = some (some c)) := by rw [Hprd.out]; exact Hc2.out
                        by_cases he : st.1 b = some c
                        · have hst : Hid (passC (prd g) (numF g) (2 * g.length + 1) D0 ((orderF g).tail.take (j + 1)) = st) := by
                            rw [Hid, Hsn.out]; simp only [stepC, Hc3.out]; rw [if_pos he]
                          rw [he] at n2
                          simp only [oi] at n2 ⊢
                          clear he
                          go_wp2
                          go_roundg (q' - 1)
                          case measure => have := HK.out; omega
                          case rel => exact ⟨j + 1, by go_num, by omega, by have := HK.out; simp only [Hid]; omega, by rw [hst.out], by rw [hst.out]; exact hbo, hx6.nil hx7⟩
                        · have hst : Hid (passC (prd g) (numF g) (2 * g.length + 1) D0 ((orderF g).tail.take (j + 1)) = (upd st.1 b c, true)) := by
                            rw [Hid, Hsn.out]; simp only [stepC, Hc3.out]; rw [if_neg he]
                          have hne : (oi (st.1 b) == (c : Int)) = false := beq_eq_false_iff_ne.2 (by
                            cases e : st.1 b with
                            | none => simp only [oi]; omega
                            | some z => rw [e] at he; simp only [oi]; intro h; exact he (by congr; omega))
                          have hne2 : oi (st.1 b) ≠ (c : Int) := beq_eq_false_iff_ne.1 hne
                          have t3 := hbo.set b (by rw [outL_len]; exact hbl) (c : Int)
                          rw [← outL_upd] at t3
                          clear he
                          generalize oi (st.1 b) = ob at *
                          simp only [oi] at *
                          go_wp2
                          go_roundg (q' - 1)
                          case measure => have := HK.out; omega
                          case rel => exact ⟨j + 1, by go_num, by omega, by have := HK.out; simp only [Hid]; omega, by rw [hst.out], by rw [hst.out]; exact t3, (hx6.nil hx7).setCell (.inl (by simp)) _⟩
                  · have hje : j = g.length - 1 := by omega
                    subst hje
                    have htk : (orderF g).tail.take (g.length - 1) = (orderF g).tail := List.take_of_length_le (by have := Htl.out; omega)
                    rw [htk] at s3 ⊢
                    have Htk := Lib.hid htk
                    clear htk
                    go_wp2
                    go_roundg (q - 1)
                    case measure => have := hq2.out; omega
                    case rel => exact ⟨_, _, rfl, s3, hx6, hPn⟩
end Go.Proofs.Ytkmgbejhbkbaoaa

/- The program's check: its small functions. -/
namespace Go.Proofs.Ytkmgbejhbkbaoaa
set_option linter.unusedSimpArgs false
set_option linter.unusedVariables false
open Go.RowKit

abbrev Tro := Int × Int × Int
/-- what is asked, in order: is it so; if not, what is told -/
abbrev Ck := Bool × Tro
def runC : List Ck → Option Tro
  | [] => none
  | (true, _) :: l => runC l
  | (false, t) :: _ => some t
theorem runC_append (a b : List Ck) : runC (a ++ b) = match runC a with | none => runC b | some t => some t := by
  induction a with
  | nil => rfl
  | cons x a ih =>
    obtain ⟨x, t⟩ := x
    cases x with
    | true => simpa [runC] using ih
    | false => rfl
theorem runC_true {l : List Ck} {t : Tro} : runC ((true, t) :: l) = runC l := rfl
theorem runC_false {l : List Ck} {t : Tro} : runC ((false, t) :: l) = some t := rfl
/-- how a call ends -/
def endC : Option Tro → Ending
  | none => .returned (.tuple #[])
  | some t => .panicked [{ v := .iface 96 (.agg #[.int .i64 t.1, .int .i64 t.2.1, .int .i64 t.2.2]), recovered := false }]

set_option maxRecDepth 20000 in
theorem must_calls (w : World) (ok : Bool) (t : Tro) : Calls Try.prog 48 #[.bool ok, .int .i64 t.1, .int .i64 t.2.1, .int .i64 t.2.2] w fun e w' => e = endC (runC [(ok, t)]) ∧ w' = w := by
  cases ok with
  | true =>
    go_enter Try.func48, Try.ntmps48
    go_wp2
    go_end0
    exact ⟨rfl, rfl⟩
  | false =>
    go_enter Try.func48, Try.ntmps48
    go_wp2
    exact ⟨rfl, rfl, rfl⟩
set_option maxRecDepth 20000 in
theorem within_calls (w : World) (n a b : Int) : Calls Try.prog 49 #[.int .i64 n, .int .i64 a, .int .i64 b] w fun e w' => e = .returned (.bool (decide (a ≤ n ∧ n ≤ b))) ∧ w' = w := by
  by_cases h : a ≤ n
  · go_enter Try.func49, Try.ntmps49
    go_wp2
    go_ret
    exact ⟨by simp [h], rfl⟩
  · have hd : decide (a ≤ n) = false := by simpa using h
    go_enter Try.func49, Try.ntmps49
    go_wp2
    go_ret
    exact ⟨by simp [h], rfl⟩
def opersF (op : Int) : Int × Int := if op = 1 then (0, 0) else if op = 15 then (1, 1) else if op = 17 then (0, 4) else (2, 2)
set_option maxRecDepth 20000 in
theorem operands_calls (w : World) (op : Int) : Calls Try.prog 70 #[.int .i64 op] w fun e w' => e = .returned (.tuple #[.int .i64 (opersF op).1, .int .i64 (opersF op).2]) ∧ w' = w := by
  by_cases h1 : op = 1
  · subst h1
    go_enter Try.func70, Try.ntmps70
    go_wp2
    go_ret2
    exact ⟨rfl, rfl⟩
  · have e1 : (op == 1) = false := by simpa using h1
    by_cases h2 : op = 15
    · subst h2
      go_enter Try.func70, Try.ntmps70
      go_wp2
      go_ret2
      exact ⟨rfl, rfl⟩
    · have e2 : (op == 15) = false := by simpa using h2
      by_cases h3 : op = 17
      · subst h3
        go_enter Try.func70, Try.ntmps70
        go_wp2
        go_ret2
        exact ⟨rfl, rfl⟩
      · have e3 : (op == 17) = false := by simpa using h3
        have hf : Hid (opersF op = (2, 2)) := by simp [Hid, opersF, h1, h2, h3]
        clear h1 h2 h3
        go_enter Try.func70, Try.ntmps70
        go_wp2
        go_ret2
        exact ⟨by rw [hf.out]; rfl, rfl⟩
def makesF (x : JIns) : List Int := if x.op = 16 then [] else if x.op = 18 then [x.dst, x.two] else [x.dst]
theorem made_lit {w : World} {x : List Int} (hne : x ≠ []) (hl : x.length ≤ 1073741824) : SlR kInt 3 (w.alloc (.cells (x.map (Value.int .i64)).toArray 3)) [w.heap.size] (.slice (some ⟨w.heap.size, 0, none⟩) x.length x.length) x := by
  refine slr_sc.2 (.inr ⟨_, _, _, rfl, ?_, Nat.le_refl _, ?_, Blk.new _ _ _, by simp, rfl, ?_⟩)
  · exact List.length_pos_iff.2 hne
  · simp only [maxLen]; omega
  · rw [List.take_of_length_le (by simp)]
set_option maxRecDepth 20000 in
theorem makes_calls {w : World} {S : List Nat} {cs : List Value} {x : JIns} (h : kIns.rep w S x cs) : Calls Try.prog 71 #[.agg cs.toArray] w fun e w' => ∃ v' S', e = .returned v' ∧ SlR kInt 3 w' S' v' (makesF x) ∧ New w w' S' := by
  obtain ⟨v, rfl, h⟩ := h
  by_cases h1 : x.op = 16
  · have e1 : (x.op == 16) = true := by simpa using h1
    have hf : Hid (makesF x = []) := by simp [Hid, makesF, h1]
    clear h1
    go_enter Try.func71, Try.ntmps71
    go_wp2
    go_ret
    exact ⟨_, [], rfl, by rw [hf.out]; exact SlR.nil _ _ _, ⟨(Ext.refl _ _).alloc _, by simp, by simp⟩⟩
  · have e1 : (x.op == 16) = false := by simpa using h1
    by_cases h2 : x.op = 18
    · have e2 : (x.op == 18) = true := by simpa using h2
      have hf : Hid (makesF x = [x.dst, x.two]) := by simp [Hid, makesF, h2]
      clear h1 h2
      go_enter Try.func71, Try.ntmps71
      go_wp2
      go_ret
      refine ⟨_, [w.heap.size + 1], rfl, ?_, ⟨((Ext.refl _ _).alloc _).alloc _, by simp, by simp⟩⟩
      rw [hf.out]
      have := made_lit (w := w.alloc (.cells #[.int .i64 x.op, .int .i64 x.dst, .int .i64 x.two, v, .int .i32 x.imm] 54)) (x := [x.dst, x.two]) (by simp) (by simp)
      simpa using this
    · have e2 : (x.op == 18) = false := by simpa using h2
      have hf : Hid (makesF x = [x.dst]) := by simp [Hid, makesF, h1, h2]
      clear h1 h2
      go_enter Try.func71, Try.ntmps71
      go_wp2
      go_ret
      refine ⟨_, [w.heap.size + 1], rfl, ?_, ⟨((Ext.refl _ _).alloc _).alloc _, by simp, by simp⟩⟩
      rw [hf.out]
      have := made_lit (w := w.alloc (.cells #[.int .i64 x.op, .int .i64 x.dst, .int .i64 x.two, v, .int .i32 x.imm] 54)) (x := [x.dst]) (by simp) (by simp)
      simpa using this
end Go.Proofs.Ytkmgbejhbkbaoaa

/- The program's check: what is made. -/
namespace Go.Proofs.Ytkmgbejhbkbaoaa
set_option linter.unusedSimpArgs false
set_option linter.unusedVariables false
open Go.RowKit

theorem klInt : KL Try.prog 3 (fun v => ∃ a, v = .int .i64 a) := KL.int Try.underlying3
/-- what is made: number, and where -/
abbrev Mk := List (Int × (Int × Int))
def mkEnt (p : Int × (Int × Int)) : Value × Value := (.int .i64 p.1, .agg #[.int .i64 p.2.1, .int .i64 p.2.2])
def mkAll (mk : Mk) (l : List Int) (b p : Int) : Mk := mk ++ l.map fun n => (n, (b, p))
def onceC (mk : Mk) (l : List Int) (b p : Int) : List Ck :=
  match l with
  | [] => []
  | n :: l => (!(mk.any fun x => x.1 == n), (12, b, p)) :: onceC (mk ++ [(n, (b, p))]) l b p
def makeC (params : Int) (l : List Int) (b p : Int) : List Ck := l.map fun n => (decide (params ≤ n ∧ n ≤ 8191), (11, b, p))
def allC (params : Int) (mk : Mk) (l : List Int) (b p : Int) : List Ck := makeC params l b p ++ onceC mk l b p

/-- the looker: it lies in block q; its map is block m -/
structure Look (w : World) (q m : Nat) (params : Int) (vb : Value) (mk : Mk) : Prop where
  cl : Blk w q 102 #[.int .i64 params, vb, .map (some m)]
  mp : MapR (fun v => ∃ a, v = .int .i64 a) w m (mk.map mkEnt)
  ne : m ≠ q
theorem Look.ext {w w' : World} {q m : Nat} {params : Int} {vb : Value} {mk : Mk} (h : Look w q m params vb mk) {M : List Nat} (hx : Ext M w w') (hq : q ∉ M) (hm : m ∉ M) : Look w' q m params vb mk :=
  ⟨h.cl.ext hx hq, h.mp.ext hx hm, h.ne⟩
theorem Look.ext0 {w w' : World} {q m : Nat} {params : Int} {vb : Value} {mk : Mk} (h : Look w q m params vb mk) (hx : Ext [] w w') : Look w' q m params vb mk := h.ext hx (by simp) (by simp)

set_option maxRecDepth 20000 in
theorem make_calls {w : World} {q m : Nat} {params : Int} {vb : Value} {mk : Mk} (h : Look w q m params vb mk) (n b p : Int) :
    Calls Try.prog 87 #[.pointer (some ⟨q, 0, none⟩), .int .i64 n, .int .i64 b, .int .i64 p] w fun e w' => e = endC (runC (makeC params [n] b p)) ∧ w' = w := by
  have c0 := h.cl.cell (i := 0) rfl
  have hr : Hid (runC (makeC params [n] b p) = runC [(decide (params ≤ n ∧ n ≤ 8191), (11, b, p))]) := rfl
  go_enter Try.func87, Try.ntmps87
  go_wp2_with fail
  refine (within_calls w n params 8191).mono ?_
  rintro e w1 ⟨rfl, rfl⟩
  cases hd : decide (params ≤ n ∧ n ≤ 8191) with
  | true =>
    rw [hd] at hr
    clear hd
    go_wp2_with fail
    refine (must_calls _ true (11, b, p)).mono ?_
    rintro e w2 ⟨rfl, rfl⟩
    simp only [runC, endC]
    go_wp2
    go_end0
    exact ⟨by rw [hr.out]; rfl, rfl⟩
  | false =>
    rw [hd] at hr
    clear hd
    go_wp2_with fail
    refine (must_calls _ false (11, b, p)).mono ?_
    rintro e w2 ⟨rfl, rfl⟩
    simp only [runC, endC]
    go_wp2
    exact ⟨rfl, by rw [hr.out]; rfl, rfl⟩

theorem mk_find {mk : Mk} {n : Int} {v : Value} (h : (Value.int .i64 n, v) ∈ mk.map mkEnt) : (mk.any fun x => x.1 == n) = true := by
  obtain ⟨p, hp, he⟩ := List.mem_map.1 h
  simp only [mkEnt, Prod.mk.injEq, Value.int.injEq, true_and] at he
  exact List.any_eq_true.2 ⟨p, hp, by simp [he.1]⟩
theorem mk_not {mk : Mk} {n : Int} (h : ∀ p ∈ mk.map mkEnt, p.1 ≠ .int .i64 n) : (mk.any fun x => x.1 == n) = false := by
  refine List.any_eq_false.2 fun p hp => ?_
  have := h (mkEnt p) (List.mem_map.2 ⟨p, hp, rfl⟩)
  simp only [mkEnt, ne_eq, Value.int.injEq, true_and] at this
  simpa using this
theorem zero_where (w : World) : (zeroValue 129).run Try.prog w = .ok (.agg #[.int .i64 0, .int .i64 0]) w := by kernel_rfl
set_option maxRecDepth 20000 in
theorem once_calls {w : World} {q m : Nat} {params : Int} {vb : Value} {mk : Mk} (h : Look w q m params vb mk) (n b p : Int) :
    Calls Try.prog 88 #[.pointer (some ⟨q, 0, none⟩), .int .i64 n, .int .i64 b, .int .i64 p] w fun e w' =>
      e = endC (runC (onceC mk [n] b p)) ∧ Ext [m] w w' ∧ (runC (onceC mk [n] b p) = none → Look w' q m params vb (mkAll mk [n] b p)) := by
  have c0 := h.cl.cell (i := 2) rfl
  rcases h.mp.look klInt Try.underlying100 (zero_where w) ⟨n, rfl⟩ with ⟨hrun, hno⟩ | ⟨v, hv, hrun⟩
  · have hr : Hid (runC (onceC mk [n] b p) = none) := by simp [Hid, onceC, mk_not hno, runC]
    go_enter Try.func88, Try.ntmps88
    go_wp2_with fail
    have hxa : Ext [] w (w.alloc (.cells #[.int .i64 0, .int .i64 0] 129)) := (Ext.refl _ _).alloc _
    refine (must_calls _ true (12, b, p)).mono ?_
    rintro e w2 ⟨rfl, rfl⟩
    simp only [runC, endC]
    have h2 := h.ext0 hxa
    have c1 := h2.cl.cell (i := 2) rfl
    obtain ⟨w3, hput, hm3, hx3⟩ := h2.mp.put klInt Try.underlying100 ⟨n, rfl⟩ hno (.agg #[.int .i64 b, .int .i64 p])
    go_wp2
    go_end0
    refine ⟨by rw [hr.out]; rfl, (hxa.mono (M' := [m]) (by simp)).same hx3, fun _ => ⟨h2.cl.ext hx3 (by simp; exact fun e => h.ne e.symm), ?_, h.ne⟩⟩
    simpa [mkAll, mkEnt] using hm3
  · obtain ⟨⟨n', wb, wp⟩, hp, he⟩ := List.mem_map.1 hv
    cases he
    have hr : Hid (runC (onceC mk [n'] b p) = some (12, b, p)) := by simp [Hid, onceC, mk_find hv, runC]
    go_enter Try.func88, Try.ntmps88
    go_wp2_with fail
    refine (must_calls _ false (12, b, p)).mono ?_
    rintro e w2 ⟨rfl, rfl⟩
    simp only [runC, endC]
    go_wp2
    exact ⟨rfl, by rw [hr.out]; rfl, (Ext.refl _ _).alloc _, fun h => by rw [hr.out] at h; cases h⟩

theorem onceC_cons (mk : Mk) (n : Int) (l : List Int) (b p : Int) : onceC mk (n :: l) b p = onceC mk [n] b p ++ onceC (mkAll mk [n] b p) l b p := by simp [onceC, mkAll]
theorem mkAll_append (mk : Mk) (l l' : List Int) (b p : Int) : mkAll mk (l ++ l') b p = mkAll (mkAll mk l b p) l' b p := by simp [mkAll]

set_option maxRecDepth 20000 in
set_option maxHeartbeats 400000 in
theorem all_calls {w : World} {q m : Nat} {params : Int} {vb : Value} {mk : Mk} (h : Look w q m params vb mk) {S : List Nat} {v : Value} {l : List Int} (hl : SlR kInt 3 w S v l) (hm : m ∉ S) (hn : l.length ≤ 1073741824) (b p : Int) :
    Calls Try.prog 69 #[.pointer (some ⟨q, 0, none⟩), v, .int .i64 b, .int .i64 p] w fun e w' =>
      e = endC (runC (allC params mk l b p)) ∧ Ext [m] w w' ∧ (runC (allC params mk l b p) = none → Look w' q m params vb (mkAll mk l b p)) := by
  obtain ⟨A, c, rfl, _⟩ := hl.shape
  have hr0 : Hid (runC (allC params mk l b p) = runC (makeC params (l.drop 0) b p ++ onceC mk l b p)) := rfl
  go_enter Try.func69, Try.ntmps69
  go_wp2
  go_loopg [14] l.length (fun k vi wr => ∃ (i : Nat), vi = .int .i64 (i : Int) ∧ i ≤ l.length ∧ Hid (i + k = l.length) ∧ w = wr ∧ Hid (runC (allC params mk l b p) = runC (makeC params (l.drop i) b p ++ onceC mk l b p)))
  case atStart => exact ⟨0, rfl, by omega, by simp [Hid], rfl, hr0⟩
  case round =>
    obtain ⟨i, rfl, hi, HK, rfl, hr⟩ := hrel
    clear hr0
    by_cases hlt : i < l.length
    · obtain ⟨g, cap, hv, hS, hc, _⟩ := hl.cell i hlt
      cases hv
      have hdr : makeC params (l.drop i) b p ++ onceC mk l b p = makeC params [l[i]] b p ++ (makeC params (l.drop (i + 1)) b p ++ onceC mk l b p) := by
        rw [List.drop_eq_getElem_cons hlt]; rfl
      rw [hdr, runC_append] at hr
      clear hdr
      generalize l[i] = n at *
      go_wp2_with fail
      refine (make_calls h n b p).mono ?_
      rintro e w2 ⟨rfl, rfl⟩
      cases hd : runC (makeC params [n] b p) with
      | none =>
        rw [hd] at hr
        simp only [endC] at hr ⊢
        go_wp2
        go_roundg (gk - 1)
        case measure => have := HK.out; omega
        case rel => exact ⟨i + 1, by go_num, by omega, by have := HK.out; simp only [Hid]; omega, rfl, hr⟩
      | some t =>
        rw [hd] at hr
        simp only [endC] at hr ⊢
        go_wp2
        exact ⟨rfl, by rw [hr.out]; rfl, Ext.refl _ _, fun h => by rw [hr.out] at h; cases h⟩
    · have hie : i = l.length := by omega
      subst hie
      have hr1 : Hid (runC (allC params mk l b p) = runC (onceC (mkAll mk (l.take 0) b p) (l.drop 0) b p)) := by
        have := hr.out
        rw [List.drop_length] at this
        rw [Hid]; simpa [makeC, mkAll] using this
      have h1 : Look w q m params vb (mkAll mk (l.take 0) b p) := by simpa [mkAll] using h
      clear hr
      go_wp2
      go_loopg [26] l.length (fun k vi wr => ∃ (i : Nat), vi = .int .i64 (i : Int) ∧ i ≤ l.length ∧ Hid (i + k = l.length) ∧ Ext [m] w wr ∧ Look wr q m params vb (mkAll mk (l.take i) b p) ∧
        Hid (runC (allC params mk l b p) = runC (onceC (mkAll mk (l.take i) b p) (l.drop i) b p)))
      case atStart => exact ⟨0, rfl, by omega, by simp [Hid], Ext.refl _ _, h1, hr1⟩
      case round =>
        obtain ⟨i, rfl, hi, HK, hx, hlk, hr⟩ := hrel
        clear hr1 h1
        by_cases hlt : i < l.length
        · obtain ⟨g, cap, hv, hS, hc, _⟩ := (hl.ext hx (fun k hk hkm => by simp at hkm; exact hm (hkm ▸ hk))).cell i hlt
          cases hv
          rw [List.drop_eq_getElem_cons hlt, onceC_cons, runC_append] at hr
          have htk : Hid (mkAll (mkAll mk (l.take i) b p) [l[i]] b p = mkAll mk (l.take (i + 1)) b p) := by rw [Hid, List.take_succ_eq_append_getElem hlt, mkAll_append]
          generalize l[i] = n at *
          go_wp2_with fail
          refine (once_calls hlk n b p).mono ?_
          rintro e w2 ⟨rfl, hx2, hlk2⟩
          cases hd : runC (onceC (mkAll mk (l.take i) b p) [n] b p) with
          | none =>
            have hlk3 := hlk2 hd
            rw [hd] at hr
            simp only [endC] at hr ⊢
            rw [htk.out] at hr hlk3
            go_wp2
            go_roundg (gk - 1)
            case measure => have := HK.out; omega
            case rel => exact ⟨i + 1, by go_num, by omega, by have := HK.out; simp only [Hid]; omega, hx.same hx2, hlk3, hr⟩
          | some t =>
            rw [hd] at hr
            simp only [endC] at hr ⊢
            go_wp2
            exact ⟨rfl, by rw [hr.out]; rfl, hx.same hx2, fun h => by rw [hr.out] at h; cases h⟩
        · have hie : i = l.length := by omega
          subst hie
          rw [List.take_length] at hlk hr
          have hre : Hid (runC (allC params mk l b p) = none) := by
            have := hr.out; rw [List.drop_length] at this; rw [Hid]; simpa [onceC, runC] using this
          clear hr
          go_wp2
          go_end0
          exact ⟨by rw [hre.out]; rfl, hx, fun _ => hlk⟩
end Go.Proofs.Ytkmgbejhbkbaoaa

/- A statement whose order is open: ways that part, and a last operation that may end in a panic. -/
namespace Go.Proofs.Ytkmgbejhbkbaoaa
set_option linter.unusedSimpArgs false
set_option linter.unusedVariables false
open Go.RowKit

section
variable {P : Program} {ops : Array Oper} {C : World → Prop} {Q : Exit → Act → World → Prop}

/-- the last operation: it may panic -/
def wOp (P : Program) (ops : Array Oper) (Q : Exit → Act → World → Prop) (i : Nat) (a : Act) (w : World) : Prop :=
  match ops[i]? with
  | none => Q .normal a w
  | some o => if Region.wanted o (yielded ops a.tmps) then o.wp P a w (Q .normal) Q else Q .normal (a.put o.dst undef) w

/-- what must have come up ahead -/
inductive Path (md : Region.Mode) (ops : Array Oper) (f : Nat) : Nat → Prop
  | one {o : Oper} {e : Edge} : ops[f]? = some o → e ∈ o.after → Region.binds md e = true → Path md ops f e.on
  | step {k : Nat} {o : Oper} {e : Edge} : Path md ops f k → ops[k]? = some o → e ∈ o.after → Region.binds md e = true → Path md ops f e.on
def Closed (md : Region.Mode) (ops : Array Oper) (listed : Array Bool) : Prop :=
  ∀ k o, ops[k]? = some o → listed.getD k false = true → ∀ e ∈ o.after, Region.binds md e = true → listed.getD e.on false = true
/-- the one that may panic waits for all others -/
def Last (md : Region.Mode) (ops : Array Oper) (f : Option Nat) : Prop := ∀ i, f = some i → ∀ k, k < ops.size → k ≠ i → Path md ops i k
theorem getD_flip {listed : Array Bool} {k : Nat} (hk : k < listed.size) : listed.getD k true = listed.getD k false := by simp [hk]
theorem last_all {md : Region.Mode} {i : Nat} {f : Option Nat} {listed : Array Bool} (hl : Last md ops f) (hc : Closed md ops listed) (hi : i ∈ Region.ready md ops listed) (hf : f = some i) {k : Nat} (hk : k < ops.size) (hki : k ≠ i) : listed.getD k false = true := by
  obtain ⟨_, o, ho, hall⟩ := mem_ready.1 hi
  have := hl i hf k hk hki
  clear hk hki
  induction this with
  | one ho' he hb =>
    rw [ho] at ho'; cases ho'
    exact hall _ he hb
  | step _ ho' he hb ih => exact hc _ _ ho' ih _ he hb
theorem closed_set {md : Region.Mode} {i : Nat} {listed : Array Bool} (hc : Closed md ops listed) (hi : i ∈ Region.ready md ops listed) : Closed md ops (listed.setIfInBounds i true) := by
  obtain ⟨_, o, ho, hall⟩ := mem_ready.1 hi
  have key : ∀ k, listed.getD k false = true → (listed.setIfInBounds i true).getD k false = true := fun k h => by
    by_cases hk : i = k
    · subst hk
      rcases Nat.lt_or_ge i listed.size with h' | h'
      · simp [h']
      · simp [Array.getElem?_eq_none h'] at h
    · simpa [Array.getElem?_setIfInBounds_ne hk] using h
  intro k ok hok hk e he hb
  by_cases hki : i = k
  · subst hki
    rw [ho] at hok; cases hok
    exact key _ (hall e he hb)
  · exact key _ (hc k ok hok (by simpa [Array.getElem?_setIfInBounds_ne hki] using hk) e he hb)
theorem last_not {md : Region.Mode} {i j : Nat} {f : Option Nat} {listed : Array Bool} (hl : Last md ops f) (hc : Closed md ops listed) (hj : j ∈ Region.ready md ops listed) (hi : i ∈ Region.ready md ops listed) (hji : j ≠ i) : f ≠ some j := by
  intro hf
  obtain ⟨hiun, oi, hoi, _⟩ := mem_ready.1 hi
  have h1 := last_all hl hc hj hf (Array.getElem?_eq_some_iff.1 hoi).1 (fun e => hji e.symm)
  rcases Nat.lt_or_ge i listed.size with h' | h'
  · simp [h'] at hiun h1; rw [h1] at hiun; cases hiun
  · simp [Array.getElem?_eq_none h'] at h1

def anyF (P : Program) (md : Region.Mode) (ops : Array Oper) (f : Option Nat) (C : World → Prop) (Q : Exit → Act → World → Prop) : Nat → Array Bool → Act → World → Prop
  | 0, listed, a, w => Region.ready md ops listed = [] ∧ Q .normal a w
  | fuel + 1, listed, a, w =>
    (Region.ready md ops listed = [] → Q .normal a w) ∧
    ∀ i ∈ Region.ready md ops listed, (f = some i → wOp P ops Q i a w) ∧ (f ≠ some i → sOp P ops i (fun a' w' => C w' ∧ anyF P md ops f C Q fuel (listed.setIfInBounds i true) a' w') a w)

theorem fin_ready {md : Region.Mode} {i : Nat} {f : Option Nat} {listed : Array Bool} (hl : Last md ops f) (hc : Closed md ops listed) (hi : i ∈ Region.ready md ops listed) (hf : f = some i) : Region.ready md ops (listed.setIfInBounds i true) = [] := by
  obtain ⟨hun, o, ho, hall⟩ := mem_ready.1 hi
  refine List.eq_nil_iff_forall_not_mem.2 fun k hk => ?_
  obtain ⟨hkun, ok, hok, _⟩ := mem_ready.1 hk
  by_cases hki : k = i
  · subst hki
    rcases Nat.lt_or_ge k listed.size with h' | h'
    · simp [h'] at hkun
    · simp [Array.getElem?_eq_none h'] at hun
  · rw [getD_set_ne true (fun e => hki e.symm)] at hkun
    have h2 := last_all hl hc hi hf (Array.getElem?_eq_some_iff.1 hok).1 hki
    rcases Nat.lt_or_ge k listed.size with h' | h'
    · simp [h'] at hkun h2; rw [h2] at hkun; cases hkun
    · simp [Array.getElem?_eq_none h'] at h2

theorem anyF_first {md : Region.Mode} {f : Option Nat} {i : Nat} {oi : Oper} {v : Value} (hl : Last md ops f) (hi : ops[i]? = some oi) (hnf : f ≠ some i) (hsel : ∀ (j : Nat) (o : Oper) cs b, ops[j]? = some o → o.op ≠ .select cs b) :
    ∀ (fuel : Nat) (listed : Array Bool) (a : Act) (w : World), Closed md ops listed →
      (∀ j oj, ops[j]? = some oj → j ≠ i → listed.getD j true = false → (∀ e ∈ oj.after, Region.binds md e = true → e.on ≠ i) → oi.apart ops oj = true) →
      i ∈ Region.ready md ops listed → Quiet P ops C oi v a → C w →
      anyF P md ops f C Q fuel (listed.setIfInBounds i true) (a.put oi.dst v) w → anyF P md ops f C Q (fuel + 1) listed a w := by
  intro fuel
  induction fuel with
  | zero =>
    intro listed a w hc _ hr hy hC H
    refine ⟨fun h => (by rw [h] at hr; cases hr), fun j hj => ?_⟩
    by_cases hji : j = i
    · subst hji; exact ⟨fun h => absurd h hnf, fun _ => hy.sOp hi hC ⟨hC, H⟩⟩
    · have := ready_mono hj hji
      rw [H.1] at this
      cases this
  | succ fuel ih =>
    intro listed a w hc hfree hr hy hC H
    refine ⟨fun h => (by rw [h] at hr; cases hr), fun j hj => ?_⟩
    by_cases hji : j = i
    · subst hji; exact ⟨fun h => absurd h hnf, fun _ => hy.sOp hi hC ⟨hC, H⟩⟩
    · have hfin := last_not hl hc hj hr hji
      refine ⟨fun h => absurd h hfin, fun _ => ?_⟩
      have h1 := (H.2 j (ready_mono hj hji)).2 hfin
      obtain ⟨hjun, oj, hoj, hall⟩ := mem_ready.1 hj
      have hnot : ∀ e ∈ oj.after, Region.binds md e = true → e.on ≠ i := fun e he hb heq => by
        have h1 := hall e he hb
        have h0 := (mem_ready.1 hr).1
        rw [heq] at h1
        rcases Nat.lt_or_ge i listed.size with h' | h'
        · simp [h'] at h0 h1; rw [h0] at h1; cases h1
        · simp [Array.getElem?_eq_none h'] at h1
      have h2 := sOp_put hoj (hfree j oj hoj hji hjun hnot) (fun cs b => hsel i oi cs b hi) (fun cs b => hsel j oj cs b hoj) hy h1
      have hfree' : ∀ k ok, ops[k]? = some ok → k ≠ i → (listed.setIfInBounds j true).getD k true = false →
          (∀ e ∈ ok.after, Region.binds md e = true → e.on ≠ i) → oi.apart ops ok = true := fun k ok hk hki hun hno => by
        refine hfree k ok hk hki ?_ hno
        by_cases hjk : j = k
        · subst hjk; exact hjun
        · rw [getD_set_ne true hjk] at hun; exact hun
      refine sOp_mono (fun a' w' h3 => ⟨h3.2.1, ih (listed.setIfInBounds j true) a' w' (closed_set hc hj) hfree' (ready_mono hr (Ne.symm hji)) h3.1 h3.2.1 ?_⟩) h2
      rw [Array.setIfInBounds_comm _ _ hji]
      exact h3.2.2

theorem anyF_plain {md : Region.Mode} {f : Option Nat} (hl : Last md ops f) : ∀ (fuel : Nat) (listed : Array Bool) (a : Act) (w : World), Closed md ops listed →
    anyF P md ops f C Q fuel listed a w → wpAny P md ops Q fuel listed a w
  | 0, _, _, _, _, h => h
  | fuel + 1, listed, a, w, hc, h => ⟨h.1, fun i hi => by
      have h1 := h.2 i hi
      by_cases hf : f = some i
      · have h2 := h1.1 hf
        have h3 := fin_ready hl hc hi hf
        have hK : ∀ a w, Q .normal a w → wpAny P md ops Q fuel (listed.setIfInBounds i true) a w := fun a w hq => by
          cases fuel with
          | zero => exact ⟨h3, hq⟩
          | succ fuel => exact ⟨fun _ => hq, fun k hk => by rw [h3] at hk; cases hk⟩
        unfold wOp at h2
        unfold wpOp
        split
        · rename_i ho; exact hK _ _ (by simpa only [ho] using h2)
        · rename_i o ho
          simp only [ho] at h2
          split
          · rename_i hw; simp only [hw, if_true] at h2; exact .inl (Oper.wp_mono hK h2)
          · rename_i hw; simp only [hw] at h2; exact hK _ _ h2
      · have h2 := sOp_mono (fun a' w' h3 => anyF_plain hl fuel _ a' w' (closed_set hc hi) h3.2) (h1.2 hf)
        unfold sOp at h2
        unfold wpOp
        split
        · rename_i ho; simpa only [ho] using h2
        · rename_i o ho
          simp only [ho] at h2
          split
          · rename_i hw; simp only [hw, if_true] at h2; exact .inl h2.wp
          · rename_i hw; simp only [hw] at h2; exact h2⟩

/-- a way through: what only reads, what does something, two that may change places, the last one -/
inductive Rt
  | nil
  | q (i : Nat) (r : Rt)
  | e (i : Nat) (r : Rt)
  | b (i : Nat) (r : Rt) (j : Nat) (s : Rt)
  | fin (i : Nat)
def Rt.len : Rt → Nat
  | .nil => 0
  | .q _ r => r.len + 1
  | .e _ r => r.len + 1
  | .b _ r _ _ => r.len + 1
  | .fin _ => 1
def Rt.last : Rt → Option Nat
  | .nil => none
  | .q _ r => r.last
  | .e _ r => r.last
  | .b _ r _ _ => r.last
  | .fin i => some i
def rtW (P : Program) (ops : Array Oper) (C : World → Prop) (Q : Exit → Act → World → Prop) : Rt → Act → World → Prop
  | .nil, a, w => Q .normal a w
  | .q i r, a, w => ∃ o, ops[i]? = some o ∧ ∃ v, Quiet P ops C o v a ∧ rtW P ops C Q r (a.put o.dst v) w
  | .e i r, a, w => sOp P ops i (fun a' w' => C w' ∧ rtW P ops C Q r a' w') a w
  | .b i r j s, a, w => sOp P ops i (fun a' w' => C w' ∧ rtW P ops C Q r a' w') a w ∧ sOp P ops j (fun a' w' => C w' ∧ rtW P ops C Q s a' w') a w
  | .fin i, a, w => wOp P ops Q i a w
def rtOk (ops : Array Oper) (f : Option Nat) : Rt → Array Bool → Bool
  | .nil, listed => Region.ready .any ops listed == []
  | .q i r, listed => (Region.ready .any ops listed).contains i && Region.free .any ops listed i && (f != some i) && rtOk ops f r (listed.setIfInBounds i true)
  | .e i r, listed => Region.ready .any ops listed == [i] && (f != some i) && rtOk ops f r (listed.setIfInBounds i true)
  | .b i r j s, listed => Region.ready .any ops listed == [i, j] && (f != some i) && (f != some j) && (s.len == r.len) && rtOk ops f r (listed.setIfInBounds i true) && rtOk ops f s (listed.setIfInBounds j true)
  | .fin i, listed => Region.ready .any ops listed == [i] && (f == some i)
theorem anyF_rt {f : Option Nat} (hl : Last .any ops f) (hs : Region.noSelect ops = true) : ∀ (r : Rt) (listed : Array Bool) (a : Act) (w : World), Closed .any ops listed → rtOk ops f r listed = true → C w →
    rtW P ops C Q r a w → anyF P .any ops f C Q r.len listed a w
  | .nil, listed, a, w, _, hB, _, h => ⟨by simpa [rtOk] using hB, h⟩
  | .q i r, listed, a, w, hc, hB, hC, h => by
    simp only [rtOk, Bool.and_eq_true, bne_iff_ne] at hB
    obtain ⟨⟨⟨hr, hf⟩, hn⟩, hB'⟩ := hB
    obtain ⟨o, ho, v, hq, h'⟩ := h
    have hr' : i ∈ Region.ready .any ops listed := by simpa using hr
    exact anyF_first hl ho hn (Region.noSelect_spec hs) r.len listed a w hc (Region.free_spec ho hf) hr' hq hC (anyF_rt hl hs r _ _ _ (closed_set hc hr') hB' hC h')
  | .e i r, listed, a, w, hc, hB, hC, h => by
    simp only [rtOk, Bool.and_eq_true, beq_iff_eq, bne_iff_ne] at hB
    obtain ⟨⟨hr, hn⟩, hB'⟩ := hB
    refine ⟨fun h0 => (by rw [hr] at h0; cases h0), fun j hj => ?_⟩
    have hj' := hj
    rw [hr, List.mem_singleton] at hj
    subst hj
    exact ⟨fun h => absurd h hn, fun _ => sOp_mono (fun a' w' h3 => ⟨h3.1, anyF_rt hl hs r _ _ _ (closed_set hc hj') hB' h3.1 h3.2⟩) h⟩
  | .b i r j s, listed, a, w, hc, hB, hC, h => by
    simp only [rtOk, Bool.and_eq_true, beq_iff_eq, bne_iff_ne] at hB
    obtain ⟨⟨⟨⟨⟨hr, hn⟩, hn2⟩, hlen⟩, hB'⟩, hB2⟩ := hB
    refine ⟨fun h0 => (by rw [hr] at h0; cases h0), fun k hk => ?_⟩
    have hk' := hk
    rw [hr] at hk
    simp only [List.mem_cons, List.not_mem_nil, or_false] at hk
    rcases hk with rfl | rfl
    · exact ⟨fun h => absurd h hn, fun _ => sOp_mono (fun a' w' h3 => ⟨h3.1, anyF_rt hl hs r _ _ _ (closed_set hc hk') hB' h3.1 h3.2⟩) h.1⟩
    · refine ⟨fun h => absurd h hn2, fun _ => sOp_mono (fun a' w' h3 => ⟨h3.1, ?_⟩) h.2⟩
      have := anyF_rt hl hs s _ _ _ (closed_set hc hk') hB2 h3.1 h3.2
      rwa [hlen] at this
  | .fin i, listed, a, w, hc, hB, hC, h => by
    simp only [rtOk, Bool.and_eq_true, beq_iff_eq] at hB
    obtain ⟨hr, hn⟩ := hB
    refine ⟨fun h0 => (by rw [hr] at h0; cases h0), fun k hk => ?_⟩
    rw [hr, List.mem_singleton] at hk
    subst hk
    exact ⟨fun _ => h, fun h => absurd hn h⟩
/-- what the last one waits for -/
def needs (ops : Array Oper) (f : Nat) : Nat → List Nat → List Nat
  | 0, l => l
  | k + 1, l => needs ops f k (if k == f || l.contains k then l ++ (match ops[k]? with | some o => (o.after.toList.filter (Region.binds .any)).map (·.on) | none => []) else l)
theorem needs_path {f : Nat} : ∀ (k : Nat) (l : List Nat), (∀ x ∈ l, Path .any ops f x) → ∀ x ∈ needs ops f k l, Path .any ops f x
  | 0, l, h => h
  | k + 1, l, h => by
    unfold needs
    refine needs_path k _ fun x hx => ?_
    split at hx
    · rename_i hk
      rcases List.mem_append.1 hx with hx | hx
      · exact h x hx
      · split at hx
        · rename_i o ho
          obtain ⟨e, he, rfl⟩ := List.mem_map.1 hx
          obtain ⟨he, hb⟩ := List.mem_filter.1 he
          have he' : e ∈ o.after := by simpa using he
          by_cases hkf : k = f
          · subst hkf; exact .one ho he' hb
          · have : k ∈ l := by
              simp only [Bool.or_eq_true, beq_iff_eq, hkf, false_or] at hk
              simpa using hk
            exact .step (h k this) ho he' hb
        · cases hx
    · exact h x hx
def lastB (ops : Array Oper) : Option Nat → Bool
  | none => true
  | some f => let l := needs ops f ops.size []
    (List.range ops.size).all fun k => k == f || l.contains k
theorem last_of {f : Option Nat} (h : lastB ops f = true) : Last .any ops f := by
  rintro i rfl k hk hki
  simp only [lastB, List.all_eq_true, List.mem_range, Bool.or_eq_true, beq_iff_eq] at h
  rcases h k hk with h | h
  · exact absurd h hki
  · exact needs_path ops.size [] (by simp) k (by simpa using h)
def rtAll (ops : Array Oper) (r : Rt) : Bool :=
  Region.noSelect ops && r.len == ops.size && rtOk ops r.last r (Array.replicate ops.size false) && lastB ops r.last && ops.all fun o => match o.op with | .defer _ => false | _ => true
theorem closed_none (md : Region.Mode) (ops : Array Oper) (n : Nat) : Closed md ops (Array.replicate n false) := by
  intro k o _ hk
  exfalso
  simp only [Array.getD_eq_getD_getElem?, Array.getElem?_replicate] at hk
  split at hk <;> simp at hk
theorem wp_region_rt {id : Nat} {a : Act} {w : World} (C : World → Prop) (r : Rt) (hm : P.follows .mixedOrders = true) (hB : rtAll ops r = true) (hC : C w.drew)
    (h : rtW P ops C Q r a w.drew) : (Code.region id ops true).wp P Q a w := by
  simp only [rtAll, Bool.and_eq_true, beq_iff_eq] at hB
  refine wp_region_any hm ?_
  have hl := last_of hB.1.2
  have := anyF_rt hl hB.1.1.1.1 r _ a w.drew (closed_none _ _ _) hB.1.1.2 hC h
  rw [hB.1.1.1.2] at this
  exact anyF_plain hl _ _ _ _ (closed_none _ _ _) this
end

section
variable {P : Program} {opl : List Oper} {C : World → Prop} {Q : Exit → Act → World → Prop} {i : Nat} {r : Rt} {a : Act} {w w' : World} {o : Oper}
theorem rt_quiet (v : Value) (ho' : opl[i]? = some o) (hg : Region.wanted o (yielded opl.toArray a.tmps) = true)
    (hq : ∀ w, C w → (execOp a.eval o).run P w = .ok (.value v) w) (hk : rtW P opl.toArray C Q r (a.put o.dst v) w) : rtW P opl.toArray C Q (.q i r) a w :=
  have ho : opl.toArray[i]? = some o := by simpa using ho'
  ⟨o, ho, v, .inl ⟨hg, fun w hw => .inl (hq w hw)⟩, hk⟩
theorem rt_skip (ho' : opl[i]? = some o) (hg : Region.wanted o (yielded opl.toArray a.tmps) = false)
    (hk : rtW P opl.toArray C Q r (a.put o.dst undef) w) : rtW P opl.toArray C Q (.q i r) a w :=
  have ho : opl.toArray[i]? = some o := by simpa using ho'
  ⟨o, ho, undef, .inr ⟨hg, rfl⟩, hk⟩
theorem s_skip {K : Act → World → Prop} (ho' : opl[i]? = some o) (hg : Region.wanted o (yielded opl.toArray a.tmps) = false) (hk : K (a.put o.dst undef) w) : sOp P opl.toArray i K a w := by
  have ho : opl.toArray[i]? = some o := by simpa using ho'
  unfold sOp
  simp only [ho, hg, Bool.false_eq_true, if_false]
  exact hk
theorem s_eff {K : Act → World → Prop} (v : Value) (ho' : opl[i]? = some o) (hg : Region.wanted o (yielded opl.toArray a.tmps) = true)
    (hq : (execOp a.eval o).run P w = .ok (.value v) w') (hk : K (a.put o.dst v) w') : sOp P opl.toArray i K a w := by
  have ho : opl.toArray[i]? = some o := by simpa using ho'
  unfold sOp
  simp only [ho, hg, if_true]
  unfold StepTo
  rw [hq]
  exact hk
theorem s_eff0 {K : Act → World → Prop} (ho' : opl[i]? = some o) (hg : Region.wanted o (yielded opl.toArray a.tmps) = true)
    (hq : (execOp a.eval o).run P w = .ok .skip w') (hk : K (a.put o.dst undef) w') : sOp P opl.toArray i K a w := by
  have ho : opl.toArray[i]? = some o := by simpa using ho'
  unfold sOp
  simp only [ho, hg, if_true]
  unfold StepTo
  rw [hq]
  exact hk
theorem s_call {K : Act → World → Prop} {f : FuncId} {args : Array Value} (ho' : opl[i]? = some o) (hg : Region.wanted o (yielded opl.toArray a.tmps) = true)
    (hq : (execOp a.eval o).run P w = .ok (.enter f args) w') (hc : Calls P f args w' fun e w'' => ∃ v, e = .returned v ∧ K (a.put o.dst v) w'') : sOp P opl.toArray i K a w := by
  have ho : opl.toArray[i]? = some o := by simpa using ho'
  unfold sOp
  simp only [ho, hg, if_true]
  unfold StepTo
  rw [hq]
  exact hc
theorem fin_call {f : FuncId} {args : Array Value} (ho' : opl[i]? = some o) (hg : Region.wanted o (yielded opl.toArray a.tmps) = true)
    (hq : (execOp a.eval o).run P w = .ok (.enter f args) w') (hc : Calls P f args w' fun e w'' => (∃ v, e = .returned v ∧ Q .normal (a.put o.dst v) w'') ∨ ∃ ch, e = .panicked ch ∧ Q (.panic ch) a w'') : rtW P opl.toArray C Q (.fin i) a w := by
  have ho : opl.toArray[i]? = some o := by simpa using ho'
  show wOp P opl.toArray Q i a w
  unfold wOp
  simp only [ho, hg, if_true]
  unfold Oper.wp
  rw [hq]
  refine Calls.mono hc ?_
  rintro e w'' (⟨v, rfl, h⟩ | ⟨ch, rfl, h⟩)
  · exact h
  · exact h
theorem fin_eff (v : Value) (ho' : opl[i]? = some o) (hg : Region.wanted o (yielded opl.toArray a.tmps) = true)
    (hq : (execOp a.eval o).run P w = .ok (.value v) w') (hk : Q .normal (a.put o.dst v) w') : rtW P opl.toArray C Q (.fin i) a w := by
  have ho : opl.toArray[i]? = some o := by simpa using ho'
  show wOp P opl.toArray Q i a w
  unfold wOp
  simp only [ho, hg, if_true]
  unfold Oper.wp
  rw [hq]
  exact hk
theorem fin_eff0 (ho' : opl[i]? = some o) (hg : Region.wanted o (yielded opl.toArray a.tmps) = true)
    (hq : (execOp a.eval o).run P w = .ok .skip w') (hk : Q .normal (a.put o.dst undef) w') : rtW P opl.toArray C Q (.fin i) a w := by
  have ho : opl.toArray[i]? = some o := by simpa using ho'
  show wOp P opl.toArray Q i a w
  unfold wOp
  simp only [ho, hg, if_true]
  unfold Oper.wp
  rw [hq]
  exact hk
end

section
variable {P : Program} {ops : Array Oper} {C : World → Prop} {Q : Exit → Act → World → Prop}
theorem wOp_mono {Q' : Exit → Act → World → Prop} (h : ∀ e a w, Q e a w → Q' e a w) {i : Nat} {a : Act} {w : World} (k : wOp P ops Q i a w) : wOp P ops Q' i a w := by
  unfold wOp at *
  split
  · exact h _ _ _ (by simpa [*] using k)
  · rename_i o ho
    simp only [ho] at k
    split
    · rename_i hw
      simp only [hw, if_true] at k
      unfold Oper.wp at *
      generalize (execOp a.eval o).run P w = r at *
      cases r with
      | ok x w' =>
        cases x <;> simp only [Oper.upon] at k ⊢
        case value => exact h _ _ _ k
        case skip => exact h _ _ _ k
        case defer => exact h _ _ _ k
        case enter =>
          refine k.mono ?_
          intro e w'' hh
          cases e with
          | returned v => exact h _ _ _ hh
          | panicked ch => exact h _ _ _ hh
          | outgrown =>
            obtain ⟨a', w', hh⟩ := hh
            exact ⟨a', w', h _ _ _ hh⟩
        case row =>
          exact Rows.mono k fun v w'' hh => h _ _ _ hh
      | halt x w' => cases x <;> simp only [Oper.upon] at k ⊢; exact h _ _ _ k
    · rename_i hw
      simp only [hw] at k
      exact h _ _ _ k
theorem rtW_mono {Q' : Exit → Act → World → Prop} (h : ∀ e a w, Q e a w → Q' e a w) : ∀ (r : Rt) (a : Act) (w : World), rtW P ops C Q r a w → rtW P ops C Q' r a w
  | .nil, _, _, k => h _ _ _ k
  | .q _ r, _, _, ⟨o, ho, v, hq, k⟩ => ⟨o, ho, v, hq, rtW_mono h r _ _ k⟩
  | .e _ r, _, _, k => sOp_mono (fun _ _ k => ⟨k.1, rtW_mono h r _ _ k.2⟩) k
  | .b _ r _ s, _, _, k => ⟨sOp_mono (fun _ _ k => ⟨k.1, rtW_mono h r _ _ k.2⟩) k.1, sOp_mono (fun _ _ k => ⟨k.1, rtW_mono h s _ _ k.2⟩) k.2⟩
  | .fin _, _, _, k => wOp_mono h k
/-- ways that part meet again -/
theorem rt_via {G : Nat → Nat → Act} (F : Nat → Nat → World → Prop) {r : Rt} {a : Act} {w : World} (h : rtW P ops C (fun e a w => e = .normal ∧ ∃ m g, a = G m g ∧ F m g w) r a w)
    (k : ∀ m g w, F m g w → Q .normal (G m g) w) : rtW P ops C Q r a w :=
  rtW_mono (by rintro e a w ⟨rfl, m, g, rfl, hf⟩; exact k m g w hf) r a w h
end
end Go.Proofs.Ytkmgbejhbkbaoaa

/- The program's check: shapes. -/
namespace Go.Proofs.Ytkmgbejhbkbaoaa
set_option linter.unusedSimpArgs false
set_option linter.unusedVariables false
open Go.RowKit

/-- of a kind: operands at least, at most; blocks at least, at most -/
def shapeF (k : Int) : Option (Int × Int × Int × Int) :=
  if k = 1 then some (0, 0, 1, 1) else if k = 2 then some (1, 1, 2, 2) else if k = 3 then some (1, 1, 2, 65) else if k = 4 then some (0, 1, 0, 0) else if k = 5 then some (0, 0, 0, 0) else none
def shpV (s : Int × Int × Int × Int) : Value := .agg #[.int .i64 s.1, .int .i64 s.2.1, .int .i64 s.2.2.1, .int .i64 s.2.2.2]
def shapeL : List (Value × Value) := [(.int .i64 1, shpV (0, 0, 1, 1)), (.int .i64 2, shpV (1, 1, 2, 2)), (.int .i64 3, shpV (1, 1, 2, 65)), (.int .i64 4, shpV (0, 1, 0, 0)), (.int .i64 5, shpV (0, 0, 0, 0))]
abbrev KpI : Value → Prop := fun v => ∃ a, v = .int .i64 a

set_option maxRecDepth 20000 in
theorem shapes_calls (w : World) : Calls Try.prog 72 #[] w fun e w' => e = .returned (.map (some w.heap.size)) ∧ MapR KpI w' w.heap.size shapeL ∧ Ext [] w w' := by
  have hmm := @run_makeMap Try.prog
  obtain ⟨w1, hw1⟩ : ∃ w1, w1 = w.alloc (.map #[] 0) := ⟨_, rfl⟩
  have h0 : MapR KpI w1 w.heap.size [] := by rw [hw1]; exact MapR.new w
  have hx0 : Ext [] w w1 := by rw [hw1]; exact (Ext.refl _ _).alloc _
  have ht := Try.underlying125
  obtain ⟨w2, r2, h2, x2⟩ := h0.put klInt ht ⟨1, rfl⟩ (by simp) (shpV (0, 0, 1, 1))
  obtain ⟨w3, r3, h3, x3⟩ := h2.put klInt ht ⟨2, rfl⟩ (by simp) (shpV (1, 1, 2, 2))
  obtain ⟨w4, r4, h4, x4⟩ := h3.put klInt ht ⟨3, rfl⟩ (by simp) (shpV (1, 1, 2, 65))
  obtain ⟨w5, r5, h5, x5⟩ := h4.put klInt ht ⟨4, rfl⟩ (by simp) (shpV (0, 1, 0, 0))
  obtain ⟨w6, r6, h6, x6⟩ := h5.put klInt ht ⟨5, rfl⟩ (by simp) (shpV (0, 0, 0, 0))
  have hx : Ext [] w w6 := by
    have hy := (((x2.same x3).same x4).same x5).same x6
    exact hx0.trans hy (by simp)
  simp only [shpV] at r2 r3 r4 r5 r6
  subst hw1
  go_enter Try.func72, Try.ntmps72
  go_wp2
  go_ret
  exact ⟨rfl, h6, hx⟩
def shpOf (k : Int) : (Int × Int × Int × Int) × Bool := match shapeF k with | none => ((0, 0, 0, 0), false) | some s => (s, true)
theorem zero_shape (w : World) : (zeroValue 123).run Try.prog w = .ok (shpV (0, 0, 0, 0)) w := by kernel_rfl
theorem shape_look {w : World} {m : Nat} (h : MapR KpI w m shapeL) (k : Int) :
    (Instr.lookup 125 (.map (some m)) (.int .i64 k) true).run Try.prog w = .ok (.tuple #[shpV (shpOf k).1, .bool (shpOf k).2]) w := by
  rcases h.look klInt Try.underlying125 (zero_shape w) ⟨k, rfl⟩ with ⟨hrun, hno⟩ | ⟨v, hv, hrun⟩
  · have h1 : k ≠ 1 := fun e => hno _ (.head _) (by rw [e])
    have h2 : k ≠ 2 := fun e => hno _ (.tail _ (.head _)) (by rw [e])
    have h3 : k ≠ 3 := fun e => hno _ (.tail _ (.tail _ (.head _))) (by rw [e])
    have h4 : k ≠ 4 := fun e => hno _ (.tail _ (.tail _ (.tail _ (.head _)))) (by rw [e])
    have h5 : k ≠ 5 := fun e => hno _ (.tail _ (.tail _ (.tail _ (.tail _ (.head _))))) (by rw [e])
    rw [hrun]
    simp [shpOf, shapeF, h1, h2, h3, h4, h5]
  · rw [hrun]
    simp only [shapeL, List.mem_cons, Prod.mk.injEq, Value.int.injEq, true_and, List.not_mem_nil, or_false] at hv
    rcases hv with ⟨rfl, rfl⟩ | ⟨rfl, rfl⟩ | ⟨rfl, rfl⟩ | ⟨rfl, rfl⟩ | ⟨rfl, rfl⟩ <;> rfl
end Go.Proofs.Ytkmgbejhbkbaoaa

/- The program's check: what stands by itself. -/
namespace Go.Proofs.Ytkmgbejhbkbaoaa
set_option linter.unusedSimpArgs false
set_option linter.unusedVariables false
open Go.RowKit

/-- a phi, an instruction, an end: what is asked of it, what it makes, where it stands -/
structure Thg where
  pre : List Ck
  mks : List Int
  b : Int
  p : Int
def thgsC (params : Int) : Mk → List Thg → List Ck
  | _, [] => []
  | mk, t :: ts => t.pre ++ (allC params mk t.mks t.b t.p ++ thgsC params (mkAll mk t.mks t.b t.p) ts)
def mkAfter (mk : Mk) (ts : List Thg) : Mk := ts.foldl (fun mk t => mkAll mk t.mks t.b t.p) mk
def phiT (b : Nat) (x : JBlock) (i : Nat) : Thg := ⟨[], [(x.phis.getD i default).dst], b, -1 - i⟩
def insT (b : Nat) (x : JBlock) (i : Nat) : Thg :=
  let s := x.ins.getD i default
  ⟨[(decide (1 ≤ s.op ∧ s.op ≤ 18), (10, b, i)), (decide ((opersF s.op).1 ≤ s.args.length ∧ s.args.length ≤ (opersF s.op).2), (10, b, i))], makesF s, b, i⟩
def termOk (t : JTerm) : Bool :=
  match shapeF t.kind with
  | none => false
  | some s => decide (s.1 ≤ t.args.length ∧ t.args.length ≤ s.2.1) && decide (s.2.2.1 ≤ t.to.length ∧ t.to.length ≤ s.2.2.2)
theorem shp_bound (k : Int) : (shpOf k).1.2.2.2 ≤ 65 := by
  unfold shpOf
  have key : ∀ s, shapeF k = some s → s.2.2.2 ≤ 65 := by
    intro s h
    unfold shapeF at h
    repeat' split at h
    all_goals (first | (injection h with h; subst h; decide) | cases h)
  cases h : shapeF k with
  | none => simp
  | some s => exact key s h
theorem termOk_eq (t : JTerm) : termOk t = ((shpOf t.kind).2 && (decide ((shpOf t.kind).1.1 ≤ t.args.length ∧ t.args.length ≤ (shpOf t.kind).1.2.1) && decide ((shpOf t.kind).1.2.2.1 ≤ t.to.length ∧ t.to.length ≤ (shpOf t.kind).1.2.2.2))) := by
  unfold termOk shpOf
  cases shapeF t.kind with
  | none => rfl
  | some s => simp
def toC (n b : Nat) (x : JBlock) (to : List Int) : List Ck := to.map fun t => (decide (1 ≤ t ∧ t ≤ (n : Int) - 1), (14, (b : Int), (x.ins.length : Int)))
def termT (n b : Nat) (x : JBlock) : Thg := ⟨(termOk x.term, (10, b, x.ins.length)) :: toC n b x x.term.to, [], b, x.ins.length⟩
def phisT (b : Nat) (x : JBlock) : List Thg := (List.range x.phis.length).map (phiT b x)
def inssT (b : Nat) (x : JBlock) : List Thg := (List.range x.ins.length).map (insT b x)
def blockT (n b : Nat) (x : JBlock) : List Thg := phisT b x ++ (inssT b x ++ [termT n b x])
def blocksT (bs : List JBlock) : List (List Thg) := (List.range bs.length).map fun b => blockT bs.length b (bs.getD b default)
def shapeC (params : Int) (bs : List JBlock) : List Ck := thgsC params [] (blocksT bs).flatten
theorem drop_map_range {α : Type} (n i : Nat) (F : Nat → α) (hi : i < n) : ((List.range n).map F).drop i = F i :: ((List.range n).map F).drop (i + 1) := by
  rw [List.drop_eq_getElem_cons (by simpa using hi)]; simp
theorem drop_map_len {α : Type} (n : Nat) (F : Nat → α) : ((List.range n).map F).drop n = [] := by simp
theorem thgsC_cons (params : Int) (mk : Mk) (t : Thg) (ts : List Thg) : thgsC params mk (t :: ts) = t.pre ++ (allC params mk t.mks t.b t.p ++ thgsC params (mkAll mk t.mks t.b t.p) ts) := rfl

/-- an element's cells, where its slice begins -/
theorem SlR.cells {α : Type} {d : Kd α} {e : TypeId} {w : World} {S : List Nat} {A : Option Addr} {n c : Nat} {xs : List α} (h : SlR d e w S (.slice A n c) xs) (i : Nat) (hi : i < xs.length) :
    ∃ g Si cs, A = some ⟨g, 0, none⟩ ∧ g ∈ S ∧ (∀ k ∈ Si, k ∈ S) ∧ d.rep w Si xs[i] cs ∧ ∀ j u, cs[j]? = some u → w.cell? ⟨g, i * d.sz + j, none⟩ = some u := by
  obtain ⟨g, cap, Sb, cs, hv, hg, hs, hr, hc, _⟩ := h.get i hi
  injection hv with e1
  exact ⟨g, Sb, cs, e1, hg, hs, hr, hc⟩
end Go.Proofs.Ytkmgbejhbkbaoaa

/- The program's check: shape, walked. -/
namespace Go.Proofs.Ytkmgbejhbkbaoaa
set_option linter.unusedSimpArgs false
set_option linter.unusedVariables false
open Go.RowKit

set_option maxRecDepth 20000 in
set_option maxHeartbeats 1600000 in
theorem shape_calls {w : World} {q m : Nat} {params : Int} {vb : Value} {S : List Nat} {bs : List JBlock} (h : Look w q m params vb []) (hb : SlR kBlock 43 w S vb bs) (hm : m ∉ S) (hn : bs.length ≤ 512)
    (hp : ∀ x ∈ bs, x.phis.length ≤ 4096 ∧ x.ins.length ≤ 4096) :
    Calls Try.prog 50 #[.pointer (some ⟨q, 0, none⟩)] w fun e w' =>
      e = endC (runC (shapeC params bs)) ∧ Ext [m] w w' ∧ (runC (shapeC params bs) = none → Look w' q m params vb (mkAfter [] (blocksT bs).flatten)) := by
  obtain ⟨A, c, rfl, hcap⟩ := hb.shape
  have c0 := h.cl.cell (i := 1) rfl
  have hr0 : Hid (runC (shapeC params bs) = runC (thgsC params [] ((blocksT bs).drop 0).flatten)) := rfl
  have hml : m < w.heap.size := h.mp.lt
  have hql : q < w.heap.size := h.cl.lt
  go_enter Try.func50, Try.ntmps50
  go_wp2
  go_loopg [20] bs.length (fun k vi wr => ∃ (i : Nat) (mk : Mk), vi = .int .i64 (i : Int) ∧ i ≤ bs.length ∧ Hid (i + k = bs.length) ∧ Ext [m] w wr ∧ Look wr q m params (.slice A bs.length c) mk ∧
    Hid (runC (shapeC params bs) = runC (thgsC params mk ((blocksT bs).drop i).flatten)) ∧ Hid (mkAfter [] (blocksT bs).flatten = mkAfter mk ((blocksT bs).drop i).flatten))
  case atStart => exact ⟨0, [], rfl, by omega, by simp [Hid], Ext.refl _ _, h, hr0, rfl⟩
  case round =>
    obtain ⟨i, mk, rfl, hi, HK, hx, hlk, hr, hmk⟩ := hrel
    clear hr0
    by_cases hlt : i < bs.length
    · have hbw := hb.ext hx (fun k hk h => by simp at h; exact hm (h ▸ hk))
      obtain ⟨g, _, Ap, cp, Ai, ci, Aa, ca, At, ct, Sb, Sp, Si, Sa, St, hv, hg, hsub, hbc, b0, b1, b2, b3, b4, b5⟩ := FnR.block hbw i hlt
      cases hv
      have hdr : (blocksT bs).drop i = blockT bs.length i bs[i] :: (blocksT bs).drop (i + 1) := by
        rw [blocksT, drop_map_range _ _ _ hlt]; simp [List.getD, hlt]
      rw [hdr, List.flatten_cons] at hr hmk
      clear hdr
      obtain ⟨hp1, hp2⟩ := hp bs[i] (List.getElem_mem hlt)
      have hmS : ∀ k ∈ Sb, k ≠ m := fun k hk h => hm (h ▸ hsub k hk)
      generalize bs[i] = x at *
      generalize hB : (blocksT bs).drop (i + 1) = B at *
      have HB := Lib.hid hB
      clear hB
      have hszr := hx.size
      obtain ⟨w1, hw1⟩ : ∃ w1, w1 = wr.alloc (.cells #[.slice Ap x.phis.length cp, .slice Ai x.ins.length ci, .int .i64 x.term.kind, .slice Aa x.term.args.length ca, .slice At x.term.to.length ct, .int .i32 x.term.imm] 43) := ⟨_, rfl⟩
      have hxa : Ext [] wr w1 := by rw [hw1]; exact (Ext.refl _ _).alloc _
      have hblk : Blk w1 wr.heap.size 43 #[.slice Ap x.phis.length cp, .slice Ai x.ins.length ci, .int .i64 x.term.kind, .slice Aa x.term.args.length ca, .slice At x.term.to.length ct, .int .i32 x.term.imm] := by rw [hw1]; exact Blk.new _ _ _
      have hbc1 := hbc.move (w' := w1) (fun k hk => hxa.block k (hbc.lt k hk) (by simp))
      have hlk1 := hlk.ext0 hxa
      have hx1 : Ext [m] w w1 := hx.same (hxa.mono (by simp))
      have d0 := hblk.cell (i := 0) rfl
      generalize hgb : wr.heap.size = gb at *
      have hne : gb ≠ m := by omega
      go_wp2
      rw [← hw1]
      clear hw1 b0 b1 b2 b3 b4 b5
      obtain ⟨q0, hq0⟩ : ∃ x, x = gk := ⟨_, rfl⟩
      subst hq0
      obtain ⟨R, hR⟩ : ∃ R, R = (inssT i x ++ [termT bs.length i x]) ++ B.flatten := ⟨_, rfl⟩
      have hbt : blockT bs.length i x ++ B.flatten = (phisT i x).drop 0 ++ R := by rw [hR, blockT]; simp
      rw [hbt] at hr hmk
      have HR := Lib.hid hR
      clear hbt hR
      go_loopg [28] x.phis.length (fun k vi wr2 => ∃ (j : Nat) (mk' : Mk), vi = .int .i64 (j : Int) ∧ j ≤ x.phis.length ∧ Hid (j + k = x.phis.length) ∧ Ext [m] w1 wr2 ∧ Look wr2 q m params (.slice (some ⟨g, 0, none⟩) bs.length c) mk' ∧
        Hid (runC (shapeC params bs) = runC (thgsC params mk' ((phisT i x).drop j ++ R))) ∧ Hid (mkAfter [] (blocksT bs).flatten = mkAfter mk' ((phisT i x).drop j ++ R)))
      case atStart => exact ⟨0, mk, rfl, by omega, by simp [Hid], Ext.refl _ _, hlk1, hr, hmk⟩
      case round =>
        obtain ⟨j, mk', rfl, hj, HK2, hx2, hlk2, hr2, hmk2⟩ := hrel
        clear hr hmk
        by_cases hlt2 : j < x.phis.length
        · obtain ⟨gp, Sj, cs, rfl, hgp, _, ⟨vj, rfl, hvj⟩, hcj⟩ := (hbc1.p.ext hx2 (fun k hk h => by simp at h; exact hmS k (by rw [hbc1.s]; simp [hk]) h)).cells j hlt2
          have e0 := hcj 0 _ rfl
          have e1 := hcj 1 _ rfl
          simp only [kPhi, Nat.add_zero] at e0 e1
          have hph : (phisT i x).drop j = ⟨[], [x.phis[j].dst], i, -1 - j⟩ :: (phisT i x).drop (j + 1) := by
            rw [phisT, drop_map_range _ _ _ hlt2]; simp [phiT, List.getD, hlt2]
          rw [hph, List.cons_append, thgsC_cons, List.nil_append, runC_append] at hr2
          rw [hph, List.cons_append] at hmk2
          have hmk3 : Hid (mkAfter [] (blocksT bs).flatten = mkAfter (mkAll mk' [x.phis[j].dst] i (-1 - j)) ((phisT i x).drop (j + 1) ++ R)) := hmk2
          clear hph hcj hmk2
          generalize x.phis[j].dst = dst at *
          obtain ⟨Av, cv, rfl, _⟩ := hvj.shape
          have hsz2 := hx2.size
          go_wp2_with fail
          obtain ⟨w2, hw2⟩ : ∃ w2, w2 = (wr.alloc (.cells #[.int .i64 dst, .slice Av x.phis[j].ins.length cv] 46)).alloc (.cells #[.int .i64 dst] 3) := ⟨_, rfl⟩
          have hxb : Ext [] wr w2 := by rw [hw2]; exact ((Ext.refl _ _).alloc _).alloc _
          have hsl : SlR kInt 3 w2 [wr.heap.size + 1] (.slice (some ⟨wr.heap.size + 1, 0, none⟩) 1 1) [dst] := by
            have := made_lit (w := wr.alloc (.cells #[.int .i64 dst, .slice Av x.phis[j].ins.length cv] 46)) (x := [dst]) (by simp) (by simp)
            rw [hw2]; simpa using this
          rw [← hw2]
          clear hw2 e0 e1
          refine (all_calls (hlk2.ext0 hxb) hsl (by simp; have := hx1.size; omega) (by simp) i (-1 - j)).mono ?_
          rintro e w3 ⟨rfl, hx3, hlk3⟩
          have hx4 : Ext [m] w1 w3 := (hx2.same (hxb.mono (by simp))).same hx3
          cases hd : runC (allC params mk' [dst] i (-1 - j)) with
          | none =>
            have hlk4 := hlk3 hd
            rw [hd] at hr2
            simp only [endC] at hr2 ⊢
            go_wp2
            go_roundg (gk - 1)
            case measure => have := HK2.out; omega
            case rel => exact ⟨j + 1, _, by go_num, by omega, by have := HK2.out; simp only [Hid]; omega, hx4, hlk4, hr2, hmk3⟩
          | some t =>
            rw [hd] at hr2
            simp only [endC] at hr2 ⊢
            go_wp2
            exact ⟨rfl, by rw [hr2.out]; rfl, hx1.same hx4, fun h => by rw [hr2.out] at h; cases h⟩
        · have hje : j = x.phis.length := by omega
          subst hje
          have hde : (phisT i x).drop x.phis.length = [] := drop_map_len _ _
          rw [hde, List.nil_append] at hr2 hmk2
          obtain ⟨R2, hR2⟩ : ∃ R2, R2 = [termT bs.length i x] ++ B.flatten := ⟨_, rfl⟩
          have hbt : R = (inssT i x).drop 0 ++ R2 := by rw [hR2, HR.out]; simp
          rw [hbt] at hr2 hmk2
          have HR2 := Lib.hid hR2
          clear hbt hR2 hde HR hlk1
          have d1 := (hblk.ext hx2 (by simpa using hne)).cell (i := 1) rfl
          obtain ⟨wp, hwp⟩ : ∃ x, x = wr := ⟨_, rfl⟩
          subst hwp
          go_wp2
          go_loopg [45] x.ins.length (fun k vi wr2 => ∃ (j : Nat) (mk' : Mk), vi = .int .i64 (j : Int) ∧ j ≤ x.ins.length ∧ Hid (j + k = x.ins.length) ∧ Ext [m] w1 wr2 ∧ Look wr2 q m params (.slice (some ⟨g, 0, none⟩) bs.length c) mk' ∧
            Hid (runC (shapeC params bs) = runC (thgsC params mk' ((inssT i x).drop j ++ R2))) ∧ Hid (mkAfter [] (blocksT bs).flatten = mkAfter mk' ((inssT i x).drop j ++ R2)))
          case atStart => exact ⟨0, mk', rfl, by omega, by simp [Hid], hx2, hlk2, hr2, hmk2⟩
          case round =>
            obtain ⟨j, mk', rfl, hj, HK2, hx2, hlk2, hr2, hmk2⟩ := hrel
            by_cases hlt2 : j < x.ins.length
            · obtain ⟨gi, Sj, cs, rfl, hgi, hSj, hrep, hcj⟩ := (hbc1.i.ext hx2 (fun k hk h => by simp at h; exact hmS k (by rw [hbc1.s]; simp [hk]) h)).cells j hlt2
              have hin : (inssT i x).drop j = insT i x j :: (inssT i x).drop (j + 1) := by
                rw [inssT, drop_map_range _ _ _ hlt2]
              have hit : insT i x j = ⟨[(decide (1 ≤ x.ins[j].op ∧ x.ins[j].op ≤ 18), (10, i, j)), (decide ((opersF x.ins[j].op).1 ≤ x.ins[j].args.length ∧ x.ins[j].args.length ≤ (opersF x.ins[j].op).2), (10, i, j))], makesF x.ins[j], i, j⟩ := by
                simp [insT, List.getD, hlt2]
              rw [hin, hit] at hr2 hmk2
              clear hin hit
              generalize x.ins[j] = s at *
              obtain ⟨vj, rfl, hvj⟩ := hrep
              obtain ⟨Av, cv, rfl, _⟩ := hvj.shape
              have e0 := hcj 0 _ rfl
              have e1 := hcj 1 _ rfl
              have e2 := hcj 2 _ rfl
              have e3 := hcj 3 _ rfl
              have e4 := hcj 4 _ rfl
              simp only [kIns, Nat.add_zero] at e0 e1 e2 e3 e4
              rw [List.cons_append, thgsC_cons] at hr2
              rw [List.cons_append] at hmk2
              simp only [List.cons_append, List.nil_append] at hr2
              have hmk3 : Hid (mkAfter [] (blocksT bs).flatten = mkAfter (mkAll mk' (makesF s) i j) ((inssT i x).drop (j + 1) ++ R2)) := hmk2
              clear hcj hmk2
              obtain ⟨w2, hw2⟩ : ∃ w2, w2 = wr.alloc (.cells #[.int .i64 s.op, .int .i64 s.dst, .int .i64 s.two, .slice Av s.args.length cv, .int .i32 s.imm] 54) := ⟨_, rfl⟩
              have hxb : Ext [] wr w2 := by rw [hw2]; exact (Ext.refl _ _).alloc _
              have hbi : Blk w2 wr.heap.size 54 #[.int .i64 s.op, .int .i64 s.dst, .int .i64 s.two, .slice Av s.args.length cv, .int .i32 s.imm] := by rw [hw2]; exact Blk.new _ _ _
              have hsz2 := hx2.size
              have hsz1 := hx1.size
              go_wp2_with fail
              rw [← hw2]
              refine (within_calls w2 s.op 1 18).mono ?_
              rintro e w2' ⟨rfl, rfl⟩
              have f0 := hbi.cell (i := 0) rfl
              have f1 := hbi.cell (i := 1) rfl
              have f2 := hbi.cell (i := 2) rfl
              have f3 := hbi.cell (i := 3) rfl
              have f4 := hbi.cell (i := 4) rfl
              clear hw2 e0 e1 e2 e3 e4
              cases hd : decide (1 ≤ s.op ∧ s.op ≤ 18) with
              | false =>
                rw [hd, runC_false] at hr2
                go_wp2_with fail
                refine (must_calls _ false (10, (i : Int), (j : Int))).mono ?_
                rintro e w3 ⟨rfl, rfl⟩
                simp only [runC, endC]
                go_wp2
                exact ⟨rfl, by rw [hr2.out]; rfl, (hx1.same hx2).same (hxb.mono (by simp)), fun h => by rw [hr2.out] at h; cases h⟩
              | true =>
                rw [hd, runC_true] at hr2
                clear hd
                go_wp2_with fail
                refine (must_calls _ true (10, (i : Int), (j : Int))).mono ?_
                rintro e w3 ⟨rfl, rfl⟩
                simp only [runC, endC]
                go_wp2_with fail
                refine (operands_calls _ s.op).mono ?_
                rintro e w3 ⟨rfl, rfl⟩
                generalize opersF s.op = oo at *
                go_wp2_with fail
                refine (within_calls _ (s.args.length : Int) oo.1 oo.2).mono ?_
                rintro e w3 ⟨rfl, rfl⟩
                cases hd : decide (oo.1 ≤ (s.args.length : Int) ∧ (s.args.length : Int) ≤ oo.2) with
                | false =>
                  rw [hd, runC_false] at hr2
                  go_wp2_with fail
                  refine (must_calls _ false (10, (i : Int), (j : Int))).mono ?_
                  rintro e w3 ⟨rfl, rfl⟩
                  simp only [runC, endC]
                  go_wp2
                  exact ⟨rfl, by rw [hr2.out]; rfl, (hx1.same hx2).same (hxb.mono (by simp)), fun h => by rw [hr2.out] at h; cases h⟩
                | true =>
                  rw [hd, runC_true, runC_append] at hr2
                  clear hd
                  go_wp2_with fail
                  refine (must_calls _ true (10, (i : Int), (j : Int))).mono ?_
                  rintro e w3 ⟨rfl, rfl⟩
                  simp only [runC, endC]
                  go_wp2_with fail
                  refine (makes_calls (x := s) (S := Sj) ⟨_, rfl, hvj.ext0 hxb⟩).mono ?_
                  rintro e w4 ⟨v4, S4, rfl, hs4, hnew4⟩
                  obtain ⟨A4, c4, rfl, _⟩ := hs4.shape
                  have hx4 : Ext [] wr w4 := hxb.nil hnew4.ext
                  have hm4 : m ∉ S4 := fun h => by have := hnew4.fresh _ h; have := hxb.size; omega
                  have hml4 : (makesF s).length ≤ 1073741824 := by
                    unfold makesF; split
                    · simp
                    · split <;> simp
                  go_wp2_with fail
                  refine (all_calls (hlk2.ext0 hx4) hs4 hm4 hml4 i j).mono ?_
                  rintro e w5 ⟨rfl, hx5, hlk5⟩
                  have hx6 : Ext [m] w1 w5 := (hx2.same (hx4.mono (by simp))).same hx5
                  cases hd : runC (allC params mk' (makesF s) i j) with
                  | none =>
                    have hlk6 := hlk5 hd
                    rw [hd] at hr2
                    simp only [endC] at hr2 ⊢
                    go_wp2
                    go_roundg (gk - 1)
                    case measure => have := HK2.out; omega
                    case rel => exact ⟨j + 1, _, by go_num, by omega, by have := HK2.out; simp only [Hid]; omega, hx6, hlk6, hr2, hmk3⟩
                  | some t =>
                    rw [hd] at hr2
                    simp only [endC] at hr2 ⊢
                    go_wp2
                    exact ⟨rfl, by rw [hr2.out]; rfl, hx1.same hx6, fun h => by rw [hr2.out] at h; cases h⟩
            · have hje : j = x.ins.length := by omega
              subst hje
              have hde : (inssT i x).drop x.ins.length = [] := drop_map_len _ _
              rw [hde, List.nil_append, HR2.out] at hr2 hmk2
              simp only [List.cons_append, List.nil_append] at hr2 hmk2
              rw [thgsC_cons] at hr2
              have hmk3 : Hid (mkAfter [] (blocksT bs).flatten = mkAfter mk' B.flatten) := by
                rw [Hid, hmk2.out]; simp [mkAfter, termT, mkAll]
              have hr3 : Hid (runC (shapeC params bs) = runC ((termOk x.term, (10, (i : Int), (x.ins.length : Int))) :: (toC bs.length i x x.term.to ++ thgsC params mk' B.flatten))) := by
                rw [Hid, hr2.out]; simp [termT, allC, makeC, onceC, mkAll]
              clear hr2 hmk2 hde HR2
              go_wp2
              have d2 := (hblk.ext hx2 (by simpa using hne)).cell (i := 2) rfl
              have hszw : m < wr.heap.size := by have := hx2.size; have := hxa.size; omega
              have hgw : gb < wr.heap.size := (hblk.ext hx2 (by simpa using hne)).lt
              have hlook : ∀ (W : World) (m2 : Nat), MapR KpI W m2 shapeL → _ := fun W m2 h => shape_look h x.term.kind
              rw [termOk_eq] at hr3
              have hk65 := shp_bound x.term.kind
              generalize hks : shpOf x.term.kind = ks at *
              refine wp_region_rt (fun W => W.cell? ⟨gb, 2, none⟩ = some (.int .i64 x.term.kind)) (.q 1 (.q 2 (.q 3 (.b 0 (.b 4 (.q 5 (.q 6 (.q 7 (.e 8 (.e 9 (.fin 10)))))) 8 (.e 4 (.q 5 (.q 6 (.q 7 (.e 9 (.fin 10))))))) 8 (.e 0 (.e 4 (.q 5 (.q 6 (.q 7 (.e 9 (.fin 10))))))))))) (by kernel_rfl) (by kernel_rfl) d2 ?_
              apply rt_via (F := fun m2 g2 W => Blk W g2 123 #[.int .i64 ks.1.1, .int .i64 ks.1.2.1, .int .i64 ks.1.2.2.1, .int .i64 ks.1.2.2.2] ∧ Ext [] wr W ∧ wr.heap.size ≤ g2)
              case h =>
                refine rt_quiet (.pointer (some ⟨gb, 2, none⟩)) rfl rfl (fun W' hC => by simp [go_sem]) ?_
                simp only [put_lit, put_none, List.set_cons_succ, List.set_cons_zero]
                refine rt_quiet (.pointer (some ⟨gb, 2, none⟩)) rfl rfl (fun W' hC => by simp [go_sem]) ?_
                simp only [put_lit, put_none, List.set_cons_succ, List.set_cons_zero]
                refine rt_quiet (.int .i64 x.term.kind) rfl rfl (fun W' hC => by simp [go_sem, hC]) ?_
                simp only [put_lit, put_none, List.set_cons_succ, List.set_cons_zero]
                refine ⟨?_, ?_⟩
                · refine s_call (w' := wr.drew) rfl rfl (by simp [go_sem]) ((shapes_calls wr.drew).mono ?_)
                  rintro e W1 ⟨rfl, HM, HX⟩
                  have HX1 : Ext [] wr W1 := ((Ext.refl [] wr).drew).nil HX
                  have HC := HX1.cell d2 (by simp)
                  have HL := hlook W1 wr.heap.size HM
                  refine ⟨_, rfl, HC, ?_⟩
                  simp only [put_lit, put_none, List.set_cons_succ, List.set_cons_zero]
                  refine ⟨?_, ?_⟩
                  · refine s_eff (w' := W1) (.tuple #[shpV ks.1, .bool ks.2]) rfl rfl (by simp [go_sem, HL]) ⟨HC, ?_⟩
                    simp only [put_lit, put_none, List.set_cons_succ, List.set_cons_zero]
                    refine rt_quiet ((.tuple #[shpV ks.1, .bool ks.2])) rfl rfl (fun W' hC => by simp [go_sem]) ?_
                    simp only [put_lit, put_none, List.set_cons_succ, List.set_cons_zero]
                    refine rt_quiet (shpV ks.1) rfl rfl (fun W' hC => by simp [go_sem]) ?_
                    simp only [put_lit, put_none, List.set_cons_succ, List.set_cons_zero]
                    refine rt_quiet (.bool ks.2) rfl rfl (fun W' hC => by simp [go_sem]) ?_
                    simp only [put_lit, put_none, List.set_cons_succ, List.set_cons_zero]
                    refine s_eff (w' := W1.alloc (.cells #[.int .i64 0, .int .i64 0, .int .i64 0, .int .i64 0] 123)) (.pointer (some ⟨W1.heap.size, 0, none⟩)) rfl rfl (by simp [go_sem]) ⟨((Ext.refl [] W1).alloc _).cell HC (by simp), ?_⟩
                    simp only [put_lit, put_none, List.set_cons_succ, List.set_cons_zero]
                    refine s_eff0 (w' := W1.alloc (.cells #[.int .i64 ks.1.1, .int .i64 ks.1.2.1, .int .i64 ks.1.2.2.1, .int .i64 ks.1.2.2.2] 123)) rfl rfl (by simp [go_sem, shpV]) ⟨((Ext.refl [] W1).alloc _).cell HC (by simp), ?_⟩
                    simp only [put_lit, put_none, List.set_cons_succ, List.set_cons_zero]
                    refine fin_eff (w' := W1.alloc (.cells #[.int .i64 ks.1.1, .int .i64 ks.1.2.1, .int .i64 ks.1.2.2.1, .int .i64 ks.1.2.2.2] 123)) (.bool ks.2) rfl rfl (by simp [go_sem]) ?_
                    simp only [put_lit, put_none, List.set_cons_succ, List.set_cons_zero]
                    have hBk : Blk (W1.alloc (.cells #[.int .i64 ks.1.1, .int .i64 ks.1.2.1, .int .i64 ks.1.2.2.1, .int .i64 ks.1.2.2.2] 123)) (W1.heap.size) 123 #[.int .i64 ks.1.1, .int .i64 ks.1.2.1, .int .i64 ks.1.2.2.1, .int .i64 ks.1.2.2.2] := Blk.new _ _ _
                    have hEx : Ext [] wr (W1.alloc (.cells #[.int .i64 ks.1.1, .int .i64 ks.1.2.1, .int .i64 ks.1.2.2.1, .int .i64 ks.1.2.2.2] 123)) := HX1.alloc _
                    have hLe : wr.heap.size ≤ W1.heap.size := HX1.size
                    generalize wr.drew.heap.size = m2 at *
                    generalize W1.heap.size = g2 at *
                    exact ⟨by trivial, m2, g2, rfl, hBk, hEx, hLe⟩
                  · refine s_eff (w' := W1.alloc (.cells #[.int .i64 0, .int .i64 0, .int .i64 0, .int .i64 0] 123)) (.pointer (some ⟨W1.heap.size, 0, none⟩)) rfl rfl (by simp [go_sem]) ⟨((Ext.refl [] W1).alloc _).cell HC (by simp), ?_⟩
                    simp only [put_lit, put_none, List.set_cons_succ, List.set_cons_zero]
                    have HL2 := hlook (W1.alloc (.cells #[.int .i64 0, .int .i64 0, .int .i64 0, .int .i64 0] 123)) wr.heap.size (HM.ext ((Ext.refl [] W1).alloc _) (by simp))
                    refine s_eff (w' := W1.alloc (.cells #[.int .i64 0, .int .i64 0, .int .i64 0, .int .i64 0] 123)) (.tuple #[shpV ks.1, .bool ks.2]) rfl rfl (by simp [go_sem, HL2]) ⟨((Ext.refl [] W1).alloc _).cell HC (by simp), ?_⟩
                    simp only [put_lit, put_none, List.set_cons_succ, List.set_cons_zero]
                    refine rt_quiet ((.tuple #[shpV ks.1, .bool ks.2])) rfl rfl (fun W' hC => by simp [go_sem]) ?_
                    simp only [put_lit, put_none, List.set_cons_succ, List.set_cons_zero]
                    refine rt_quiet (shpV ks.1) rfl rfl (fun W' hC => by simp [go_sem]) ?_
                    simp only [put_lit, put_none, List.set_cons_succ, List.set_cons_zero]
                    refine rt_quiet (.bool ks.2) rfl rfl (fun W' hC => by simp [go_sem]) ?_
                    simp only [put_lit, put_none, List.set_cons_succ, List.set_cons_zero]
                    refine s_eff0 (w' := W1.alloc (.cells #[.int .i64 ks.1.1, .int .i64 ks.1.2.1, .int .i64 ks.1.2.2.1, .int .i64 ks.1.2.2.2] 123)) rfl rfl (by simp [go_sem, shpV]) ⟨((Ext.refl [] W1).alloc _).cell HC (by simp), ?_⟩
                    simp only [put_lit, put_none, List.set_cons_succ, List.set_cons_zero]
                    refine fin_eff (w' := W1.alloc (.cells #[.int .i64 ks.1.1, .int .i64 ks.1.2.1, .int .i64 ks.1.2.2.1, .int .i64 ks.1.2.2.2] 123)) (.bool ks.2) rfl rfl (by simp [go_sem]) ?_
                    simp only [put_lit, put_none, List.set_cons_succ, List.set_cons_zero]
                    have hBk : Blk (W1.alloc (.cells #[.int .i64 ks.1.1, .int .i64 ks.1.2.1, .int .i64 ks.1.2.2.1, .int .i64 ks.1.2.2.2] 123)) (W1.heap.size) 123 #[.int .i64 ks.1.1, .int .i64 ks.1.2.1, .int .i64 ks.1.2.2.1, .int .i64 ks.1.2.2.2] := Blk.new _ _ _
                    have hEx : Ext [] wr (W1.alloc (.cells #[.int .i64 ks.1.1, .int .i64 ks.1.2.1, .int .i64 ks.1.2.2.1, .int .i64 ks.1.2.2.2] 123)) := HX1.alloc _
                    have hLe : wr.heap.size ≤ W1.heap.size := HX1.size
                    generalize wr.drew.heap.size = m2 at *
                    generalize W1.heap.size = g2 at *
                    exact ⟨by trivial, m2, g2, rfl, hBk, hEx, hLe⟩
                · refine s_eff (w' := wr.drew.alloc (.cells #[.int .i64 0, .int .i64 0, .int .i64 0, .int .i64 0] 123)) (.pointer (some ⟨wr.drew.heap.size, 0, none⟩)) rfl rfl (by simp [go_sem]) ⟨((Ext.refl [] wr).drew.alloc _).cell d2 (by simp), ?_⟩
                  simp only [put_lit, put_none, List.set_cons_succ, List.set_cons_zero]
                  refine s_call (w' := wr.drew.alloc (.cells #[.int .i64 0, .int .i64 0, .int .i64 0, .int .i64 0] 123)) rfl rfl (by simp [go_sem]) ((shapes_calls _).mono ?_)
                  rintro e W1 ⟨rfl, HM, HX⟩
                  have HX1 : Ext [] wr W1 := ((Ext.refl [] wr).drew.alloc _).nil HX
                  have HC := HX1.cell d2 (by simp)
                  have HL := hlook W1 (wr.heap.size + 1) (by simpa using HM)
                  have HB0 : Blk W1 wr.heap.size 123 #[.int .i64 0, .int .i64 0, .int .i64 0, .int .i64 0] := (Blk.new wr.drew #[.int .i64 0, .int .i64 0, .int .i64 0, .int .i64 0] 123).ext HX (by simp)
                  refine ⟨_, rfl, HC, ?_⟩
                  simp only [put_lit, put_none, List.set_cons_succ, List.set_cons_zero]
                  refine s_eff (w' := W1) (.tuple #[shpV ks.1, .bool ks.2]) rfl rfl (by simp [go_sem, HL]) ⟨HC, ?_⟩
                  simp only [put_lit, put_none, List.set_cons_succ, List.set_cons_zero]
                  refine rt_quiet ((.tuple #[shpV ks.1, .bool ks.2])) rfl rfl (fun W' hC => by simp [go_sem]) ?_
                  simp only [put_lit, put_none, List.set_cons_succ, List.set_cons_zero]
                  refine rt_quiet (shpV ks.1) rfl rfl (fun W' hC => by simp [go_sem]) ?_
                  simp only [put_lit, put_none, List.set_cons_succ, List.set_cons_zero]
                  refine rt_quiet (.bool ks.2) rfl rfl (fun W' hC => by simp [go_sem]) ?_
                  simp only [put_lit, put_none, List.set_cons_succ, List.set_cons_zero]
                  have k0 := HB0.cell (i := 0) rfl
                  have k1 := HB0.cell (i := 1) rfl
                  have k2 := HB0.cell (i := 2) rfl
                  have k3 := HB0.cell (i := 3) rfl
                  have j0 := HB0.frozen 0
                  have j1 := HB0.frozen 1
                  have j2 := HB0.frozen 2
                  have j3 := HB0.frozen 3
                  have HEx4 : Ext [] wr ((((W1.setCell ⟨wr.heap.size, 0, none⟩ (.int .i64 ks.1.1)).setCell ⟨wr.heap.size, 1, none⟩ (.int .i64 ks.1.2.1)).setCell ⟨wr.heap.size, 2, none⟩ (.int .i64 ks.1.2.2.1)).setCell ⟨wr.heap.size, 3, none⟩ (.int .i64 ks.1.2.2.2)) := (((HX1.setCell (.inr (Nat.le_refl _)) _).setCell (.inr (Nat.le_refl _)) _).setCell (.inr (Nat.le_refl _)) _).setCell (.inr (Nat.le_refl _)) _
                  refine s_eff0 (w' := (((W1.setCell ⟨wr.heap.size, 0, none⟩ (.int .i64 ks.1.1)).setCell ⟨wr.heap.size, 1, none⟩ (.int .i64 ks.1.2.1)).setCell ⟨wr.heap.size, 2, none⟩ (.int .i64 ks.1.2.2.1)).setCell ⟨wr.heap.size, 3, none⟩ (.int .i64 ks.1.2.2.2)) rfl rfl (by simp [go_sem, shpV, k0, k1, k2, k3, j0, j1, j2, j3]) ⟨HEx4.cell d2 (by simp), ?_⟩
                  simp only [put_lit, put_none, List.set_cons_succ, List.set_cons_zero]
                  refine fin_eff (w' := (((W1.setCell ⟨wr.heap.size, 0, none⟩ (.int .i64 ks.1.1)).setCell ⟨wr.heap.size, 1, none⟩ (.int .i64 ks.1.2.1)).setCell ⟨wr.heap.size, 2, none⟩ (.int .i64 ks.1.2.2.1)).setCell ⟨wr.heap.size, 3, none⟩ (.int .i64 ks.1.2.2.2)) (.bool ks.2) rfl rfl (by simp [go_sem]) ?_
                  simp only [put_lit, put_none, List.set_cons_succ, List.set_cons_zero]
                  have hBk : Blk ((((W1.setCell ⟨wr.heap.size, 0, none⟩ (.int .i64 ks.1.1)).setCell ⟨wr.heap.size, 1, none⟩ (.int .i64 ks.1.2.1)).setCell ⟨wr.heap.size, 2, none⟩ (.int .i64 ks.1.2.2.1)).setCell ⟨wr.heap.size, 3, none⟩ (.int .i64 ks.1.2.2.2)) (wr.drew.heap.size) 123 #[.int .i64 ks.1.1, .int .i64 ks.1.2.1, .int .i64 ks.1.2.2.1, .int .i64 ks.1.2.2.2] := (((HB0.set 0 _).set 1 _).set 2 _).set 3 _
                  have hEx : Ext [] wr ((((W1.setCell ⟨wr.heap.size, 0, none⟩ (.int .i64 ks.1.1)).setCell ⟨wr.heap.size, 1, none⟩ (.int .i64 ks.1.2.1)).setCell ⟨wr.heap.size, 2, none⟩ (.int .i64 ks.1.2.2.1)).setCell ⟨wr.heap.size, 3, none⟩ (.int .i64 ks.1.2.2.2)) := HEx4
                  have hLe : wr.heap.size ≤ wr.drew.heap.size := Nat.le_refl _
                  generalize (wr.drew.alloc (.cells #[.int .i64 0, .int .i64 0, .int .i64 0, .int .i64 0] 123)).heap.size = m2 at *
                  generalize wr.drew.heap.size = g2 at *
                  exact ⟨by trivial, m2, g2, rfl, hBk, hEx, hLe⟩
              case k =>
                rintro m2 g2 W2 ⟨hBk, hEx, hLe⟩
                have hblk2 := (hblk.ext hx2 (by simpa using hne)).ext hEx (by simp)
                have hlk3 := hlk2.ext0 hEx
                have hx3 := hx2.same (hEx.mono (by simp))
                have hne2 : g2 ≠ m := by omega
                clear d2 hlk2 hlook
                go_wp2
                refine wp_region_rt (fun W => Blk W gb 43 #[.slice Ap x.phis.length cp, .slice Ai x.ins.length ci, .int .i64 x.term.kind, .slice Aa x.term.args.length ca, .slice At x.term.to.length ct, .int .i32 x.term.imm] ∧ Blk W g2 123 #[.int .i64 ks.1.1, .int .i64 ks.1.2.1, .int .i64 ks.1.2.2.1, .int .i64 ks.1.2.2.2]) (.q 0 (.q 1 (.q 2 (.q 3 (.q 4 (.q 5 (.q 6 (.q 7 (.q 8 (.q 9 (.q 23 (.q 24 (.q 25 (.q 26 (.e 10 (.q 11 (.q 12 (.q 13 (.q 14 (.q 15 (.q 16 (.q 17 (.q 18 (.q 19 (.q 20 (.e 21 (.q 22 (.fin 27)))))))))))))))))))))))))))) (by kernel_rfl) (by kernel_rfl) ⟨hblk2, hBk⟩ ?_
                have HC : Blk W2.drew gb 43 _ ∧ Blk W2.drew g2 123 _ := ⟨hblk2, hBk⟩
                cases hk2 : ks.2 with
                | false =>
                  rw [hk2, Bool.false_and] at hr3
                  rw [runC_false] at hr3
                  refine rt_quiet (.bool false) rfl rfl (fun W' hC => by simp [go_sem]) ?_
                  simp only [put_lit, put_none, List.set_cons_succ, List.set_cons_zero]
                  refine rt_quiet (.bool false) rfl rfl (fun W' hC => by simp [go_sem]) ?_
                  simp only [put_lit, put_none, List.set_cons_succ, List.set_cons_zero]
                  refine rt_skip rfl rfl ?_
                  simp only [put_lit, put_none, List.set_cons_succ, List.set_cons_zero]
                  refine rt_skip rfl rfl ?_
                  simp only [put_lit, put_none, List.set_cons_succ, List.set_cons_zero]
                  refine rt_skip rfl rfl ?_
                  simp only [put_lit, put_none, List.set_cons_succ, List.set_cons_zero]
                  refine rt_skip rfl rfl ?_
                  simp only [put_lit, put_none, List.set_cons_succ, List.set_cons_zero]
                  refine rt_skip rfl rfl ?_
                  simp only [put_lit, put_none, List.set_cons_succ, List.set_cons_zero]
                  refine rt_skip rfl rfl ?_
                  simp only [put_lit, put_none, List.set_cons_succ, List.set_cons_zero]
                  refine rt_skip rfl rfl ?_
                  simp only [put_lit, put_none, List.set_cons_succ, List.set_cons_zero]
                  refine rt_skip rfl rfl ?_
                  simp only [put_lit, put_none, List.set_cons_succ, List.set_cons_zero]
                  refine rt_quiet (.int .i64 (i : Int)) rfl rfl (fun W' hC => by simp [go_sem]) ?_
                  simp only [put_lit, put_none, List.set_cons_succ, List.set_cons_zero]
                  refine rt_quiet (.pointer (some ⟨gb, 1, none⟩)) rfl rfl (fun W' hC => by simp [go_sem]) ?_
                  simp only [put_lit, put_none, List.set_cons_succ, List.set_cons_zero]
                  refine rt_quiet (.slice Ai x.ins.length ci) rfl rfl (fun W' hC => by simp [go_sem, hC.1.cell (i := 1) rfl]) ?_
                  simp only [put_lit, put_none, List.set_cons_succ, List.set_cons_zero]
                  refine rt_quiet (.int .i64 (x.ins.length : Int)) rfl rfl (fun W' hC => by simp [go_sem]) ?_
                  simp only [put_lit, put_none, List.set_cons_succ, List.set_cons_zero]
                  refine s_skip rfl rfl ⟨HC, ?_⟩
                  simp only [put_lit, put_none, List.set_cons_succ, List.set_cons_zero]
                  refine rt_quiet (.bool false) rfl rfl (fun W' hC => by simp [go_sem]) ?_
                  simp only [put_lit, put_none, List.set_cons_succ, List.set_cons_zero]
                  refine rt_quiet (.bool false) rfl rfl (fun W' hC => by simp [go_sem]) ?_
                  simp only [put_lit, put_none, List.set_cons_succ, List.set_cons_zero]
                  refine rt_skip rfl rfl ?_
                  simp only [put_lit, put_none, List.set_cons_succ, List.set_cons_zero]
                  refine rt_skip rfl rfl ?_
                  simp only [put_lit, put_none, List.set_cons_succ, List.set_cons_zero]
                  refine rt_skip rfl rfl ?_
                  simp only [put_lit, put_none, List.set_cons_succ, List.set_cons_zero]
                  refine rt_skip rfl rfl ?_
                  simp only [put_lit, put_none, List.set_cons_succ, List.set_cons_zero]
                  refine rt_skip rfl rfl ?_
                  simp only [put_lit, put_none, List.set_cons_succ, List.set_cons_zero]
                  refine rt_skip rfl rfl ?_
                  simp only [put_lit, put_none, List.set_cons_succ, List.set_cons_zero]
                  refine rt_skip rfl rfl ?_
                  simp only [put_lit, put_none, List.set_cons_succ, List.set_cons_zero]
                  refine rt_skip rfl rfl ?_
                  simp only [put_lit, put_none, List.set_cons_succ, List.set_cons_zero]
                  refine s_skip rfl rfl ⟨HC, ?_⟩
                  simp only [put_lit, put_none, List.set_cons_succ, List.set_cons_zero]
                  refine rt_quiet (.bool false) rfl rfl (fun W' hC => by simp [go_sem]) ?_
                  simp only [put_lit, put_none, List.set_cons_succ, List.set_cons_zero]
                  refine fin_call (w' := W2.drew) rfl rfl (by simp [go_sem]) ((must_calls _ false (10, (i : Int), (x.ins.length : Int))).mono ?_)
                  rintro e W3 ⟨rfl, rfl⟩
                  refine .inr ⟨_, rfl, ?_⟩
                  simp only [endC, Exit.then]
                  go_wp2
                  exact ⟨rfl, by rw [hr3.out]; rfl, (hx1.same hx3).drew, fun h => by rw [hr3.out] at h; cases h⟩
                | true =>
                  rw [hk2, Bool.true_and] at hr3
                  refine rt_quiet (.bool true) rfl rfl (fun W' hC => by simp [go_sem]) ?_
                  simp only [put_lit, put_none, List.set_cons_succ, List.set_cons_zero]
                  refine rt_quiet (.bool true) rfl rfl (fun W' hC => by simp [go_sem]) ?_
                  simp only [put_lit, put_none, List.set_cons_succ, List.set_cons_zero]
                  refine rt_quiet (.pointer (some ⟨gb, 2, none⟩)) rfl rfl (fun W' hC => by simp [go_sem]) ?_
                  simp only [put_lit, put_none, List.set_cons_succ, List.set_cons_zero]
                  refine rt_quiet (.pointer (some ⟨gb, 3, none⟩)) rfl rfl (fun W' hC => by simp [go_sem]) ?_
                  simp only [put_lit, put_none, List.set_cons_succ, List.set_cons_zero]
                  refine rt_quiet (.slice Aa x.term.args.length ca) rfl rfl (fun W' hC => by simp [go_sem, hC.1.cell (i := 3) rfl]) ?_
                  simp only [put_lit, put_none, List.set_cons_succ, List.set_cons_zero]
                  refine rt_quiet (.int .i64 (x.term.args.length : Int)) rfl rfl (fun W' hC => by simp [go_sem]) ?_
                  simp only [put_lit, put_none, List.set_cons_succ, List.set_cons_zero]
                  refine rt_quiet (.pointer (some ⟨g2, 0, none⟩)) rfl rfl (fun W' hC => by simp [go_sem]) ?_
                  simp only [put_lit, put_none, List.set_cons_succ, List.set_cons_zero]
                  refine rt_quiet (.int .i64 ks.1.1) rfl rfl (fun W' hC => by simp [go_sem, hC.2.cell (i := 0) rfl]) ?_
                  simp only [put_lit, put_none, List.set_cons_succ, List.set_cons_zero]
                  refine rt_quiet (.pointer (some ⟨g2, 1, none⟩)) rfl rfl (fun W' hC => by simp [go_sem]) ?_
                  simp only [put_lit, put_none, List.set_cons_succ, List.set_cons_zero]
                  refine rt_quiet (.int .i64 ks.1.2.1) rfl rfl (fun W' hC => by simp [go_sem, hC.2.cell (i := 1) rfl]) ?_
                  simp only [put_lit, put_none, List.set_cons_succ, List.set_cons_zero]
                  refine rt_quiet (.int .i64 (i : Int)) rfl rfl (fun W' hC => by simp [go_sem]) ?_
                  simp only [put_lit, put_none, List.set_cons_succ, List.set_cons_zero]
                  refine rt_quiet (.pointer (some ⟨gb, 1, none⟩)) rfl rfl (fun W' hC => by simp [go_sem]) ?_
                  simp only [put_lit, put_none, List.set_cons_succ, List.set_cons_zero]
                  refine rt_quiet (.slice Ai x.ins.length ci) rfl rfl (fun W' hC => by simp [go_sem, hC.1.cell (i := 1) rfl]) ?_
                  simp only [put_lit, put_none, List.set_cons_succ, List.set_cons_zero]
                  refine rt_quiet (.int .i64 (x.ins.length : Int)) rfl rfl (fun W' hC => by simp [go_sem]) ?_
                  simp only [put_lit, put_none, List.set_cons_succ, List.set_cons_zero]
                  refine s_call (w' := W2.drew) rfl rfl (by simp [go_sem]) ((within_calls _ (x.term.args.length : Int) ks.1.1 ks.1.2.1).mono ?_)
                  rintro e W3 ⟨rfl, rfl⟩
                  refine ⟨_, rfl, HC, ?_⟩
                  simp only [put_lit, put_none, List.set_cons_succ, List.set_cons_zero]
                  cases hd1 : decide (ks.1.1 ≤ (x.term.args.length : Int) ∧ (x.term.args.length : Int) ≤ ks.1.2.1) with
                  | false =>
                    rw [hd1, Bool.false_and, runC_false] at hr3
                    refine rt_quiet (.bool false) rfl rfl (fun W' hC => by simp [go_sem]) ?_
                    simp only [put_lit, put_none, List.set_cons_succ, List.set_cons_zero]
                    refine rt_quiet (.bool false) rfl rfl (fun W' hC => by simp [go_sem]) ?_
                    simp only [put_lit, put_none, List.set_cons_succ, List.set_cons_zero]
                    refine rt_skip rfl rfl ?_
                    simp only [put_lit, put_none, List.set_cons_succ, List.set_cons_zero]
                    refine rt_skip rfl rfl ?_
                    simp only [put_lit, put_none, List.set_cons_succ, List.set_cons_zero]
                    refine rt_skip rfl rfl ?_
                    simp only [put_lit, put_none, List.set_cons_succ, List.set_cons_zero]
                    refine rt_skip rfl rfl ?_
                    simp only [put_lit, put_none, List.set_cons_succ, List.set_cons_zero]
                    refine rt_skip rfl rfl ?_
                    simp only [put_lit, put_none, List.set_cons_succ, List.set_cons_zero]
                    refine rt_skip rfl rfl ?_
                    simp only [put_lit, put_none, List.set_cons_succ, List.set_cons_zero]
                    refine rt_skip rfl rfl ?_
                    simp only [put_lit, put_none, List.set_cons_succ, List.set_cons_zero]
                    refine rt_skip rfl rfl ?_
                    simp only [put_lit, put_none, List.set_cons_succ, List.set_cons_zero]
                    refine s_skip rfl rfl ⟨HC, ?_⟩
                    simp only [put_lit, put_none, List.set_cons_succ, List.set_cons_zero]
                    refine rt_quiet (.bool false) rfl rfl (fun W' hC => by simp [go_sem]) ?_
                    simp only [put_lit, put_none, List.set_cons_succ, List.set_cons_zero]
                    refine fin_call (w' := W2.drew) rfl rfl (by simp [go_sem]) ((must_calls _ false (10, (i : Int), (x.ins.length : Int))).mono ?_)
                    rintro e W3 ⟨rfl, rfl⟩
                    refine .inr ⟨_, rfl, ?_⟩
                    simp only [endC, Exit.then]
                    go_wp2
                    exact ⟨rfl, by rw [hr3.out]; rfl, (hx1.same hx3).drew, fun h => by rw [hr3.out] at h; cases h⟩
                  | true =>
                    rw [hd1, Bool.true_and] at hr3
                    refine rt_quiet (.bool true) rfl rfl (fun W' hC => by simp [go_sem]) ?_
                    simp only [put_lit, put_none, List.set_cons_succ, List.set_cons_zero]
                    refine rt_quiet (.bool true) rfl rfl (fun W' hC => by simp [go_sem]) ?_
                    simp only [put_lit, put_none, List.set_cons_succ, List.set_cons_zero]
                    refine rt_quiet (.pointer (some ⟨gb, 2, none⟩)) rfl rfl (fun W' hC => by simp [go_sem]) ?_
                    simp only [put_lit, put_none, List.set_cons_succ, List.set_cons_zero]
                    refine rt_quiet (.pointer (some ⟨gb, 4, none⟩)) rfl rfl (fun W' hC => by simp [go_sem]) ?_
                    simp only [put_lit, put_none, List.set_cons_succ, List.set_cons_zero]
                    refine rt_quiet (.slice At x.term.to.length ct) rfl rfl (fun W' hC => by simp [go_sem, hC.1.cell (i := 4) rfl]) ?_
                    simp only [put_lit, put_none, List.set_cons_succ, List.set_cons_zero]
                    refine rt_quiet (.int .i64 (x.term.to.length : Int)) rfl rfl (fun W' hC => by simp [go_sem]) ?_
                    simp only [put_lit, put_none, List.set_cons_succ, List.set_cons_zero]
                    refine rt_quiet (.pointer (some ⟨g2, 2, none⟩)) rfl rfl (fun W' hC => by simp [go_sem]) ?_
                    simp only [put_lit, put_none, List.set_cons_succ, List.set_cons_zero]
                    refine rt_quiet (.int .i64 ks.1.2.2.1) rfl rfl (fun W' hC => by simp [go_sem, hC.2.cell (i := 2) rfl]) ?_
                    simp only [put_lit, put_none, List.set_cons_succ, List.set_cons_zero]
                    refine rt_quiet (.pointer (some ⟨g2, 3, none⟩)) rfl rfl (fun W' hC => by simp [go_sem]) ?_
                    simp only [put_lit, put_none, List.set_cons_succ, List.set_cons_zero]
                    refine rt_quiet (.int .i64 ks.1.2.2.2) rfl rfl (fun W' hC => by simp [go_sem, hC.2.cell (i := 3) rfl]) ?_
                    simp only [put_lit, put_none, List.set_cons_succ, List.set_cons_zero]
                    refine s_call (w' := W2.drew) rfl rfl (by simp [go_sem]) ((within_calls _ (x.term.to.length : Int) ks.1.2.2.1 ks.1.2.2.2).mono ?_)
                    rintro e W3 ⟨rfl, rfl⟩
                    refine ⟨_, rfl, HC, ?_⟩
                    simp only [put_lit, put_none, List.set_cons_succ, List.set_cons_zero]
                    cases hd2 : decide (ks.1.2.2.1 ≤ (x.term.to.length : Int) ∧ (x.term.to.length : Int) ≤ ks.1.2.2.2) with
                    | false =>
                      rw [hd2, runC_false] at hr3
                      refine rt_quiet (.bool false) rfl rfl (fun W' hC => by simp [go_sem]) ?_
                      simp only [put_lit, put_none, List.set_cons_succ, List.set_cons_zero]
                      refine fin_call (w' := W2.drew) rfl rfl (by simp [go_sem]) ((must_calls _ false (10, (i : Int), (x.ins.length : Int))).mono ?_)
                      rintro e W3 ⟨rfl, rfl⟩
                      refine .inr ⟨_, rfl, ?_⟩
                      simp only [endC, Exit.then]
                      go_wp2
                      exact ⟨rfl, by rw [hr3.out]; rfl, (hx1.same hx3).drew, fun h => by rw [hr3.out] at h; cases h⟩
                    | true =>
                      rw [hd2, runC_true] at hr3
                      refine rt_quiet (.bool true) rfl rfl (fun W' hC => by simp [go_sem]) ?_
                      simp only [put_lit, put_none, List.set_cons_succ, List.set_cons_zero]
                      refine fin_call (w' := W2.drew) rfl rfl (by simp [go_sem]) ((must_calls _ true (10, (i : Int), (x.ins.length : Int))).mono ?_)
                      rintro e W3 ⟨rfl, rfl⟩
                      refine .inl ⟨_, rfl, ?_⟩
                      simp only [put_lit, put_none, List.set_cons_succ, List.set_cons_zero]
                      have hto : x.term.to.length ≤ 65 := by have := of_decide_eq_true hd2; omega
                      have hlk4 : Look W2.drew q m params (.slice (some ⟨g, 0, none⟩) bs.length c) mk' := hlk3.ext0 ((Ext.refl _ _).drew)
                      have hx4 : Ext [m] w1 W2.drew := hx3.drew
                      have hblk4 : Blk W2.drew gb 43 _ := hblk2
                      generalize W2.drew = W4 at *
                      have e4 := hblk4.cell (i := 4) rfl
                      go_wp2
                      go_loopg [118] x.term.to.length (fun k vi wr2 => ∃ (j : Nat), vi = .int .i64 (j : Int) ∧ j ≤ x.term.to.length ∧ Hid (j + k = x.term.to.length) ∧ Ext [] W4 wr2 ∧
                        Hid (runC (shapeC params bs) = runC (toC bs.length i x (x.term.to.drop j) ++ thgsC params mk' B.flatten)))
                      case atStart => exact ⟨0, rfl, by omega, by simp [Hid], Ext.refl _ _, by rw [List.drop_zero]; exact hr3⟩
                      case round =>
                        obtain ⟨j, rfl, hj, HK4, hx5, hr4⟩ := hrel
                        have hlk5 := hlk4.ext0 hx5
                        have hblk5 := hblk4.ext hx5 (by simp)
                        have hx6 := hx4.same (hx5.mono (by simp))
                        by_cases hlt4 : j < x.term.to.length
                        · obtain ⟨gt, _, hv, _, et, _⟩ := (hbc1.t.ext hx6 (fun k hk h => by simp at h; exact hmS k (by rw [hbc1.s]; simp [hk]) h)).cell j hlt4
                          cases hv
                          rw [List.drop_eq_getElem_cons hlt4] at hr4
                          have hr5 : Hid (runC (shapeC params bs) = runC ((decide (1 ≤ x.term.to[j] ∧ x.term.to[j] ≤ (bs.length : Int) - 1), (14, (i : Int), (x.ins.length : Int))) :: (toC bs.length i x (x.term.to.drop (j + 1)) ++ thgsC params mk' B.flatten))) := hr4
                          clear hr4
                          generalize x.term.to[j] = t at *
                          go_wp2
                          refine wp_region_rt (fun W => Blk W gb 43 #[.slice Ap x.phis.length cp, .slice Ai x.ins.length ci, .int .i64 x.term.kind, .slice Aa x.term.args.length ca, .slice (some ⟨gt, 0, none⟩) x.term.to.length ct, .int .i32 x.term.imm] ∧ Blk W q 102 #[.int .i64 params, .slice (some ⟨g, 0, none⟩) bs.length c, .map (some m)])
                            (.q 0 (.q 1 (.q 2 (.q 3 (.q 4 (.q 5 (.q 6 (.q 7 (.q 9 (.q 10 (.q 11 (.q 12 (.e 8 (.fin 13)))))))))))))) (by kernel_rfl) (by kernel_rfl) ⟨hblk5, hlk5.cl⟩ ?_
                          refine rt_quiet (.int .i64 t) rfl rfl (fun W' hC => by simp [go_sem]) ?_
                          simp only [put_lit, put_none, List.set_cons_succ, List.set_cons_zero]
                          refine rt_quiet (.pointer (some ⟨q, 0, none⟩)) rfl rfl (fun W' hC => by simp [go_sem]) ?_
                          simp only [put_lit, put_none, List.set_cons_succ, List.set_cons_zero]
                          refine rt_quiet (.pointer (some ⟨q, 0, none⟩)) rfl rfl (fun W' hC => by simp [go_sem]) ?_
                          simp only [put_lit, put_none, List.set_cons_succ, List.set_cons_zero]
                          refine rt_quiet (.pointer (some ⟨q, 0, none⟩)) rfl rfl (fun W' hC => by simp [go_sem]) ?_
                          simp only [put_lit, put_none, List.set_cons_succ, List.set_cons_zero]
                          refine rt_quiet (.pointer (some ⟨q, 1, none⟩)) rfl rfl (fun W' hC => by simp [go_sem]) ?_
                          simp only [put_lit, put_none, List.set_cons_succ, List.set_cons_zero]
                          refine rt_quiet (.slice (some ⟨g, 0, none⟩) bs.length c) rfl rfl (fun W' hC => by simp [go_sem, hC.2.cell (i := 1) rfl]) ?_
                          simp only [put_lit, put_none, List.set_cons_succ, List.set_cons_zero]
                          refine rt_quiet (.int .i64 (bs.length : Int)) rfl rfl (fun W' hC => by simp [go_sem]) ?_
                          simp only [put_lit, put_none, List.set_cons_succ, List.set_cons_zero]
                          refine rt_quiet (.int .i64 ((bs.length : Int) - 1)) rfl rfl (fun W' hC => by simp [go_sem]; rw [IntKind.wrap_i64]; omega) ?_
                          simp only [put_lit, put_none, List.set_cons_succ, List.set_cons_zero]
                          refine rt_quiet (.int .i64 (i : Int)) rfl rfl (fun W' hC => by simp [go_sem]) ?_
                          simp only [put_lit, put_none, List.set_cons_succ, List.set_cons_zero]
                          refine rt_quiet (.pointer (some ⟨gb, 1, none⟩)) rfl rfl (fun W' hC => by simp [go_sem]) ?_
                          simp only [put_lit, put_none, List.set_cons_succ, List.set_cons_zero]
                          refine rt_quiet (.slice Ai x.ins.length ci) rfl rfl (fun W' hC => by simp [go_sem, hC.1.cell (i := 1) rfl]) ?_
                          simp only [put_lit, put_none, List.set_cons_succ, List.set_cons_zero]
                          refine rt_quiet (.int .i64 (x.ins.length : Int)) rfl rfl (fun W' hC => by simp [go_sem]) ?_
                          simp only [put_lit, put_none, List.set_cons_succ, List.set_cons_zero]
                          refine s_call (w' := wr.drew) rfl rfl (by simp [go_sem]) ((within_calls _ t 1 ((bs.length : Int) - 1)).mono ?_)
                          rintro e W5 ⟨rfl, rfl⟩
                          refine ⟨_, rfl, ⟨hblk5, hlk5.cl⟩, ?_⟩
                          simp only [put_lit, put_none, List.set_cons_succ, List.set_cons_zero]
                          cases hd5 : decide (1 ≤ t ∧ t ≤ (bs.length : Int) - 1) with
                          | false =>
                            rw [hd5, runC_false] at hr5
                            refine fin_call (w' := wr.drew) rfl rfl (by simp [go_sem]) ((must_calls _ false (14, (i : Int), (x.ins.length : Int))).mono ?_)
                            rintro e W5 ⟨rfl, rfl⟩
                            refine .inr ⟨_, rfl, ?_⟩
                            simp only [endC, Exit.then]
                            go_wp2
                            exact ⟨rfl, by rw [hr5.out]; rfl, (hx1.same hx6).drew, fun h => by rw [hr5.out] at h; cases h⟩
                          | true =>
                            rw [hd5, runC_true] at hr5
                            refine fin_call (w' := wr.drew) rfl rfl (by simp [go_sem]) ((must_calls _ true (14, (i : Int), (x.ins.length : Int))).mono ?_)
                            rintro e W5 ⟨rfl, rfl⟩
                            refine .inl ⟨_, rfl, ?_⟩
                            simp only [put_lit, put_none, List.set_cons_succ, List.set_cons_zero]
                            go_wp2
                            go_roundg (gk - 1)
                            case measure => have := HK4.out; omega
                            case rel => exact ⟨j + 1, by go_num, by omega, by have := HK4.out; simp only [Hid]; omega, hx5.drew, hr5⟩
                        · have hje : j = x.term.to.length := by omega
                          subst hje
                          rw [List.drop_length] at hr4
                          have hr5 : Hid (runC (shapeC params bs) = runC (thgsC params mk' B.flatten)) := hr4
                          go_wp2
                          rw [← HB.out] at hr5 hmk3
                          go_roundg (q0 - 1)
                          case measure => have := HK.out; omega
                          case rel => exact ⟨i + 1, mk', by go_num, by omega, by have := HK.out; simp only [Hid]; omega, hx1.same hx6, hlk5, hr5, hmk3⟩
    · have hie : i = bs.length := by omega
      subst hie
      have hde : (blocksT bs).drop bs.length = [] := drop_map_len _ _
      rw [hde] at hr hmk
      have hre : Hid (runC (shapeC params bs) = none) := by rw [Hid, hr.out]; rfl
      have hme : Hid (mkAfter [] (blocksT bs).flatten = mk) := hmk.out
      clear hr hmk
      go_wp2
      go_end0
      exact ⟨by rw [hre.out]; rfl, hx, fun _ => by rw [hme.out]; exact hlk⟩
end Go.Proofs.Ytkmgbejhbkbaoaa

/- The program's check: one value taken. -/
namespace Go.Proofs.Ytkmgbejhbkbaoaa
set_option linter.unusedSimpArgs false
set_option linter.unusedVariables false
open Go.RowKit

theorem onceC_nodup {mk : Mk} {b p : Int} : ∀ (l : List Int) (mk : Mk), runC (onceC mk l b p) = none → (mk.map (·.1)).Nodup → ((mkAll mk l b p).map (·.1)).Nodup
  | [], mk, _, h => by simpa [mkAll] using h
  | n :: l, mk, hr, h => by
    simp only [onceC] at hr
    cases ha : (mk.any fun x => x.1 == n) with
    | true => rw [ha] at hr; simp [runC] at hr
    | false =>
      rw [ha] at hr
      simp only [Bool.not_false, runC] at hr
      have h1 : ((mk ++ [(n, (b, p))]).map (·.1)).Nodup := by
        rw [List.map_append, List.nodup_append]
        refine ⟨h, by simp, ?_⟩
        rintro a ha' c hc rfl
        simp at hc
        subst hc
        obtain ⟨x, hx, hxa⟩ := List.mem_map.1 ha'
        have := List.any_eq_false.1 ha x hx
        simp [hxa] at this
      have := onceC_nodup (mk := mk) l _ hr h1
      simpa [mkAll] using this
theorem thgsC_nodup {params : Int} : ∀ (ts : List Thg) (mk : Mk), runC (thgsC params mk ts) = none → (mk.map (·.1)).Nodup → ((mkAfter mk ts).map (·.1)).Nodup
  | [], mk, _, h => h
  | t :: ts, mk, hr, h => by
    rw [thgsC_cons, runC_append] at hr
    cases h1 : runC t.pre with
    | some x => rw [h1] at hr; cases hr
    | none =>
      rw [h1] at hr
      simp only [] at hr
      rw [runC_append] at hr
      cases h2 : runC (allC params mk t.mks t.b t.p) with
      | some x => rw [h2] at hr; cases hr
      | none =>
        rw [h2] at hr
        simp only [] at hr
        have h3 : runC (onceC mk t.mks t.b t.p) = none := by
          rw [allC, runC_append] at h2
          cases h4 : runC (makeC params t.mks t.b t.p) with
          | some x => rw [h4] at h2; cases h2
          | none => rw [h4] at h2; exact h2
        exact thgsC_nodup ts _ hr (onceC_nodup (mk := mk) t.mks mk h3 h)

/-- it stands where it is taken -/
def okAt (dom : Int → Int → Bool) (x : Int × Int) (block at_ : Int) : Bool := (x.1 == block && (decide (x.2 < at_) || decide (x.2 < 0))) || (x.1 != block && dom x.1 block)
def useB (params : Int) (mk : Mk) (dom : Int → Int → Bool) (v block at_ : Int) : Bool := decide (0 ≤ v ∧ v < params) || mk.any fun x => x.1 == v && okAt dom x.2 block at_
theorem useB_in {params : Int} {mk : Mk} {dom : Int → Int → Bool} {v block at_ : Int} (h : 0 ≤ v ∧ v < params) : useB params mk dom v block at_ = true := by simp [useB, h]
theorem useB_none {params : Int} {mk : Mk} {dom : Int → Int → Bool} {v block at_ : Int} (h : ¬ (0 ≤ v ∧ v < params)) (hn : (mk.any fun x => x.1 == v) = false) : useB params mk dom v block at_ = false := by
  rw [useB, decide_eq_false h, Bool.false_or]
  refine List.any_eq_false.2 fun x hx => ?_
  have := List.any_eq_false.1 hn x hx
  simp at this ⊢
  intro e; exact absurd e this
theorem useB_some {params : Int} {mk : Mk} {dom : Int → Int → Bool} {v block at_ : Int} (h : ¬ (0 ≤ v ∧ v < params)) (hnd : (mk.map (·.1)).Nodup) {x : Int × Int} (hx : (v, x) ∈ mk) : useB params mk dom v block at_ = okAt dom x block at_ := by
  rw [useB, decide_eq_false h, Bool.false_or]
  cases ho : okAt dom x block at_ with
  | true => exact List.any_eq_true.2 ⟨(v, x), hx, by simp [ho]⟩
  | false =>
    refine List.any_eq_false.2 fun y hy => ?_
    by_cases e : y.1 = v
    · obtain ⟨i, hi, hyi⟩ := List.mem_iff_getElem.1 hy
      obtain ⟨j, hj, hxj⟩ := List.mem_iff_getElem.1 hx
      have hij : i = j := by
        have a1 := List.Nodup.idxOf_getElem hnd i (by simpa using hi)
        have a2 := List.Nodup.idxOf_getElem hnd j (by simpa using hj)
        simp only [List.getElem_map, hyi, hxj, e] at a1 a2
        exact a1.symm.trans a2
      subst hij
      rw [hyi] at hxj
      subst hxj
      simp [ho]
    · simp [e]

/-- what the closure has captured -/
structure UseW (w : World) (q m p5 p6 : Nat) (params : Int) (vb : Value) (mk : Mk) (Sd : List Nat) (vd : Value) (idom : List Int) : Prop where
  look : Look w q m params vb mk
  b5 : Blk w p5 99 #[.pointer (some ⟨q, 0, none⟩)]
  b6 : Blk w p6 22 #[vd]
  d : SlR kInt 3 w Sd vd idom
theorem UseW.ext0 {w w' : World} {q m p5 p6 : Nat} {params : Int} {vb : Value} {mk : Mk} {Sd : List Nat} {vd : Value} {idom : List Int} (h : UseW w q m p5 p6 params vb mk Sd vd idom) (hx : Ext [] w w') : UseW w' q m p5 p6 params vb mk Sd vd idom :=
  ⟨h.look.ext0 hx, h.b5.ext hx (by simp), h.b6.ext hx (by simp), h.d.ext0 hx⟩

set_option maxRecDepth 20000 in
set_option maxHeartbeats 800000 in
theorem use_calls {w : World} {q m p5 p6 : Nat} {params : Int} {vb : Value} {mk : Mk} {Sd : List Nat} {vd : Value} {idom : List Int} (h : UseW w q m p5 p6 params vb mk Sd vd idom) (hnd : (mk.map (·.1)).Nodup) (hdl : idom.length ≤ 1073741824) (v block place at_ told : Int) :
    Calls Try.prog 74 #[.int .i64 v, .int .i64 block, .int .i64 place, .int .i64 at_, .int .i64 told, .pointer (some ⟨p5, 0, none⟩), .pointer (some ⟨p6, 0, none⟩)] w fun e w' =>
      e = endC (runC [(useB params mk (domF idom) v block at_, (13, told, place))]) ∧ Ext [] w w' := by
  obtain ⟨Ad, cd, rfl, _⟩ := h.d.shape
  have c5 := h.b5.cell (i := 0) rfl
  have c6 := h.b6.cell (i := 0) rfl
  have l6 := h.b6.lt
  have c0 := h.look.cl.cell (i := 0) rfl
  have c2 := h.look.cl.cell (i := 2) rfl
  by_cases hin : 0 ≤ v ∧ v < params
  · have hr : Hid (runC [(useB params mk (domF idom) v block at_, ((13 : Int), told, place))] = none) := by rw [Hid, useB_in hin]; rfl
    obtain ⟨h1, h2⟩ := hin
    go_enter Try.func74, Try.ntmps74
    go_wp2_with fail
    (try simp only [Exit.inBlock, Exit.then])
    refine bodyPost_ret (results_none rfl _ _ _) rfl ?_
    exact ⟨by rw [hr.out]; rfl, Ext.refl _ _⟩
  · rcases h.look.mp.look klInt Try.underlying100 (zero_where w) ⟨v, rfl⟩ with ⟨hrun, hno⟩ | ⟨z, hz, hrun⟩
    · have hr : Hid (runC [(useB params mk (domF idom) v block at_, ((13 : Int), told, place))] = some (13, told, place)) := by rw [Hid, useB_none hin (mk_not hno)]; rfl
      by_cases h1 : 0 ≤ v
      · have h2 : ¬ v < params := fun h => hin ⟨h1, h⟩
        clear hin
        go_enter Try.func74, Try.ntmps74
        go_wp2_with fail
        refine (must_calls _ false (13, told, place)).mono ?_
        rintro e w2 ⟨rfl, rfl⟩
        simp only [runC, endC]
        go_wp2
        exact ⟨rfl, by rw [hr.out]; rfl, (Ext.refl _ _).alloc _⟩
      · clear hin
        go_enter Try.func74, Try.ntmps74
        go_wp2_with fail
        refine (must_calls _ false (13, told, place)).mono ?_
        rintro e w2 ⟨rfl, rfl⟩
        simp only [runC, endC]
        go_wp2
        exact ⟨rfl, by rw [hr.out]; rfl, (Ext.refl _ _).alloc _⟩
    · obtain ⟨⟨n', wb, wp⟩, hp, he⟩ := List.mem_map.1 hz
      cases he
      have hu : Hid (runC [(useB params mk (domF idom) n' block at_, ((13 : Int), told, place))] = runC [(okAt (domF idom) (wb, wp) block at_, (13, told, place))]) := by rw [Hid, useB_some hin hnd hp]
      have hsp : (0 ≤ n' ∧ ¬ n' < params) ∨ ¬ 0 ≤ n' := by
        by_cases h1 : 0 ≤ n'
        · exact .inl ⟨h1, fun h => hin ⟨h1, h⟩⟩
        · exact .inr h1
      clear hin
      by_cases hb : wb = block
      · subst hb
        have hb1 : (wb == wb) = true := by simp
        by_cases hpa : wp < at_
        · have hr : Hid (runC [(useB params mk (domF idom) n' wb at_, ((13 : Int), told, place))] = none) := by rw [Hid, hu.out]; simp [okAt, hpa, runC]
          clear hu
          rcases hsp with ⟨h1, h2⟩ | h1
          all_goals
            go_enter Try.func74, Try.ntmps74
            go_wp2_with fail
            refine (must_calls _ true (13, told, place)).mono ?_
            rintro e w2 ⟨rfl, rfl⟩
            simp only [runC, endC]
            go_wp2
            go_end0
            exact ⟨by rw [hr.out]; rfl, (Ext.refl _ _).alloc _⟩
        · by_cases hp0 : wp < 0
          · have hr : Hid (runC [(useB params mk (domF idom) n' wb at_, ((13 : Int), told, place))] = none) := by rw [Hid, hu.out]; simp [okAt, hp0, runC]
            clear hu
            rcases hsp with ⟨h1, h2⟩ | h1
            all_goals
              go_enter Try.func74, Try.ntmps74
              go_wp2_with fail
              refine (must_calls _ true (13, told, place)).mono ?_
              rintro e w2 ⟨rfl, rfl⟩
              simp only [runC, endC]
              go_wp2
              go_end0
              exact ⟨by rw [hr.out]; rfl, (Ext.refl _ _).alloc _⟩
          · have hr : Hid (runC [(useB params mk (domF idom) n' wb at_, ((13 : Int), told, place))] = some (13, told, place)) := by rw [Hid, hu.out]; simp [okAt, hp0, hpa, runC]
            have hbn : (wb != wb) = false := by simp
            clear hu
            rcases hsp with ⟨h1, h2⟩ | h1
            all_goals
              go_enter Try.func74, Try.ntmps74
              go_wp2_with fail
              refine (must_calls _ false (13, told, place)).mono ?_
              rintro e w2 ⟨rfl, rfl⟩
              simp only [runC, endC]
              go_wp2
              exact ⟨rfl, by rw [hr.out]; rfl, (Ext.refl _ _).alloc _⟩
      · have hb1 : (wb == block) = false := beq_eq_false_iff_ne.2 hb
        have hb2 : (wb != block) = true := by simp [hb]
        have hr : Hid (runC [(useB params mk (domF idom) n' block at_, ((13 : Int), told, place))] = runC [(domF idom wb block, (13, told, place))]) := by rw [Hid, hu.out]; simp only [okAt, hb1, hb2, Bool.false_and, Bool.false_or, Bool.true_and]
        clear hu
        rcases hsp with ⟨h1, h2⟩ | h1
        all_goals
          go_enter Try.func74, Try.ntmps74
          go_wp2_with fail
          refine (dominates_calls (h.d.ext0 ((Ext.refl _ _).alloc _)) hdl wb block).mono ?_
          rintro e w2 ⟨rfl, hx2⟩
          have hx2' : Ext [] w w2 := ((Ext.refl [] w).alloc _).nil hx2
          cases hd : domF idom wb block with
          | true =>
            rw [hd] at hr
            clear hd
            go_wp2_with fail
            refine (must_calls _ true (13, told, place)).mono ?_
            rintro e w3 ⟨rfl, rfl⟩
            simp only [runC, endC]
            go_wp2
            go_end0
            exact ⟨by rw [hr.out]; rfl, hx2'⟩
          | false =>
            rw [hd] at hr
            clear hd
            go_wp2_with fail
            refine (must_calls _ false (13, told, place)).mono ?_
            rintro e w3 ⟨rfl, rfl⟩
            simp only [runC, endC]
            go_wp2
            exact ⟨rfl, by rw [hr.out]; rfl, hx2'⟩
end Go.Proofs.Ytkmgbejhbkbaoaa

/- The program's check: model of uses; what a shape that is right tells. -/
namespace Go.Proofs.Ytkmgbejhbkbaoaa
set_option linter.unusedSimpArgs false
set_option linter.unusedVariables false
open Go.RowKit

theorem runC_none {l : List Ck} : runC l = none ↔ ∀ c ∈ l, c.1 = true := by
  induction l with
  | nil => simp [runC]
  | cons x l ih =>
    obtain ⟨x, t⟩ := x
    cases x with
    | true => simp [runC, ih]
    | false => simp [runC]
theorem thgsC_pre {params : Int} : ∀ (ts : List Thg) (mk : Mk), runC (thgsC params mk ts) = none → ∀ t ∈ ts, ∀ c ∈ t.pre, c.1 = true
  | [], _, _, t, h, _, _ => by cases h
  | t0 :: ts, mk, hr, t, ht, c, hc => by
    rw [thgsC_cons] at hr
    have h1 := runC_none.1 hr
    rcases List.mem_cons.1 ht with rfl | ht
    · exact h1 c (by simp [hc])
    · exact thgsC_pre ts (mkAll mk t0.mks t0.b t0.p) (runC_none.2 fun c hc => h1 c (List.mem_append_right _ (List.mem_append_right _ hc))) t ht c hc
theorem mem_blocksT {bs : List JBlock} {b : Nat} (hb : b < bs.length) {t : Thg} (ht : t ∈ blockT bs.length b bs[b]) : t ∈ (blocksT bs).flatten := by
  refine List.mem_flatten.2 ⟨blockT bs.length b bs[b], ?_, ht⟩
  refine List.mem_map.2 ⟨b, List.mem_range.2 hb, ?_⟩
  simp [List.getD, hb]
/-- what is asked of one block's end, and of its instructions -/
theorem shape_term {params : Int} {bs : List JBlock} (h : runC (shapeC params bs) = none) {b : Nat} (hb : b < bs.length) : termOk bs[b].term = true ∧ ∀ t ∈ bs[b].term.to, 1 ≤ t ∧ t ≤ (bs.length : Int) - 1 := by
  have h1 := thgsC_pre _ _ h (termT bs.length b bs[b]) (mem_blocksT hb (by simp [blockT]))
  refine ⟨h1 _ (by simp [termT]; exact .inl rfl), fun t ht => ?_⟩
  have := h1 (decide (1 ≤ t ∧ t ≤ (bs.length : Int) - 1), (14, (b : Int), (bs[b].ins.length : Int))) (by
    simp only [termT, List.mem_cons]
    exact .inr (List.mem_map.2 ⟨t, ht, rfl⟩))
  simpa using this
theorem termOk_to {t : JTerm} (h : termOk t = true) : t.to.length ≤ 65 ∧ t.args.length ≤ 1 := by
  rw [termOk_eq] at h
  simp only [Bool.and_eq_true, decide_eq_true_eq] at h
  have h1 := shp_bound t.kind
  have h2 : (shpOf t.kind).1.2.1 ≤ 1 := by
    unfold shpOf
    have key : ∀ s, shapeF t.kind = some s → s.2.1 ≤ 1 := by
      intro s h
      unfold shapeF at h
      repeat' split at h
      all_goals (first | (injection h with h; subst h; decide) | cases h)
    cases h : shapeF t.kind with
    | none => simp
    | some s => exact key s h
  omega
theorem ofF_good (bs : List JBlock) : Good (ofF bs) := by
  intro row hr
  obtain ⟨b, _, rfl⟩ := List.mem_map.1 hr
  refine ⟨keptF_sorted _ _, fun x hx => ?_⟩
  have := (mem_keptF.1 hx).1
  simpa [ofF] using this
@[simp] theorem ofF_len (bs : List JBlock) : (ofF bs).length = bs.length := by simp [ofF]

/-! ### uses -/
def reachC (g : List (List Nat)) : List Ck := (List.range g.length).map fun b => ((orderF g).contains b, (15, (b : Int), 0))
def phiFits (b : Nat) (p : JPhi) (pr : List Nat) : Bool := decide (0 < b) && decide (p.ins.length = pr.length) && decide (p.ins.map (·.src) = pr.map Int.ofNat)
section
variable (params : Int) (mk : Mk) (dom : Int → Int → Bool) (bs : List JBlock)
def inU (b i : Nat) (n : JIn) : Ck := (useB params mk dom n.val n.src ((bs.getD n.src.toNat default).ins.length), (13, (b : Int), -1 - (i : Int)))
def phiU (b : Nat) (x : JBlock) (i : Nat) : List Ck := (phiFits b (x.phis.getD i default) (prd (ofF bs) b), (16, (b : Int), -1 - (i : Int))) :: (x.phis.getD i default).ins.map (inU params mk dom bs b i)
def argU (b i : Nat) (v : Int) : Ck := (useB params mk dom v b i, (13, (b : Int), (i : Int)))
def insU (b : Nat) (x : JBlock) (i : Nat) : List Ck := (x.ins.getD i default).args.map (argU params mk dom b i)
def blockU (b : Nat) (x : JBlock) : List Ck :=
  ((List.range x.phis.length).map (phiU params mk dom bs b x)).flatten ++ (((List.range x.ins.length).map (insU params mk dom b x)).flatten ++ x.term.args.map (argU params mk dom b x.ins.length))
def blocksU : List (List Ck) := (List.range bs.length).map fun b => blockU params mk dom bs b (bs.getD b default)
def usesC : List Ck := reachC (ofF bs) ++ (blocksU params mk dom bs).flatten
end
theorem reach_all {g : List (List Nat)} (hg : Good g) (h0 : 0 < g.length) : runC (reachC g) = none ↔ AllR g := by
  have ho := orderF_ord h0 (fun row hr b hb => (hg row hr).2 b hb)
  rw [runC_none]
  constructor
  · intro h
    refine ⟨h0, fun x hx => (ho.mem x).1 ?_⟩
    have := h ((orderF g).contains x, (15, (x : Int), 0)) (List.mem_map.2 ⟨x, List.mem_range.2 hx, rfl⟩)
    simpa using this
  · rintro ⟨_, h⟩ c hc
    obtain ⟨x, hx, rfl⟩ := List.mem_map.1 hc
    simpa using (ho.mem x).2 (h x (List.mem_range.1 hx))
theorem order_le {g : List (List Nat)} (hg : Good g) (h0 : 0 < g.length) : (orderF g).length ≤ g.length := by
  have ho := orderF_ord h0 (fun row hr b hb => (hg row hr).2 b hb)
  have : (orderF g).Perm ((List.range g.length).filter fun x => (orderF g).contains x) := (List.perm_ext_iff_of_nodup ho.nodup (List.nodup_range.filter _)).2 fun x => by
    rw [List.mem_filter, List.mem_range]
    constructor
    · intro h; exact ⟨Rch.lt hg h0 ((ho.mem x).1 h), by simpa using h⟩
    · intro h; simpa using h.2
  rw [this.length_eq]
  exact Nat.le_trans (List.length_filter_le _ _) (by simp)
theorem contains_ofNat (o : List Nat) (b : Nat) : (o.map Int.ofNat).contains (b : Int) = o.contains b := by
  rw [Bool.eq_iff_iff]
  simp only [List.contains_iff_mem, List.mem_map]
  constructor
  · rintro ⟨x, hx, he⟩
    have : x = b := by have : (x : Int) = (b : Int) := he
                       omega
    rwa [← this]
  · intro h; exact ⟨b, h, rfl⟩
/-- the first k of a phi's fit -/
def fitT (b : Nat) (p : JPhi) (pr : List Nat) (k : Nat) : Bool := decide (0 < b) && decide (p.ins.length = pr.length) && decide ((p.ins.map (·.src)).take k = (pr.map Int.ofNat).take k)
theorem fitT_zero (b : Nat) (p : JPhi) (pr : List Nat) : fitT b p pr 0 = (decide (0 < b) && decide (p.ins.length = pr.length)) := by simp [fitT]
theorem fitT_all (b : Nat) (p : JPhi) (pr : List Nat) : fitT b p pr p.ins.length = phiFits b p pr := by
  unfold fitT phiFits
  by_cases h : p.ins.length = pr.length
  · rw [List.take_of_length_le (by simp), List.take_of_length_le (by simp [h])]
  · simp [h]
theorem fitT_len {b : Nat} {p : JPhi} {pr : List Nat} {k : Nat} (h : fitT b p pr k = true) : p.ins.length = pr.length := by
  simp only [fitT, Bool.and_eq_true, decide_eq_true_eq] at h; exact h.1.2
theorem fitT_succ {b : Nat} {p : JPhi} {pr : List Nat} {k : Nat} (hk : k < p.ins.length) (hk2 : k < pr.length) : fitT b p pr (k + 1) = (fitT b p pr k && decide (p.ins[k].src = (pr[k] : Int))) := by
  unfold fitT
  rw [List.take_succ_eq_append_getElem (by simpa using hk), List.take_succ_eq_append_getElem (l := pr.map Int.ofNat) (by simpa using hk2)]
  rw [Bool.and_assoc _ (decide ((p.ins.map (·.src)).take k = _)) _]
  congr 1
  rw [← Bool.decide_and]
  congr 1
  simp only [List.getElem_map, eq_iff_iff]
  constructor
  · intro h
    have := List.append_inj' h rfl
    exact ⟨this.1, by have := this.2; simpa using this⟩
  · rintro ⟨h1, h2⟩
    rw [h1, h2]; rfl
theorem fitT_false {b : Nat} {p : JPhi} {pr : List Nat} {k : Nat} (h : fitT b p pr k = false) : fitT b p pr (k + 1) = false := by
  cases h2 : fitT b p pr (k + 1) with
  | false => rfl
  | true =>
    exfalso
    simp only [fitT, Bool.and_eq_true, decide_eq_true_eq] at h2
    have : fitT b p pr k = true := by
      simp only [fitT, Bool.and_eq_true, decide_eq_true_eq]
      refine ⟨h2.1, ?_⟩
      have h3 := congrArg (List.take k) h2.2
      rw [List.take_take, List.take_take, Nat.min_eq_left (by omega)] at h3
      exact h3
    rw [h] at this; cases this
theorem rt_nil {P : Program} {ops : Array Oper} {C : World → Prop} {Q : Exit → Act → World → Prop} {a : Act} {w : World} (h : Q .normal a w) : rtW P ops C Q .nil a w := h
/-- some slots written -/
def puts (a : Act) (l : List (Nat × Value)) : Act := l.foldl (fun a p => a.put (some p.1) p.2) a
theorem puts_nil (a : Act) : puts a [] = a := rfl
theorem puts_cons (a : Act) (p : Nat × Value) (l : List (Nat × Value)) : puts a (p :: l) = puts (a.put (some p.1) p.2) l := rfl
/-- ways that differ in some slots meet again -/
theorem rt_put {P : Program} {ops : Array Oper} {C : World → Prop} {Q : Exit → Act → World → Prop} {r : Rt} {a : Act} {w : World} (ds : List Nat) (fx : List (Nat × Value)) (F : World → Prop)
    (h : rtW P ops C (fun e a' w' => e = .normal ∧ ∃ vs : List Value, vs.length = ds.length ∧ a' = puts a (ds.zip vs ++ fx) ∧ F w') r a w)
    (k : ∀ vs w', vs.length = ds.length → F w' → Q .normal (puts a (ds.zip vs ++ fx)) w') : rtW P ops C Q r a w :=
  rtW_mono (by rintro e a w ⟨rfl, vs, hl, rfl, hf⟩; exact k vs w hl hf) r a w h
end Go.Proofs.Ytkmgbejhbkbaoaa

/- Plain: a function that may be, said by its parts; the checks find nothing in it. -/
namespace Go.Proofs.Ytkmgbejhbkbaoaa
set_option linter.unusedSimpArgs false
set_option linter.unusedVariables false

/-! ### what is made, and where -/
def madeAll (bs : List JBlock) : Mk := mkAfter [] (blocksT bs).flatten
theorem mkAfter_eq (ts : List Thg) : ∀ mk : Mk, mkAfter mk ts = mk ++ ts.flatMap fun t => t.mks.map fun n => (n, (t.b, t.p)) := by
  induction ts with
  | nil => intro mk; simp [mkAfter]
  | cons t ts ih =>
    intro mk
    have : mkAfter mk (t :: ts) = mkAfter (mkAll mk t.mks t.b t.p) ts := rfl
    rw [this, ih, mkAll]
    simp
def valsB (x : JBlock) : List Int := x.phis.map (·.dst) ++ x.ins.flatMap makesF
def valsF (bs : List JBlock) : List Int := bs.flatMap valsB
theorem map_range_getD {α β : Type} [Inhabited α] (l : List α) (F : α → β) : (List.range l.length).map (fun i => F (l.getD i default)) = l.map F := by
  refine List.ext_getElem (by simp) fun i h1 h2 => ?_
  have : i < l.length := by simpa using h2
  simp [List.getD, this]
theorem flatMap_range_getD {α β : Type} [Inhabited α] (l : List α) (F : α → List β) : (List.range l.length).flatMap (fun i => F (l.getD i default)) = l.flatMap F := by
  rw [List.flatMap_def, List.flatMap_def, map_range_getD]
theorem blockT_mks (n b : Nat) (x : JBlock) : (blockT n b x).flatMap (·.mks) = valsB x := by
  unfold blockT phisT inssT valsB
  rw [List.flatMap_append, List.flatMap_append, List.flatMap_map, List.flatMap_map]
  simp only [List.flatMap_cons, List.flatMap_nil, termT, List.append_nil, phiT, insT]
  congr 1
  · have := flatMap_range_getD x.phis (fun p => [p.dst])
    rw [this]
    generalize x.phis = l
    induction l with
    | nil => rfl
    | cons a l ih => simp [List.flatMap_cons, ih]
  · exact flatMap_range_getD x.ins makesF
theorem madeAll_fst (bs : List JBlock) : (madeAll bs).map (·.1) = valsF bs := by
  rw [madeAll, mkAfter_eq, List.nil_append, List.map_flatMap]
  simp only [List.map_map, Function.comp_def, List.map_id']
  rw [blocksT, ← List.flatMap_def, List.flatMap_assoc]
  simp only [blockT_mks]
  exact flatMap_range_getD bs valsB
theorem mem_blocksT_iff {bs : List JBlock} {t : Thg} : t ∈ (blocksT bs).flatten ↔ ∃ b, ∃ hb : b < bs.length, t ∈ blockT bs.length b bs[b] := by
  simp only [blocksT, List.mem_flatten, List.mem_map, List.mem_range]
  constructor
  · rintro ⟨l, ⟨b, hb, rfl⟩, ht⟩
    refine ⟨b, hb, ?_⟩
    simpa [List.getD, hb] using ht
  · rintro ⟨b, hb, ht⟩
    exact ⟨_, ⟨b, hb, rfl⟩, by simpa [List.getD, hb] using ht⟩
theorem mem_blockT_iff {n b : Nat} {x : JBlock} {t : Thg} : t ∈ blockT n b x ↔ (∃ i, i < x.phis.length ∧ t = phiT b x i) ∨ (∃ i, i < x.ins.length ∧ t = insT b x i) ∨ t = termT n b x := by
  simp only [blockT, phisT, inssT, List.mem_append, List.mem_map, List.mem_range, List.mem_singleton]
  constructor
  · rintro (⟨i, hi, rfl⟩ | ⟨i, hi, rfl⟩ | rfl)
    · exact .inl ⟨i, hi, rfl⟩
    · exact .inr (.inl ⟨i, hi, rfl⟩)
    · exact .inr (.inr rfl)
  · rintro (⟨i, hi, rfl⟩ | ⟨i, hi, rfl⟩ | rfl)
    · exact .inl ⟨i, hi, rfl⟩
    · exact .inr (.inl ⟨i, hi, rfl⟩)
    · exact .inr (.inr rfl)
/-- it is made in block a at place p -/
def MadeAt (bs : List JBlock) (v : Int) (a : Nat) (p : Int) : Prop :=
  ∃ ha : a < bs.length, (∃ i, ∃ hi : i < bs[a].phis.length, p = -1 - (i : Int) ∧ v = bs[a].phis[i].dst) ∨ (∃ i, ∃ hi : i < bs[a].ins.length, p = (i : Int) ∧ v ∈ makesF bs[a].ins[i])
theorem mem_madeAll {bs : List JBlock} {v a p : Int} : (v, (a, p)) ∈ madeAll bs ↔ ∃ a' : Nat, a = (a' : Int) ∧ MadeAt bs v a' p := by
  rw [madeAll, mkAfter_eq, List.nil_append, List.mem_flatMap]
  constructor
  · rintro ⟨t, ht, hm⟩
    obtain ⟨b, hb, ht⟩ := mem_blocksT_iff.1 ht
    obtain ⟨n, hn, he⟩ := List.mem_map.1 hm
    injection he with e1 e2
    injection e2 with e2 e3
    subst e1 e2 e3
    rcases mem_blockT_iff.1 ht with ⟨i, hi, rfl⟩ | ⟨i, hi, rfl⟩ | rfl
    · refine ⟨b, rfl, hb, .inl ⟨i, hi, rfl, ?_⟩⟩
      simpa [phiT, List.getD, hi] using hn
    · refine ⟨b, rfl, hb, .inr ⟨i, hi, rfl, ?_⟩⟩
      simpa [insT, List.getD, hi] using hn
    · simp [termT] at hn
  · rintro ⟨b, rfl, hb, ⟨i, hi, rfl, rfl⟩ | ⟨i, hi, rfl, hv⟩⟩
    · refine ⟨phiT b bs[b] i, mem_blocksT_iff.2 ⟨b, hb, mem_blockT_iff.2 (.inl ⟨i, hi, rfl⟩)⟩, List.mem_map.2 ⟨_, ?_, rfl⟩⟩
      simp [phiT, List.getD, hi]
    · refine ⟨insT b bs[b] i, mem_blocksT_iff.2 ⟨b, hb, mem_blockT_iff.2 (.inr (.inl ⟨i, hi, rfl⟩))⟩, List.mem_map.2 ⟨_, ?_, rfl⟩⟩
      simpa [insT, List.getD, hi] using hv

/-! ### a value stands -/
def Stand (params : Int) (bs : List JBlock) (v : Int) (b : Nat) (at_ : Int) : Prop :=
  (0 ≤ v ∧ v < params) ∨ ∃ a p, MadeAt bs v a p ∧ ((a = b ∧ (p < at_ ∨ p < 0)) ∨ (a ≠ b ∧ ¬ Rwo (ofF bs) a b))
theorem useB_iff {params : Int} {bs : List JBlock} {idom : List Int} (hid : IdomOk (ofF bs) idom) {v : Int} {b : Nat} (hb : b < bs.length) {at_ : Int} :
    useB params (madeAll bs) (domF idom) v b at_ = true ↔ Stand params bs v b at_ := by
  simp only [useB, Bool.or_eq_true, decide_eq_true_eq, List.any_eq_true, Bool.and_eq_true, beq_iff_eq, Stand]
  refine or_congr Iff.rfl ?_
  constructor
  · rintro ⟨⟨v', a, p⟩, hm, rfl, ho⟩
    obtain ⟨a, rfl, hma⟩ := mem_madeAll.1 hm
    refine ⟨a, p, hma, ?_⟩
    have hal : a < bs.length := hma.1
    simp only [okAt, Bool.or_eq_true, Bool.and_eq_true, beq_iff_eq, decide_eq_true_eq, bne_iff_ne, ne_eq] at ho
    rcases ho with ⟨h1, h2⟩ | ⟨h1, h2⟩
    · exact .inl ⟨by omega, h2⟩
    · exact .inr ⟨by omega, (hid.2 a b (by simpa using hal) (by simpa using hb)).1 h2⟩
  · rintro ⟨a, p, hma, ho⟩
    refine ⟨(v, (a, p)), mem_madeAll.2 ⟨a, rfl, hma⟩, rfl, ?_⟩
    have hal : a < bs.length := hma.1
    simp only [okAt, Bool.or_eq_true, Bool.and_eq_true, beq_iff_eq, decide_eq_true_eq, bne_iff_ne, ne_eq]
    rcases ho with ⟨rfl, h2⟩ | ⟨h1, h2⟩
    · exact .inl ⟨rfl, h2⟩
    · exact .inr ⟨by omega, (hid.2 a b (by simpa using hal) (by simpa using hb)).2 h2⟩

/-! ### a function that may be -/
def thingsN (bs : List JBlock) : Nat := (bs.map fun b => b.phis.length + b.ins.length).sum
structure RightF (f : JFunc) : Prop where
  params : 0 ≤ f.params ∧ f.params ≤ 4
  ne : 0 < f.blocks.length
  many : f.blocks.length ≤ 512
  things : f.blocks.length + thingsN f.blocks ≤ 4096
  ins : ∀ x ∈ f.blocks, ∀ s ∈ x.ins, (1 ≤ s.op ∧ s.op ≤ 18) ∧ (opersF s.op).1 ≤ s.args.length ∧ s.args.length ≤ (opersF s.op).2
  term : ∀ x ∈ f.blocks, termOk x.term = true
  to : ∀ x ∈ f.blocks, ∀ t ∈ x.term.to, 1 ≤ t ∧ t ≤ (f.blocks.length : Int) - 1
  vals : ∀ v ∈ valsF f.blocks, f.params ≤ v ∧ v ≤ 8191
  once : (valsF f.blocks).Nodup
  reach : AllR (ofF f.blocks)
  phis : ∀ b (hb : b < f.blocks.length), ∀ p ∈ f.blocks[b].phis, 0 < b ∧ p.ins.map (·.src) = (prd (ofF f.blocks) b).map Int.ofNat
  useP : ∀ b (hb : b < f.blocks.length), ∀ p ∈ f.blocks[b].phis, ∀ n ∈ p.ins, ∀ a (ha : a < f.blocks.length), n.src = (a : Int) → Stand f.params f.blocks n.val a f.blocks[a].ins.length
  useI : ∀ b (hb : b < f.blocks.length) i (hi : i < f.blocks[b].ins.length), ∀ v ∈ f.blocks[b].ins[i].args, Stand f.params f.blocks v b i
  useT : ∀ b (hb : b < f.blocks.length), ∀ v ∈ f.blocks[b].term.args, Stand f.params f.blocks v b f.blocks[b].ins.length

theorem onceC_ok {b p : Int} : ∀ (l : List Int) (mk : Mk), ((mkAll mk l b p).map (·.1)).Nodup → ∀ c ∈ onceC mk l b p, c.1 = true
  | [], _, _, _, hc => by cases hc
  | n :: l, mk, h, c, hc => by
    simp only [onceC, List.mem_cons] at hc
    have e : mkAll mk (n :: l) b p = mkAll (mk ++ [(n, (b, p))]) l b p := by simp [mkAll]
    rcases hc with rfl | hc
    · simp only [Bool.not_eq_true']
      refine List.any_eq_false.2 fun x hx => ?_
      simp only [beq_iff_eq]
      rintro rfl
      simp only [mkAll, List.map_append, List.map_cons] at h
      exact (List.nodup_append.1 h).2.2 x.1 (List.mem_map.2 ⟨x, hx, rfl⟩) x.1 (by simp) rfl
    · exact onceC_ok l _ (e ▸ h) c hc
theorem thgsC_ok {params : Int} : ∀ (ts : List Thg) (mk : Mk), (∀ t ∈ ts, ∀ c ∈ t.pre, c.1 = true) → (∀ t ∈ ts, ∀ n ∈ t.mks, params ≤ n ∧ n ≤ 8191) → ((mkAfter mk ts).map (·.1)).Nodup →
    ∀ c ∈ thgsC params mk ts, c.1 = true
  | [], _, _, _, _, c, hc => by cases hc
  | t :: ts, mk, h1, h2, h3, c, hc => by
    rw [thgsC_cons, List.mem_append, List.mem_append] at hc
    have h4 : ((mkAfter (mkAll mk t.mks t.b t.p) ts).map (·.1)).Nodup := h3
    rcases hc with hc | hc | hc
    · exact h1 t (by simp) c hc
    · rw [allC, List.mem_append] at hc
      rcases hc with hc | hc
      · obtain ⟨n, hn, rfl⟩ := List.mem_map.1 hc
        simpa using h2 t (by simp) n hn
      · refine onceC_ok t.mks mk ?_ c hc
        rw [mkAfter_eq, List.map_append] at h4
        exact (List.nodup_append.1 h4).1
    · exact thgsC_ok ts _ (fun t ht => h1 t (by simp [ht])) (fun t ht => h2 t (by simp [ht])) h4 c hc
theorem right_shape {f : JFunc} (h : RightF f) : runC (shapeC f.params f.blocks) = none := by
  refine runC_none.2 (thgsC_ok _ _ ?_ ?_ ?_)
  · intro t ht c hc
    obtain ⟨b, hb, ht⟩ := mem_blocksT_iff.1 ht
    rcases mem_blockT_iff.1 ht with ⟨i, hi, rfl⟩ | ⟨i, hi, rfl⟩ | rfl
    · simp [phiT] at hc
    · have h1 := h.ins _ (List.getElem_mem hb) _ (List.getElem_mem hi)
      simp only [insT, List.mem_cons, List.not_mem_nil, or_false] at hc
      have e : f.blocks[b].ins.getD i default = f.blocks[b].ins[i] := by simp [List.getD, hi]
      rw [e] at hc
      rcases hc with rfl | rfl
      · simpa using h1.1
      · simpa using h1.2
    · simp only [termT, List.mem_cons] at hc
      rcases hc with rfl | hc
      · exact h.term _ (List.getElem_mem hb)
      · obtain ⟨t, ht, rfl⟩ := List.mem_map.1 hc
        simpa using h.to _ (List.getElem_mem hb) t ht
  · intro t ht n hn
    refine h.vals n ?_
    rw [← madeAll_fst]
    refine List.mem_map.2 ⟨(n, (t.b, t.p)), ?_, rfl⟩
    rw [madeAll, mkAfter_eq, List.nil_append]
    exact List.mem_flatMap.2 ⟨t, ht, List.mem_map.2 ⟨n, hn, rfl⟩⟩
  · have := h.once
    rwa [← madeAll_fst] at this
theorem right_uses {f : JFunc} (h : RightF f) {idom : List Int} (hid : IdomOk (ofF f.blocks) idom) : runC (usesC f.params (madeAll f.blocks) (domF idom) f.blocks) = none := by
  have hg := ofF_good f.blocks
  rw [usesC, runC_append, (reach_all hg (by simpa using h.ne)).2 h.reach]
  simp only []
  refine runC_none.2 fun c hc => ?_
  obtain ⟨l, hl, hc⟩ := List.mem_flatten.1 hc
  obtain ⟨b, hb, rfl⟩ := List.mem_map.1 hl
  have hb : b < f.blocks.length := List.mem_range.1 hb
  have e : f.blocks.getD b default = f.blocks[b] := by simp [List.getD, hb]
  rw [e] at hc
  simp only [blockU, List.mem_append] at hc
  rcases hc with hc | hc | hc
  · obtain ⟨l, hl, hc⟩ := List.mem_flatten.1 hc
    obtain ⟨i, hi, rfl⟩ := List.mem_map.1 hl
    have hi : i < f.blocks[b].phis.length := List.mem_range.1 hi
    have e2 : f.blocks[b].phis.getD i default = f.blocks[b].phis[i] := by simp [List.getD, hi]
    obtain ⟨h1, h2⟩ := h.phis b hb _ (List.getElem_mem hi)
    rw [phiU, e2, List.mem_cons] at hc
    rcases hc with rfl | hc
    · simp only [phiFits, Bool.and_eq_true, decide_eq_true_eq]
      refine ⟨⟨h1, ?_⟩, h2⟩
      have := congrArg List.length h2
      simpa using this
    · obtain ⟨n, hn, rfl⟩ := List.mem_map.1 hc
      have h3 : n.src ∈ (prd (ofF f.blocks) b).map Int.ofNat := by rw [← h2]; exact List.mem_map.2 ⟨n, hn, rfl⟩
      obtain ⟨a, ha, hae⟩ := List.mem_map.1 h3
      have hae : n.src = (a : Int) := hae.symm
      have hal : a < f.blocks.length := by
        have := (Ed.lt hg ((mem_prd (by simpa using hb)).1 ha)).1
        simpa using this
      simp only [inU]
      rw [hae, useB_iff hid hal]
      have := h.useP b hb _ (List.getElem_mem hi) n hn a hal hae
      simpa [List.getD, hal] using this
  · obtain ⟨l, hl, hc⟩ := List.mem_flatten.1 hc
    obtain ⟨i, hi, rfl⟩ := List.mem_map.1 hl
    have hi : i < f.blocks[b].ins.length := List.mem_range.1 hi
    have e2 : f.blocks[b].ins.getD i default = f.blocks[b].ins[i] := by simp [List.getD, hi]
    rw [insU, e2] at hc
    obtain ⟨v, hv, rfl⟩ := List.mem_map.1 hc
    exact (useB_iff hid hb).2 (h.useI b hb i hi v hv)
  · obtain ⟨v, hv, rfl⟩ := List.mem_map.1 hc
    exact (useB_iff hid hb).2 (h.useT b hb v hv)
end Go.Proofs.Ytkmgbejhbkbaoaa

/- Plain: a function that grows: what is added at the end of a block. -/
namespace Go.Proofs.Ytkmgbejhbkbaoaa
set_option linter.unusedSimpArgs false
set_option linter.unusedVariables false

def insOk (s : JIns) : Prop := (1 ≤ s.op ∧ s.op ≤ 18) ∧ (opersF s.op).1 ≤ s.args.length ∧ s.args.length ≤ (opersF s.op).2
/-- the maker's state -/
structure MSt where
  params : Int
  blocks : List JBlock
  next : Int
  live : List Int
def OkNews : List Int → Int → Int → List JIns → Prop
  | _, lo, hi, [] => lo ≤ hi
  | live, lo, hi, x :: xs => insOk x ∧ (∀ a ∈ x.args, a ∈ live) ∧ (makesF x).Nodup ∧ ∃ mid, lo ≤ mid ∧ (∀ v ∈ makesF x, lo ≤ v ∧ v < mid) ∧ OkNews (live ++ makesF x) mid hi xs
def more (news : List JIns) (x : JBlock) : JBlock := { x with ins := x.ins ++ news }
def MSt.grow (st : MSt) (b : Nat) (news : List JIns) (hi : Int) : MSt := { st with blocks := st.blocks.modify b (more news), next := hi, live := st.live ++ news.flatMap makesF }
/-- at most c instructions more at the end of block b -/
def Grow (b c : Nat) (st st' : MSt) : Prop := ∃ news hi, news.length ≤ c ∧ hi ≤ st.next + 2 * c ∧ OkNews st.live st.next hi news ∧ st' = st.grow b news hi

theorem OkNews.le : ∀ {xs : List JIns} {live : List Int} {lo hi : Int}, OkNews live lo hi xs → lo ≤ hi
  | [], _, _, _, h => h
  | _ :: _, _, _, _, ⟨_, _, _, _, h1, _, h2⟩ => Int.le_trans h1 h2.le
theorem OkNews.append : ∀ {xs ys : List JIns} {live : List Int} {lo mid hi : Int}, OkNews live lo mid xs → OkNews (live ++ xs.flatMap makesF) mid hi ys → OkNews live lo hi (xs ++ ys)
  | [], ys, live, lo, mid, hi, h1, h2 => by
    rw [List.flatMap_nil, List.append_nil] at h2
    have h1 : lo ≤ mid := h1
    cases ys with
    | nil => exact Int.le_trans h1 h2
    | cons y ys =>
      obtain ⟨a, b, c, m, d, e, f⟩ := h2
      exact ⟨a, b, c, m, Int.le_trans h1 d, fun v hv => ⟨Int.le_trans h1 (e v hv).1, (e v hv).2⟩, f⟩
  | x :: xs, ys, live, lo, mid, hi, ⟨a, b, c, m, d, e, f⟩, h2 => ⟨a, b, c, m, d, e, OkNews.append f (by simpa [List.flatMap_cons, List.append_assoc] using h2)⟩
theorem modify_more (bs : List JBlock) (b : Nat) (xs ys : List JIns) : (bs.modify b (more xs)).modify b (more ys) = bs.modify b (more (xs ++ ys)) := by
  refine List.ext_getElem (by simp) fun i h1 h2 => ?_
  simp only [List.getElem_modify]
  split
  · simp [more]
  · rfl
theorem modify_nil (bs : List JBlock) (b : Nat) : bs.modify b (more []) = bs := by
  refine List.ext_getElem (by simp) fun i h1 h2 => ?_
  simp only [List.getElem_modify]
  split
  · simp [more]
  · rfl
theorem Grow.refl (b : Nat) (st : MSt) : Grow b 0 st st := ⟨[], st.next, by simp, by omega, Int.le_refl _, by simp [MSt.grow, modify_nil]⟩
theorem Grow.trans {b c c' : Nat} {st st1 st2 : MSt} (h : Grow b c st st1) (k : Grow b c' st1 st2) : Grow b (c + c') st st2 := by
  obtain ⟨n1, h1, a1, a2, a3, rfl⟩ := h
  obtain ⟨n2, h2, b1, b2, b3, rfl⟩ := k
  simp only [MSt.grow] at b2 b3
  refine ⟨n1 ++ n2, h2, by simp; omega, by omega, a3.append b3, ?_⟩
  simp [MSt.grow, modify_more, List.append_assoc]
theorem Grow.mono {b c c' : Nat} {st st1 : MSt} (h : Grow b c st st1) (hc : c ≤ c') : Grow b c' st st1 := by
  obtain ⟨n1, h1, a1, a2, a3, rfl⟩ := h
  exact ⟨n1, h1, by omega, by omega, a3, rfl⟩
theorem Grow.live {b c : Nat} {st st1 : MSt} (h : Grow b c st st1) {v : Int} (hv : v ∈ st.live) : v ∈ st1.live := by
  obtain ⟨n1, h1, a1, a2, a3, rfl⟩ := h
  exact List.mem_append_left _ hv
theorem Grow.len {b c : Nat} {st st1 : MSt} (h : Grow b c st st1) : st1.blocks.length = st.blocks.length := by
  obtain ⟨n1, h1, a1, a2, a3, rfl⟩ := h
  simp [MSt.grow]
theorem Grow.next {b c : Nat} {st st1 : MSt} (h : Grow b c st st1) : st.next ≤ st1.next ∧ st1.next ≤ st.next + 2 * c := by
  obtain ⟨n1, h1, a1, a2, a3, rfl⟩ := h
  exact ⟨a3.le, a2⟩
theorem Grow.params {b c : Nat} {st st1 : MSt} (h : Grow b c st st1) : st1.params = st.params := by
  obtain ⟨n1, h1, a1, a2, a3, rfl⟩ := h
  rfl
/-- a number is taken ahead -/
theorem Grow.fresh {b c : Nat} {st st1 : MSt} {k : Int} (hk : 0 ≤ k) (hk2 : k ≤ 2) {x : JIns} (hx : insOk x) (ha : ∀ a ∈ x.args, a ∈ st.live) (hm : ∀ v ∈ makesF x, st.next ≤ v ∧ v < st.next + k) (hn : (makesF x).Nodup)
    (h : st1 = st.grow b [x] (st.next + k)) : Grow b 1 st st1 :=
  ⟨[x], st.next + k, by simp, by omega, ⟨hx, ha, hn, st.next + k, by omega, hm, Int.le_refl _⟩, h⟩

/-! ### what is kept -/
theorem ofF_modify (bs : List JBlock) (b : Nat) (news : List JIns) : ofF (bs.modify b (more news)) = ofF bs := by
  unfold ofF
  refine List.ext_getElem (by simp) fun i h1 h2 => ?_
  simp only [List.getElem_map, List.getElem_modify, List.length_modify]
  split
  · rfl
  · rfl
theorem MadeAt.more {bs : List JBlock} {v : Int} {a : Nat} {p : Int} (h : MadeAt bs v a p) (b : Nat) (news : List JIns) : MadeAt (bs.modify b (more news)) v a p := by
  obtain ⟨ha, h⟩ := h
  refine ⟨by simpa using ha, ?_⟩
  simp only [List.getElem_modify]
  rcases h with ⟨i, hi, rfl, rfl⟩ | ⟨i, hi, rfl, hv⟩
  · refine .inl ⟨i, ?_, rfl, ?_⟩
    · split
      · simpa [Go.Proofs.Ytkmgbejhbkbaoaa.more] using hi
      · exact hi
    · split <;> rfl
  · refine .inr ⟨i, ?_, rfl, ?_⟩
    · split
      · simp only [Go.Proofs.Ytkmgbejhbkbaoaa.more, List.length_append]; omega
      · exact hi
    · split
      · rw [show (Go.Proofs.Ytkmgbejhbkbaoaa.more news bs[a]).ins[i]'(by simp only [Go.Proofs.Ytkmgbejhbkbaoaa.more, List.length_append]; omega) = bs[a].ins[i] from List.getElem_append_left hi]; exact hv
      · exact hv
theorem Stand.more {params : Int} {bs : List JBlock} {v : Int} {b : Nat} {at_ at2 : Int} (h : Stand params bs v b at_) (hat : at_ ≤ at2) (c : Nat) (news : List JIns) : Stand params (bs.modify c (more news)) v b at2 := by
  rcases h with h | ⟨a, p, h1, h2⟩
  · exact .inl h
  · refine .inr ⟨a, p, h1.more c news, ?_⟩
    rw [ofF_modify]
    rcases h2 with ⟨h2, h3⟩ | h2
    · exact .inl ⟨h2, by omega⟩
    · exact .inr h2
theorem Stand.at_le {params : Int} {bs : List JBlock} {v : Int} {b : Nat} {at_ at2 : Int} (h : Stand params bs v b at_) (hat : at_ ≤ at2) : Stand params bs v b at2 := by
  rcases h with h | ⟨a, p, h1, h2⟩
  · exact .inl h
  · refine .inr ⟨a, p, h1, ?_⟩
    rcases h2 with ⟨h2, h3⟩ | h2
    · exact .inl ⟨h2, by omega⟩
    · exact .inr h2
theorem makesF_len (x : JIns) : (makesF x).length ≤ 2 := by unfold makesF; split <;> (try split) <;> simp

/-- what stands of a function in the making -/
structure PInv (params : Int) (bs : List JBlock) (next : Int) : Prop where
  ins : ∀ x ∈ bs, ∀ s ∈ x.ins, insOk s
  vals : ∀ v ∈ valsF bs, params ≤ v ∧ v < next
  once : (valsF bs).Nodup
  useI : ∀ b (hb : b < bs.length) i (hi : i < bs[b].ins.length), ∀ v ∈ bs[b].ins[i].args, Stand params bs v b i
theorem valsB_more (news : List JIns) (x : JBlock) : valsB (more news x) = valsB x ++ news.flatMap makesF := by simp [valsB, more, List.append_assoc]
theorem valsF_modify : ∀ (bs : List JBlock) (b : Nat) (hb : b < bs.length) (news : List JIns), (valsF (bs.modify b (more news))).Perm (valsF bs ++ news.flatMap makesF)
  | [], b, hb, _ => by simp at hb
  | x :: bs, 0, _, news => by
    simp only [valsF, List.modify_zero_cons, List.flatMap_cons, valsB_more, List.append_assoc]
    exact List.Perm.append_left _ List.perm_append_comm
  | x :: bs, b + 1, hb, news => by
    simp only [valsF, List.modify_succ_cons, List.flatMap_cons, List.append_assoc]
    exact List.Perm.append_left _ (valsF_modify bs b (by simpa using hb) news)
theorem OkNews.vals : ∀ {xs : List JIns} {live : List Int} {lo hi : Int}, OkNews live lo hi xs → (∀ v ∈ xs.flatMap makesF, lo ≤ v ∧ v < hi) ∧ (xs.flatMap makesF).Nodup
  | [], _, _, _, _ => by simp
  | x :: xs, live, lo, hi, ⟨_, _, hn, mid, h1, h2, h3⟩ => by
    obtain ⟨h4, h5⟩ := h3.vals
    have h6 := h3.le
    rw [List.flatMap_cons]
    refine ⟨fun v hv => ?_, List.nodup_append.2 ⟨hn, h5, ?_⟩⟩
    · rcases List.mem_append.1 hv with hv | hv
      · have := h2 v hv; omega
      · have := h4 v hv; omega
    · rintro a ha c hc rfl
      have := h2 a ha; have := h4 a hc; omega
theorem OkNews.ins : ∀ {xs : List JIns} {live : List Int} {lo hi : Int}, OkNews live lo hi xs → ∀ s ∈ xs, insOk s
  | [], _, _, _, _, s, hs => by cases hs
  | x :: xs, _, _, _, ⟨h1, _, _, _, _, _, h3⟩, s, hs => by
    rcases List.mem_cons.1 hs with rfl | hs
    · exact h1
    · exact h3.ins s hs
theorem OkNews.args : ∀ {xs : List JIns} {live : List Int} {lo hi : Int}, OkNews live lo hi xs → ∀ i (hi' : i < xs.length), ∀ a ∈ xs[i].args, a ∈ live ∨ ∃ j, ∃ hj : j < xs.length, j < i ∧ a ∈ makesF xs[j]
  | [], _, _, _, _, i, hi, _, _ => by simp at hi
  | x :: xs, live, _, _, ⟨_, h2, _, _, _, _, h3⟩, 0, _, a, ha => .inl (h2 a ha)
  | x :: xs, live, _, _, ⟨_, h2, _, _, _, _, h3⟩, i + 1, hi, a, ha => by
    rcases h3.args i (by simpa using hi) a ha with h | ⟨j, hj, hji, h⟩
    · rcases List.mem_append.1 h with h | h
      · exact .inl h
      · exact .inr ⟨0, by simp, by omega, by simpa using h⟩
    · exact .inr ⟨j + 1, by simpa using hj, by omega, by simpa using h⟩
/-- all that is at hand stands at a block's end -/
def LiveOk (params : Int) (bs : List JBlock) (b : Nat) (live : List Int) : Prop := ∃ hb : b < bs.length, ∀ v ∈ live, Stand params bs v b bs[b].ins.length
theorem made_new {bs : List JBlock} {b : Nat} (hb : b < bs.length) (news : List JIns) {j : Nat} (hj : j < news.length) {v : Int} (hv : v ∈ makesF news[j]) : MadeAt (bs.modify b (more news)) v b ((bs[b].ins.length + j : Nat) : Int) := by
  refine ⟨by simpa using hb, .inr ⟨bs[b].ins.length + j, ?_, rfl, ?_⟩⟩
  · simp only [List.getElem_modify, if_true, more, List.length_append]; omega
  · simp only [List.getElem_modify, if_true, more]
    rw [List.getElem_append_right (by omega)]
    simpa using hv
theorem PInv.grow {params : Int} {st st1 : MSt} {b c : Nat} (h : PInv params st.blocks st.next) (hl : LiveOk params st.blocks b st.live) (hg : Grow b c st st1) (hpn : params ≤ st.next) :
    PInv params st1.blocks st1.next ∧ LiveOk params st1.blocks b st1.live := by
  obtain ⟨news, hi, a1, a2, a3, rfl⟩ := hg
  obtain ⟨hb, hl⟩ := hl
  obtain ⟨v1, v2⟩ := a3.vals
  have hle := a3.le
  have hst : ∀ k (hk : k ≤ news.length) v, (v ∈ st.live ∨ ∃ j, ∃ hj : j < news.length, j < k ∧ v ∈ makesF news[j]) → Stand params (st.blocks.modify b (more news)) v b ((st.blocks[b].ins.length + k : Nat) : Int) := by
    rintro k hk v (hv | ⟨j, hj, hjk, hv⟩)
    · exact (hl v hv).more (by omega) b news
    · exact .inr ⟨b, _, made_new hb news hj hv, .inl ⟨rfl, .inl (by omega)⟩⟩
  simp only [MSt.grow]
  refine ⟨⟨fun x hx s hs => ?_, fun v hv => ?_, ?_, fun b' hb' i hi' v hv => ?_⟩, by simpa using hb, fun v hv => ?_⟩
  · obtain ⟨i, hi', rfl⟩ := List.getElem_of_mem hx
    have hi2 : i < st.blocks.length := by simpa using hi'
    rw [List.getElem_modify] at hs
    split at hs
    · rcases List.mem_append.1 hs with hs | hs
      · exact h.ins _ (List.getElem_mem hi2) s hs
      · exact a3.ins s hs
    · exact h.ins _ (List.getElem_mem hi2) s hs
  · rcases List.mem_append.1 ((valsF_modify st.blocks b hb news).mem_iff.1 hv) with hv | hv
    · have := h.vals v hv; omega
    · have := v1 v hv; omega
  · refine (valsF_modify st.blocks b hb news).nodup_iff.2 (List.nodup_append.2 ⟨h.once, v2, ?_⟩)
    rintro a ha c hc rfl
    have := h.vals a ha; have := v1 a hc; omega
  · have hb2 : b' < st.blocks.length := by simpa using hb'
    by_cases e : b = b'
    · subst e
      simp only [List.getElem_modify, if_true, more, List.length_append] at hi' hv ⊢
      rcases Nat.lt_or_ge i st.blocks[b].ins.length with h1 | h1
      · rw [List.getElem_append_left h1] at hv
        exact (h.useI b hb i h1 v hv).more (Int.le_refl _) b news
      · rw [List.getElem_append_right h1] at hv
        have := hst (i - st.blocks[b].ins.length) (by omega) v (a3.args (i - st.blocks[b].ins.length) (by omega) v hv)
        rwa [show st.blocks[b].ins.length + (i - st.blocks[b].ins.length) = i from by omega] at this
    · simp only [List.getElem_modify, if_neg e] at hi' hv
      exact (h.useI b' hb2 i hi' v hv).more (Int.le_refl _) b news
  · simp only [List.getElem_modify, if_true, more, List.length_append]
    refine hst news.length (Nat.le_refl _) v ?_
    rcases List.mem_append.1 hv with hv | hv
    · exact .inl hv
    · obtain ⟨x, hx, hv⟩ := List.mem_flatMap.1 hv
      obtain ⟨j, hj, rfl⟩ := List.getElem_of_mem hx
      exact .inr ⟨j, hj, hj, hv⟩
end Go.Proofs.Ytkmgbejhbkbaoaa

/- Rows copied into others. -/
namespace Go.Proofs.Ytkmgbejhbkbaoaa
set_option linter.unusedSimpArgs false
set_option linter.unusedVariables false
open Go.RowKit

section
variable {α : Type} {d : Kd α} {e : TypeId} {w w' : World} {S : List Nat} {v : Value} {xs : List α}
theorem elems_single {x : α} {cs : List Value} (h : d.rep w S x cs) : Elems d w [S] cs [x] := by
  refine ⟨rfl, fun i y hy => ?_⟩
  rcases i with _ | i
  · simp at hy; subst hy
    refine ⟨S, rfl, ?_⟩
    have hl := d.len h
    simpa [List.take_of_length_le (Nat.le_of_eq hl)] using h
  · simp at hy
theorem mem_chunk {l : List Value} {n sz : Nat} (h0 : 0 < sz) (hl : l.length = n * sz) {u : Value} (hu : u ∈ l) : ∃ i, i < n ∧ u ∈ (l.drop (i * sz)).take sz := by
  obtain ⟨j, hj, rfl⟩ := List.getElem_of_mem hu
  have hlt : j / sz < n := by rw [Nat.div_lt_iff_lt_mul h0]; omega
  refine ⟨j / sz, hlt, ?_⟩
  have h1 : j / sz * sz + j % sz = j := Nat.div_add_mod' j sz
  have h2 := Nat.mod_lt j h0
  refine List.mem_of_getElem? (i := j % sz) ?_
  rw [List.getElem?_take_of_lt h2, List.getElem?_drop, h1, List.getElem?_eq_getElem hj]
/-- a slice's elements as a source -/
theorem SlR.src (h : SlR d e w S v xs) (h0 : 0 < d.sz) : ∃ news Sy, Elems d w Sy news xs ∧ news.length = xs.length * d.sz ∧ (∀ u ∈ news, u.oneCell' = true) ∧ Src w v xs.length news ∧ (∀ k ∈ Sy.flatten, k ∈ S) ∧ (S.Nodup → Sy.flatten.Nodup) := by
  rcases h with ⟨A, rfl, rfl, rfl⟩ | ⟨g, cap, C, Ss, rfl, hc, h1, h2, hb, hC, hn, rfl, hE⟩
  · exact ⟨[], [], ⟨rfl, fun i x hx => by simp at hx⟩, by simp, by simp, ⟨A, 0, rfl, fun h => by simp at h⟩, by simp, by simp⟩
  · have hlen : (C.toList.take (xs.length * d.sz)).length = xs.length * d.sz := by
      have hcl : C.toList.length = cap * d.sz := by rw [Array.length_toList, hC]
      rw [List.length_take, hcl]; exact Nat.min_eq_left (Nat.mul_le_mul_right _ h1)
    have hE' : Elems d w Ss (C.toList.take (xs.length * d.sz)) xs := by
      refine ⟨hE.1, fun i x hx => ?_⟩
      obtain ⟨Si, hSi, hr⟩ := hE.2 i x hx
      refine ⟨Si, hSi, ?_⟩
      have hi : i < xs.length := (List.getElem?_eq_some_iff.1 hx).1
      have h3 : (i + 1) * d.sz ≤ xs.length * d.sz := Nat.mul_le_mul_right _ hi
      rw [Nat.add_mul, Nat.one_mul] at h3
      rw [List.drop_take, List.take_take, Nat.min_eq_left (by omega)]
      exact hr
    refine ⟨_, Ss, hE', hlen, fun u hu => ?_, ⟨_, cap, rfl, fun _ => ⟨_, rfl, fun j u hu => ?_⟩⟩, by simp; exact fun k l hl hk => .inr ⟨l, hl, hk⟩, fun hn => (List.nodup_cons.1 hn).2⟩
    · obtain ⟨i, hi, hu⟩ := mem_chunk h0 hlen hu
      obtain ⟨Si, _, hr⟩ := hE'.2 i xs[i] (List.getElem?_eq_getElem hi)
      exact d.one hr u hu
    · rw [Addr.add_lit, Nat.zero_add]
      refine hb.cell ?_
      rw [List.getElem?_take] at hu
      split at hu
      · simpa using hu
      · cases hu
theorem Src.ext0 {x : Value} {m : Nat} {news : List Value} (h : Src w x m news) (hx : Ext [] w w') : Src w' x m news := by
  obtain ⟨B, c, rfl, h⟩ := h
  refine ⟨B, c, rfl, fun hm => ?_⟩
  obtain ⟨a, rfl, h2⟩ := h hm
  exact ⟨a, rfl, fun j u hu => hx.cell (h2 j u hu) (by simp)⟩
theorem Elems.ext0 {Ss : List (List Nat)} {C : List Value} (h : Elems d w Ss C xs) (hx : Ext [] w w') : Elems d w' Ss C xs := h.move fun k hk => hx.block k (h.lt k hk) (by simp)
theorem le_bytesB {n b : Nat} (h : n ≤ 1073741824) (hb : b ≤ 1000) : (n + 1) * b ≤ 140737488355328 := Nat.le_trans (Nat.mul_le_mul (Nat.add_le_add_right h 1) hb) (by decide)
theorem le_bytesA {n b : Nat} (h : n ≤ 1073741824) (hb : b ≤ 1000) : n * b ≤ 140737488355328 := Nat.le_trans (Nat.mul_le_mul h hb) (by decide)
/-- what a made row's element adds -/
theorem New.append1 {w wr w1 w2 : World} {S S1 S' : List Nat} (h : New w wr S) (h1 : New wr w1 S1) {w1' : World} (ha : Ext [] w1 w1') (h2 : Ext S w1' w2) (hf : ∀ k ∈ S', k ∈ S ∨ k = w1'.heap.size ∨ k ∈ S1) (hn : S.Nodup → S1.Nodup → S'.Nodup) : New w w2 S' := by
  have hx : Ext [] w w1' := (h.ext.nil h1.ext).nil ha
  refine ⟨hx.trans h2 fun k hk => .inr (h.fresh k hk), fun k hk => ?_, hn h.nodup h1.nodup⟩
  have e1 := h.ext.size
  have e2 := h1.ext.size
  have e3 := ha.size
  rcases hf k hk with h3 | h3 | h3
  · exact h.fresh k h3
  · omega
  · have := h1.fresh k h3; omega
end
end Go.Proofs.Ytkmgbejhbkbaoaa

/- The program's split: a function of one's own. -/
namespace Go.Proofs.Ytkmgbejhbkbaoaa
set_option linter.unusedSimpArgs false
set_option linter.unusedVariables false
open Go.RowKit

theorem Try.info49 : (Try.prog.info? 49).map (fun i => (i.zero, i.size, i.bytes)) = some (some (.agg #[.int .i64 0, .int .i64 0]), 2, 16) := by kernel_rfl
theorem ei_in : EI Try.prog 44 49 2 16 := ei_of Try.underlying44 Try.info49 rfl (by decide)
theorem Try.info46 : (Try.prog.info? 46).map (fun i => (i.zero, i.size, i.bytes)) = some (some (.agg #[.int .i64 0, .slice none 0 0]), 2, 32) := by kernel_rfl
theorem ei_phi : EI Try.prog 38 46 2 32 := ei_of Try.underlying38 Try.info46 rfl (by decide)
theorem Try.info54 : (Try.prog.info? 54).map (fun i => (i.zero, i.size, i.bytes)) = some (some (.agg #[.int .i64 0, .int .i64 0, .int .i64 0, .slice none 0 0, .int .i32 0]), 5, 56) := by kernel_rfl
theorem ei_ins : EI Try.prog 39 54 5 56 := ei_of Try.underlying39 Try.info54 rfl (by decide)
theorem Try.info43 : (Try.prog.info? 43).map (fun i => (i.zero, i.size, i.bytes)) = some (some (.agg #[.slice none 0 0, .slice none 0 0, .int .i64 0, .slice none 0 0, .slice none 0 0, .int .i32 0]), 6, 112) := by kernel_rfl
theorem ei_block : EI Try.prog 24 43 6 112 := ei_of Try.underlying24 Try.info43 rfl (by decide)

theorem eq_nil_some (a : Addr) (n c : Nat) (w : World) : (binOp .eql 44 (.slice (some a) n c) (.slice none 0 0)).run Try.prog w = .ok (.bool false) w := by kernel_rfl
theorem eq_nil_none (w : World) : (binOp .eql 44 (.slice none 0 0) (.slice none 0 0)).run Try.prog w = .ok (.bool true) w := by kernel_rfl
set_option maxRecDepth 20000 in
theorem cloneIn_calls {w : World} {S : List Nat} {v : Value} {xs : List JIn} (h : SlR kIn 49 w S v xs) (hn : xs.length ≤ 1073741824) :
    Calls Try.prog 58 #[v] w fun e w' => ∃ v' S', e = .returned v' ∧ SlR kIn 49 w' S' v' xs ∧ New w w' S' := by
  obtain ⟨A, cap, rfl, hcap⟩ := h.shape
  cases A with
  | none =>
    have hx : xs = [] := by
      rcases h with ⟨A, hv, rfl, _⟩ | ⟨g, cap, C, Ss, hv, _⟩
      · rfl
      · cases hv
    subst hx
    have hc : cap = 0 := by
      rcases h with ⟨A, hv, _, _⟩ | ⟨g, cap, C, Ss, hv, _⟩
      · injection hv
      · cases hv
    subst hc
    have heq := eq_nil_none w
    go_enter Try.func58, Try.ntmps58
    go_wp2
    go_ret
    exact ⟨_, [], rfl, SlR.nil _ _ _, New.refl _⟩
  | some a =>
    obtain ⟨news, Sy, hE, hl, h1, hs, hsub, hnd⟩ := h.src (by decide)
    have hne : ∀ k ∈ Sy.flatten, k ∉ ([] : List Nat) := by simp
    have hbs : xs.length * 16 ≤ 140737488355328 := le_bytesA hn (by decide)
    have hml : xs.length ≤ maxLen := by simp only [maxLen]; omega
    have heq := eq_nil_some a xs.length cap w
    go_enter Try.func58, Try.ntmps58
    have hxa : Ext [] w (w.alloc (.cells #[] 49)) := (Ext.refl _ _).alloc _
    go_wp2_with (at_builtin; refine wpList_append_sl (d := kIn) (xs := []) (ys := xs) rfl (.tmp 5) (.tmp 6) 44 rfl ei_in rfl (S := []) (.inl ⟨_, rfl, rfl, rfl⟩) rfl news Sy (hE.ext0 hxa) hl h1 (hs.ext0 hxa) hne (by simpa using hml) (by simpa using hbs) ?_; intro v' w' S' hs' hx' hf' hn')
    go_ret
    have hSy : Sy.flatten = [] := by
      rw [List.flatten_eq_nil_iff]
      intro l hl
      obtain ⟨i, hi, rfl⟩ := List.getElem_of_mem hl
      have hi' : i < xs.length := by rw [← hE.1]; exact hi
      obtain ⟨Si, hSi, hr⟩ := hE.2 i xs[i] (List.getElem?_eq_getElem hi')
      rw [List.getElem?_eq_getElem hi] at hSi
      injection hSi with hSi
      rw [hSi]; exact hr.1
    rw [hSy] at hf' hn'
    refine ⟨v', S', rfl, by simpa using hs', hxa.nil hx', fun k hk => ?_, hn' (by simp) (by simp)⟩
    rcases hf' k hk with h3 | h3 | h3
    · cases h3
    · simp at h3; omega
    · cases h3

/-- what a closure hands back: a thing of its own, the same -/
def OwnPost {α : Type} (d : Kd α) (x : α) (w : World) (e : Ending) (w' : World) : Prop := ∃ cs' S', e = .returned (.agg cs'.toArray) ∧ d.rep w' S' x cs' ∧ New w w' S'
theorem New.then {w w1 w2 : World} {S1 S2 : List Nat} (h1 : New w w1 S1) (hl : ∀ k ∈ S1, k < w1.heap.size) (h2 : New w1 w2 S2) : New w w2 (S1 ++ S2) := by
  have := h1.ext.size
  refine ⟨h1.ext.nil h2.ext, fun k hk => ?_, List.nodup_append.2 ⟨h1.nodup, h2.nodup, ?_⟩⟩
  · rcases List.mem_append.1 hk with hk | hk
    · exact h1.fresh k hk
    · have := h2.fresh k hk; omega
  · rintro a ha b hb rfl
    have := hl a ha; have := h2.fresh a hb; omega

set_option maxRecDepth 20000 in
theorem ownIns_calls {w : World} {S : List Nat} {cs : List Value} {x : JIns} (h : kIns.rep w S x cs) (hn : x.args.length ≤ 1073741824) : Calls Try.prog 60 #[.agg cs.toArray] w (OwnPost kIns x w) := by
  obtain ⟨v, rfl, h⟩ := h
  obtain ⟨w1, hw1⟩ : ∃ w1, w1 = (w.alloc (.cells #[.int .i64 x.op, .int .i64 x.dst, .int .i64 x.two, v, .int .i32 x.imm] 54)).alloc (.cells #[.int .i64 0, .int .i64 0, .int .i64 0, .slice none 0 0, .int .i32 0] 54) := ⟨_, rfl⟩
  have hx1 : Ext [] w w1 := by rw [hw1]; exact ((Ext.refl _ _).alloc _).alloc _
  have b1 : Blk w1 w.heap.size 54 #[.int .i64 x.op, .int .i64 x.dst, .int .i64 x.two, v, .int .i32 x.imm] := by rw [hw1]; exact (Blk.new _ _ _).alloc _
  have b2 : Blk w1 (w.heap.size + 1) 54 #[.int .i64 0, .int .i64 0, .int .i64 0, .slice none 0 0, .int .i32 0] := by rw [hw1]; simpa using Blk.new (w.alloc (.cells #[.int .i64 x.op, .int .i64 x.dst, .int .i64 x.two, v, .int .i32 x.imm] 54)) _ _
  have hsz := b2.lt
  have c3 := b1.cell (i := 3) rfl
  go_enter Try.func60, Try.ntmps60
  go_wp2_with fail
  rw [← hw1]
  clear hw1
  refine (clone_calls (h.ext0 hx1) hn).mono ?_
  rintro e w2 ⟨v2, S2, rfl, h2, hx2, hf2, hn2⟩
  obtain ⟨A2, c2, rfl, _⟩ := h2.shape
  have b1' := b1.ext hx2 (by simp)
  have b2' := b2.ext hx2 (by simp)
  have k0 := b1'.cell (i := 0) rfl
  have k1 := b1'.cell (i := 1) rfl
  have k2 := b1'.cell (i := 2) rfl
  have k3 := b1'.cell (i := 3) rfl
  have k4 := b1'.cell (i := 4) rfl
  have f3 := b1'.frozen 3
  have m0 := b2'.cell (i := 0) rfl
  have g0 := b2'.frozen 0
  have m1 := b2'.cell (i := 1) rfl
  have g1 := b2'.frozen 1
  have m2 := b2'.cell (i := 2) rfl
  have g2 := b2'.frozen 2
  have m3 := b2'.cell (i := 3) rfl
  have g3 := b2'.frozen 3
  have m4 := b2'.cell (i := 4) rfl
  have g4 := b2'.frozen 4
  go_wp2
  refine bodyPost_ret (v := .agg #[.int .i64 x.op, .int .i64 x.dst, .int .i64 x.two, .slice A2 x.args.length c2, .int .i32 x.imm]) (by simp [results, Try.results60, go_sem, m0, m1, m2, m3, m4]) rfl ?_
  refine ⟨[.int .i64 x.op, .int .i64 x.dst, .int .i64 x.two, .slice A2 x.args.length c2, .int .i32 x.imm], S2, rfl, ⟨_, rfl, h2.ext (M := [w.heap.size, w.heap.size + 1]) ?_ (fun k hk => by have := hf2 k hk; simp; omega)⟩, ⟨(hx1.nil hx2).trans (M' := [w.heap.size, w.heap.size + 1]) ?_ (fun k hk => .inr (by simp at hk; omega)), fun k hk => by have := hf2 k hk; omega, hn2⟩⟩
  all_goals
    repeat (refine Ext.setCell ?_ (.inl (by simp)) _)
    exact Ext.refl _ _

set_option maxRecDepth 20000 in
theorem ownPhi_calls {w : World} {S : List Nat} {cs : List Value} {x : JPhi} (h : kPhi.rep w S x cs) (hn : x.ins.length ≤ 1073741824) : Calls Try.prog 57 #[.agg cs.toArray] w (OwnPost kPhi x w) := by
  obtain ⟨v, rfl, h⟩ := h
  obtain ⟨w1, hw1⟩ : ∃ w1, w1 = (w.alloc (.cells #[.int .i64 x.dst, v] 46)).alloc (.cells #[.int .i64 0, .slice none 0 0] 46) := ⟨_, rfl⟩
  have hx1 : Ext [] w w1 := by rw [hw1]; exact ((Ext.refl _ _).alloc _).alloc _
  have b1 : Blk w1 w.heap.size 46 #[.int .i64 x.dst, v] := by rw [hw1]; exact (Blk.new _ _ _).alloc _
  have b2 : Blk w1 (w.heap.size + 1) 46 #[.int .i64 0, .slice none 0 0] := by rw [hw1]; simpa using Blk.new (w.alloc (.cells #[.int .i64 x.dst, v] 46)) _ _
  have hsz := b2.lt
  have c3 := b1.cell (i := 1) rfl
  go_enter Try.func57, Try.ntmps57
  go_wp2_with fail
  rw [← hw1]
  clear hw1
  refine (cloneIn_calls (h.ext0 hx1) hn).mono ?_
  rintro e w2 ⟨v2, S2, rfl, h2, ⟨hx2, hf2, hn2⟩⟩
  obtain ⟨A2, c2, rfl, _⟩ := h2.shape
  have b1' := b1.ext hx2 (by simp)
  have b2' := b2.ext hx2 (by simp)
  have k0 := b1'.cell (i := 0) rfl
  have k1 := b1'.cell (i := 1) rfl
  have f3 := b1'.frozen 1
  have m0 := b2'.cell (i := 0) rfl
  have g0 := b2'.frozen 0
  have m1 := b2'.cell (i := 1) rfl
  have g1 := b2'.frozen 1
  go_wp2
  refine bodyPost_ret (v := .agg #[.int .i64 x.dst, .slice A2 x.ins.length c2]) (by simp [results, Try.results57, go_sem, m0, m1]) rfl ?_
  refine ⟨[.int .i64 x.dst, .slice A2 x.ins.length c2], S2, rfl, ⟨_, rfl, h2.ext (M := [w.heap.size, w.heap.size + 1]) ?_ (fun k hk => by have := hf2 k hk; simp; omega)⟩, ⟨(hx1.nil hx2).trans (M' := [w.heap.size, w.heap.size + 1]) ?_ (fun k hk => .inr (by simp at hk; omega)), fun k hk => by have := hf2 k hk; omega, hn2⟩⟩
  all_goals
    repeat (refine Ext.setCell ?_ (.inl (by simp)) _)
    exact Ext.refl _ _

set_option maxRecDepth 20000 in
set_option maxHeartbeats 400000 in
theorem copiedIns_calls {w : World} {S : List Nat} {v : Value} {xs : List JIns} (h : SlR kIns 54 w S v xs) (hn : xs.length ≤ 1073741824) (hq : ∀ x ∈ xs, x.args.length ≤ 1073741824) :
    Calls Try.prog 59 #[v, .func (.func 60) #[] #[]] w fun e w' => ∃ v' S', e = .returned v' ∧ SlR kIns 54 w' S' v' xs ∧ New w w' S' := by
  obtain ⟨A, cap, rfl, hcap⟩ := h.shape
  go_enter Try.func59, Try.ntmps59
  go_wp2
  go_loopg [5, 10] xs.length (fun k vo vi wr => ∃ (i : Nat) (So : List Nat), vi = .int .i64 (i : Int) ∧ i ≤ xs.length ∧ Hid (i + k = xs.length) ∧ SlR kIns 54 wr So vo (xs.take i) ∧ New w wr So)
  case atStart => exact ⟨0, [], rfl, by omega, by simp [Hid], by simpa using SlR.nil _ _ _, New.refl _⟩
  case round =>
    obtain ⟨i, So, rfl, hi, HK, hso, hnew⟩ := hrel
    have hfl : (xs.take i).length ≤ 1073741824 := by rw [List.length_take]; omega
    by_cases hlt : i < xs.length
    · obtain ⟨g, Sj, cs, rfl, hg, _, ⟨v0, rfl, hv0⟩, hcj⟩ := (h.ext0 hnew.ext).cells i hlt
      have e0 := hcj 0 _ rfl
      have e1 := hcj 1 _ rfl
      have e2 := hcj 2 _ rfl
      have e3 := hcj 3 _ rfl
      have e4 := hcj 4 _ rfl
      simp only [kIns, Nat.add_zero] at e0 e1 e2 e3 e4
      have hsn : Hid (xs.take (i + 1) = xs.take i ++ [xs[i]]) := by rw [Hid, List.take_succ_eq_append_getElem hlt]
      have hqx := hq xs[i] (List.getElem_mem hlt)
      generalize xs[i] = x at *
      have Hqx := Lib.hid hqx
      clear hcj hqx
      obtain ⟨A0, c0, rfl, _⟩ := hv0.shape
      obtain ⟨w1, hw1⟩ : ∃ w1, w1 = wr.alloc (.cells #[.int .i64 x.op, .int .i64 x.dst, .int .i64 x.two, .slice A0 x.args.length c0, .int .i32 x.imm] 54) := ⟨_, rfl⟩
      have hx1 : Ext [] wr w1 := by rw [hw1]; exact (Ext.refl _ _).alloc _
      have b1 : Blk w1 wr.heap.size 54 #[.int .i64 x.op, .int .i64 x.dst, .int .i64 x.two, .slice A0 x.args.length c0, .int .i32 x.imm] := by rw [hw1]; exact Blk.new _ _ _
      go_wp2_with fail
      rw [← hw1]
      clear hw1
      refine (ownIns_calls (x := x) (cs := [.int .i64 x.op, .int .i64 x.dst, .int .i64 x.two, .slice A0 x.args.length c0, .int .i32 x.imm]) ⟨_, rfl, hv0.ext0 hx1⟩ Hqx.out).mono ?_
      rintro e w2 ⟨cs', S1, rfl, ⟨v2, rfl, h2⟩, hnew1⟩
      obtain ⟨A2, c2, rfl, _⟩ := h2.shape
      have hso2 := (hso.ext0 hx1).ext0 hnew1.ext
      have hnew1' : New wr w2 S1 := ⟨hx1.nil hnew1.ext, fun k hk => Nat.le_trans hx1.size (hnew1.fresh k hk), hnew1.nodup⟩
      have hlt1 : ∀ k ∈ So, k < wr.heap.size := hso.lt
      have hdis : ∀ k ∈ [S1].flatten, k ∉ So := fun k hk hk2 => by have := hlt1 k hk2; have := hnew1'.fresh k (by simpa using hk); omega
      have hxa : Ext [] w2 (w2.alloc (.cells #[.int .i64 x.op, .int .i64 x.dst, .int .i64 x.two, .slice A2 x.args.length c2, .int .i32 x.imm] 54)) := (Ext.refl _ _).alloc _
      have h2' := h2.ext0 hxa
      have hrp2 : kIns.rep _ S1 x [.int .i64 x.op, .int .i64 x.dst, .int .i64 x.two, .slice A2 x.args.length c2, .int .i32 x.imm] := ⟨_, rfl, h2'⟩
      have hone := Kd.one kIns hrp2
      clear e0
      go_wp2_with (at_builtin; refine wpList_append_sl (d := kIns) (ys := [x]) rfl (.tmp 14) (.tmp 18) 39 rfl ei_ins rfl (hso2.ext0 hxa) rfl [.int .i64 x.op, .int .i64 x.dst, .int .i64 x.two, .slice A2 x.args.length c2, .int .i32 x.imm] [S1] (elems_single hrp2) rfl hone (Src.blk 1) hdis (le_maxLen hfl) (le_bytesB hfl (by decide)) ?_; intro v' w' S' hs' hx' hf' hn')
      go_roundg (gk - 1)
      case measure => have := HK.out; omega
      case rel => exact ⟨i + 1, S', by go_num, by omega, by have := HK.out; simp only [Hid]; omega, by rw [hsn.out]; exact hs', hnew.append1 hnew1' hxa hx' (fun k hk => by simpa using hf' k hk) (fun a b => hn' a (by simpa using b))⟩
    · have hie : i = xs.length := by omega
      subst hie
      rw [List.take_length] at hso
      go_wp2
      go_ret
      exact ⟨_, So, rfl, hso, hnew⟩

set_option maxRecDepth 20000 in
set_option maxHeartbeats 400000 in
theorem copiedPhi_calls {w : World} {S : List Nat} {v : Value} {xs : List JPhi} (h : SlR kPhi 46 w S v xs) (hn : xs.length ≤ 1073741824) (hq : ∀ x ∈ xs, x.ins.length ≤ 1073741824) :
    Calls Try.prog 56 #[v, .func (.func 57) #[] #[]] w fun e w' => ∃ v' S', e = .returned v' ∧ SlR kPhi 46 w' S' v' xs ∧ New w w' S' := by
  obtain ⟨A, cap, rfl, hcap⟩ := h.shape
  go_enter Try.func56, Try.ntmps56
  go_wp2
  go_loopg [5, 10] xs.length (fun k vo vi wr => ∃ (i : Nat) (So : List Nat), vi = .int .i64 (i : Int) ∧ i ≤ xs.length ∧ Hid (i + k = xs.length) ∧ SlR kPhi 46 wr So vo (xs.take i) ∧ New w wr So)
  case atStart => exact ⟨0, [], rfl, by omega, by simp [Hid], by simpa using SlR.nil _ _ _, New.refl _⟩
  case round =>
    obtain ⟨i, So, rfl, hi, HK, hso, hnew⟩ := hrel
    have hfl : (xs.take i).length ≤ 1073741824 := by rw [List.length_take]; omega
    by_cases hlt : i < xs.length
    · obtain ⟨g, Sj, cs, rfl, hg, _, ⟨v0, rfl, hv0⟩, hcj⟩ := (h.ext0 hnew.ext).cells i hlt
      have e0 := hcj 0 _ rfl
      have e1 := hcj 1 _ rfl
      simp only [kPhi, Nat.add_zero] at e0 e1
      have hsn : Hid (xs.take (i + 1) = xs.take i ++ [xs[i]]) := by rw [Hid, List.take_succ_eq_append_getElem hlt]
      have hqx := hq xs[i] (List.getElem_mem hlt)
      generalize xs[i] = x at *
      have Hqx := Lib.hid hqx
      clear hcj hqx
      obtain ⟨A0, c0, rfl, _⟩ := hv0.shape
      obtain ⟨w1, hw1⟩ : ∃ w1, w1 = wr.alloc (.cells #[.int .i64 x.dst, .slice A0 x.ins.length c0] 46) := ⟨_, rfl⟩
      have hx1 : Ext [] wr w1 := by rw [hw1]; exact (Ext.refl _ _).alloc _
      have b1 : Blk w1 wr.heap.size 46 #[.int .i64 x.dst, .slice A0 x.ins.length c0] := by rw [hw1]; exact Blk.new _ _ _
      go_wp2_with fail
      rw [← hw1]
      clear hw1
      refine (ownPhi_calls (x := x) (cs := [.int .i64 x.dst, .slice A0 x.ins.length c0]) ⟨_, rfl, hv0.ext0 hx1⟩ Hqx.out).mono ?_
      rintro e w2 ⟨cs', S1, rfl, ⟨v2, rfl, h2⟩, hnew1⟩
      obtain ⟨A2, c2, rfl, _⟩ := h2.shape
      have hso2 := (hso.ext0 hx1).ext0 hnew1.ext
      have hnew1' : New wr w2 S1 := ⟨hx1.nil hnew1.ext, fun k hk => Nat.le_trans hx1.size (hnew1.fresh k hk), hnew1.nodup⟩
      have hlt1 : ∀ k ∈ So, k < wr.heap.size := hso.lt
      have hdis : ∀ k ∈ [S1].flatten, k ∉ So := fun k hk hk2 => by have := hlt1 k hk2; have := hnew1'.fresh k (by simpa using hk); omega
      have hxa : Ext [] w2 (w2.alloc (.cells #[.int .i64 x.dst, .slice A2 x.ins.length c2] 46)) := (Ext.refl _ _).alloc _
      have h2' := h2.ext0 hxa
      have hrp2 : kPhi.rep _ S1 x [.int .i64 x.dst, .slice A2 x.ins.length c2] := ⟨_, rfl, h2'⟩
      have hone := Kd.one kPhi hrp2
      clear e0
      go_wp2_with (at_builtin; refine wpList_append_sl (d := kPhi) (ys := [x]) rfl (.tmp 14) (.tmp 18) 38 rfl ei_phi rfl (hso2.ext0 hxa) rfl [.int .i64 x.dst, .slice A2 x.ins.length c2] [S1] (elems_single hrp2) rfl hone (Src.blk 1) hdis (le_maxLen hfl) (le_bytesB hfl (by decide)) ?_; intro v' w' S' hs' hx' hf' hn')
      go_roundg (gk - 1)
      case measure => have := HK.out; omega
      case rel => exact ⟨i + 1, S', by go_num, by omega, by have := HK.out; simp only [Hid]; omega, by rw [hsn.out]; exact hs', hnew.append1 hnew1' hxa hx' (fun k hk => by simpa using hf' k hk) (fun a b => hn' a (by simpa using b))⟩
    · have hie : i = xs.length := by omega
      subst hie
      rw [List.take_length] at hso
      go_wp2
      go_ret
      exact ⟨_, So, rfl, hso, hnew⟩
end Go.Proofs.Ytkmgbejhbkbaoaa

/- The program's split: blocks of one's own; a function of one's own. -/
namespace Go.Proofs.Ytkmgbejhbkbaoaa
set_option linter.unusedSimpArgs false
set_option linter.unusedVariables false
open Go.RowKit

def smallB (x : JBlock) : Prop := x.phis.length ≤ 1073741824 ∧ x.ins.length ≤ 1073741824 ∧ (∀ p ∈ x.phis, p.ins.length ≤ 1073741824) ∧ (∀ s ∈ x.ins, s.args.length ≤ 1073741824) ∧ x.term.args.length ≤ 1073741824 ∧ x.term.to.length ≤ 1073741824

/-- what the closure has behind its drawn statement -/
def MidW (w wd : World) (x : JBlock) (vp vi : Value) (W : World) : Prop := ∃ va vt Sa St, Blk W w.heap.size 43 #[vp, vi, .int .i64 x.term.kind, va, vt, .int .i32 x.term.imm] ∧ SlR kInt 3 W Sa va x.term.args ∧ SlR kInt 3 W St vt x.term.to ∧
  Ext [w.heap.size] wd W ∧ (∀ k ∈ Sa, wd.heap.size ≤ k) ∧ (∀ k ∈ St, wd.heap.size ≤ k) ∧ (Sa ++ St).Nodup ∧ va.oneCell' = true ∧ vt.oneCell' = true

set_option maxRecDepth 20000 in
set_option maxHeartbeats 1600000 in
theorem ownBlock_calls {w : World} {S : List Nat} {cs : List Value} {x : JBlock} (h : kBlock.rep w S x cs) (hq : smallB x) : Calls Try.prog 55 #[.agg cs.toArray] w (OwnPost kBlock x w) := by
  obtain ⟨vp, vi, va, vt, Sp, Si, Sa, St, rfl, hr⟩ := h
  obtain ⟨Ap, cp, rfl, _⟩ := hr.p.shape
  obtain ⟨Ai, ci, rfl, _⟩ := hr.i.shape
  obtain ⟨Aa, ca, rfl, _⟩ := hr.a.shape
  obtain ⟨At, ct, rfl, _⟩ := hr.t.shape
  have Hr := hr
  obtain ⟨q1, q2, q3, q4, hna, hnt⟩ := hq
  have Q3 := Lib.hid q3
  have Q4 := Lib.hid q4
  clear q3 q4 hr
  obtain ⟨w1, hw1⟩ : ∃ w1, w1 = (w.alloc (.cells #[.slice Ap x.phis.length cp, .slice Ai x.ins.length ci, .int .i64 x.term.kind, .slice Aa x.term.args.length ca, .slice At x.term.to.length ct, .int .i32 x.term.imm] 43)).alloc (.cells #[.slice none 0 0, .slice none 0 0, .int .i64 0, .slice none 0 0, .slice none 0 0, .int .i32 0] 43) := ⟨_, rfl⟩
  have hx1 : Ext [] w w1 := by rw [hw1]; exact ((Ext.refl _ _).alloc _).alloc _
  have b1 : Blk w1 w.heap.size 43 #[.slice Ap x.phis.length cp, .slice Ai x.ins.length ci, .int .i64 x.term.kind, .slice Aa x.term.args.length ca, .slice At x.term.to.length ct, .int .i32 x.term.imm] := by rw [hw1]; exact (Blk.new _ _ _).alloc _
  have b2 : Blk w1 (w.heap.size + 1) 43 #[.slice none 0 0, .slice none 0 0, .int .i64 0, .slice none 0 0, .slice none 0 0, .int .i32 0] := by rw [hw1]; simpa using Blk.new (w.alloc (.cells #[.slice Ap x.phis.length cp, .slice Ai x.ins.length ci, .int .i64 x.term.kind, .slice Aa x.term.args.length ca, .slice At x.term.to.length ct, .int .i32 x.term.imm] 43)) _ _
  have hsz := b2.lt
  have c0 := b1.cell (i := 0) rfl
  go_enter Try.func55, Try.ntmps55
  go_wp2_with fail
  rw [← hw1]
  clear hw1
  refine (copiedPhi_calls (Hr.p.ext0 hx1) q1 Q3.out).mono ?_
  rintro e w2 ⟨v2, S2, rfl, h2, hnew2⟩
  obtain ⟨Ap2, cp2, rfl, _⟩ := h2.shape
  have b1' := b1.ext hnew2.ext (by simp)
  have k0 := b1'.cell (i := 0) rfl
  have f0 := b1'.frozen 0
  have j1 := b1'.cell (i := 1) rfl
  have hb3 := b1'.set 0 (.slice Ap2 x.phis.length cp2)
  have hx3 : Ext [w.heap.size, w.heap.size + 1] w2 (w2.setCell ⟨w.heap.size, 0, none⟩ (.slice Ap2 x.phis.length cp2)) := (Ext.refl _ _).setCell (.inl (by simp)) _
  obtain ⟨w3, hw3⟩ : ∃ w3, w3 = w2.setCell ⟨w.heap.size, 0, none⟩ (.slice Ap2 x.phis.length cp2) := ⟨_, rfl⟩
  rw [← hw3] at hb3 hx3
  have c1 := hb3.cell (i := 1) rfl
  have hlS := Hr.lt
  have hxw : Ext [w.heap.size, w.heap.size + 1] w w3 := (((hx1.nil hnew2.ext).mono (M' := [w.heap.size, w.heap.size + 1]) (by simp)).same hx3)
  have hoff : ∀ k ∈ S, k ∉ [w.heap.size, w.heap.size + 1] := fun k hk => by have := hlS k hk; simp; omega
  have Hr3 := Hr.move (w' := w3) (fun k hk => hxw.block k (hlS k hk) (hoff k hk))
  have Hoff := Lib.hid hoff
  have HlS := Lib.hid hlS
  have hl2 := h2.lt
  have Hl2 := Lib.hid hl2
  clear hoff hlS hl2
  go_wp2_with fail
  rw [← hw3]
  have hsz3 : w2.heap.size = w3.heap.size := by rw [hw3]; simp
  have b23 := (b2.ext hnew2.ext (by simp)).far (p := ⟨w.heap.size, 0, none⟩) (by simp) (.slice Ap2 x.phis.length cp2)
  rw [← hw3] at b23
  have Hsz3 := Lib.hid hsz3
  clear hw3 hsz3
  refine (copiedIns_calls Hr3.i q2 Q4.out).mono ?_
  rintro e w4 ⟨v4, S4, rfl, h4, hnew4⟩
  obtain ⟨Ai2, ci2, rfl, _⟩ := h4.shape
  have b4 := hb3.ext hnew4.ext (by simp)
  have b24 := b23.ext hnew4.ext (by simp)
  have k1 := b4.cell (i := 1) rfl
  have f1 := b4.frozen 1
  have l4 := b4.lt
  have hb5 := b4.set 1 (.slice Ai2 x.ins.length ci2)
  have hx5 : Ext [w.heap.size, w.heap.size + 1] w4 (w4.setCell ⟨w.heap.size, 1, none⟩ (.slice Ai2 x.ins.length ci2)) := (Ext.refl _ _).setCell (.inl (by simp)) _
  have b25 := b24.far (p := ⟨w.heap.size, 1, none⟩) (by simp) (.slice Ai2 x.ins.length ci2)
  have hl4 := h4.lt
  have Hl4 := Lib.hid hl4
  obtain ⟨w5, hw5⟩ : ∃ w5, w5 = w4.setCell ⟨w.heap.size, 1, none⟩ (.slice Ai2 x.ins.length ci2) := ⟨_, rfl⟩
  have hsz5 : w4.heap.size = w5.heap.size := by rw [hw5]; simp
  rw [← hw5] at hb5 hx5 b25
  go_wp2
  rw [← hw5]
  have Hsz5 := Lib.hid hsz5
  clear hw5 hl4 hsz5
  have hx45 : Ext [w.heap.size, w.heap.size + 1] w w5 := (hxw.nil hnew4.ext).same hx5
  have Hr5 := (Hr.move (w' := w5.drew) (fun k hk => hx45.drew.block k (HlS.out k hk) (Hoff.out k hk)))
  have ha := Hr5.a
  have ht := Hr5.t
  have hkd : Blk w5.drew w.heap.size 43 #[.slice Ap2 x.phis.length cp2, .slice Ai2 x.ins.length ci2, .int .i64 x.term.kind, .slice Aa x.term.args.length ca, .slice At x.term.to.length ct, .int .i32 x.term.imm] := hb5.drew
  obtain ⟨wd, hwd⟩ : ∃ wd, wd = w5.drew := ⟨_, rfl⟩
  have hxd : Ext [] w5 wd := by rw [hwd]; exact (Ext.refl _ _).drew
  have hsd : wd.heap.size = w5.heap.size := by rw [hwd]; simp
  rw [← hwd] at ha ht hkd
  have r3 := hkd.cell (i := 3) rfl
  have r4 := hkd.cell (i := 4) rfl
  have HF : Hid (∀ (wA wB : World) (va vt : Value) (Sa2 St2 : List Nat), Ext [] wd wA → (∀ k ∈ Sa2, wd.heap.size ≤ k) → Sa2.Nodup → Ext [] wA wB → (∀ k ∈ St2, wA.heap.size ≤ k) → St2.Nodup → SlR kInt 3 wA Sa2 va x.term.args → SlR kInt 3 wB St2 vt x.term.to →
      MidW w wd x (.slice Ap2 x.phis.length cp2) (.slice Ai2 x.ins.length ci2) ((wB.setCell ⟨w.heap.size, 3, none⟩ va).setCell ⟨w.heap.size, 4, none⟩ vt)) := by
    intro wA wB va vt Sa2 St2 hxA hfA hnA hxB hfB hnB hA hB
    have hlA := hA.lt
    have hlw := hkd.lt
    have hszA := hxA.size
    have hxs : Ext [w.heap.size] wB ((wB.setCell ⟨w.heap.size, 3, none⟩ va).setCell ⟨w.heap.size, 4, none⟩ vt) := ((Ext.refl _ _).setCell (.inl (by simp)) _).setCell (.inl (by simp)) _
    refine ⟨va, vt, Sa2, St2, ?_, (hA.ext0 hxB).ext hxs (fun k hk => by have := hfA k hk; simp; omega), hB.ext hxs (fun k hk => by have := hfB k hk; simp; omega), ((hxA.nil hxB).mono (M' := [w.heap.size]) (by simp)).same hxs, hfA, fun k hk => by have := hfB k hk; omega, ?_, slice_one hA, slice_one hB⟩
    · simpa using (((hkd.ext hxA (by simp)).ext hxB (by simp)).set 3 va).set 4 vt
    · refine List.nodup_append.2 ⟨hnA, hnB, ?_⟩
      rintro a ha' b hb rfl
      have := hlA a ha'; have := hfB a hb; omega
  refine wp_region_rt (fun _ => True) (.q 0 (.q 1 (.q 4 (.q 5 (.b 2 (.b 3 (.e 6 (.q 8 (.q 9 (.e 7 (.e 10 (.q 11 (.q 12 (.e 13 .nil)))))))) 6 (.e 3 (.q 8 (.q 9 (.e 7 (.e 10 (.q 11 (.q 12 (.e 13 .nil))))))))) 6 (.e 2 (.e 3 (.q 8 (.q 9 (.e 7 (.e 10 (.q 11 (.q 12 (.e 13 .nil)))))))))))))) (by kernel_rfl) (by kernel_rfl) trivial ?_
  rw [← hwd]
  clear hwd
  refine rt_put [11, 12, 13, 14, 15, 16, 17, 18, 19, 20, 21, 22] [] (MidW w wd x (.slice Ap2 x.phis.length cp2) (.slice Ai2 x.ins.length ci2)) ?_ ?_
  · refine rt_quiet (.pointer (some ⟨w.heap.size, 2, none⟩)) rfl rfl (fun W' hC => by simp [go_sem]) ?_
    simp only [put_lit, put_none, List.set_cons_succ, List.set_cons_zero]
    refine rt_quiet (.pointer (some ⟨w.heap.size, 3, none⟩)) rfl rfl (fun W' hC => by simp [go_sem]) ?_
    simp only [put_lit, put_none, List.set_cons_succ, List.set_cons_zero]
    refine rt_quiet (.pointer (some ⟨w.heap.size, 2, none⟩)) rfl rfl (fun W' hC => by simp [go_sem]) ?_
    simp only [put_lit, put_none, List.set_cons_succ, List.set_cons_zero]
    refine rt_quiet (.pointer (some ⟨w.heap.size, 4, none⟩)) rfl rfl (fun W' hC => by simp [go_sem]) ?_
    simp only [put_lit, put_none, List.set_cons_succ, List.set_cons_zero]
    refine ⟨?_, ?_⟩
    · refine s_eff (.slice Aa x.term.args.length ca) (w' := wd) rfl rfl (by simp [go_sem, r3]) ⟨trivial, ?_⟩
      simp only [put_lit, put_none, List.set_cons_succ, List.set_cons_zero]
      refine ⟨?_, ?_⟩
      · skip
        refine s_call (w' := wd) rfl rfl (by simp [go_sem]) ((clone_calls ha hna).mono ?_)
        rintro e wA ⟨va, Sa2, rfl, hA, hxA, hfA, hnA⟩
        refine ⟨va, rfl, trivial, ?_⟩
        simp only [put_lit, put_none, List.set_cons_succ, List.set_cons_zero]
        have r3A := hxA.cell r3 (by simp)
        have r4A := hxA.cell r4 (by simp)
        refine s_eff (.slice At x.term.to.length ct) (w' := wA) rfl rfl (by simp [go_sem, r4A]) ⟨trivial, ?_⟩
        simp only [put_lit, put_none, List.set_cons_succ, List.set_cons_zero]
        refine rt_quiet (.pointer (some ⟨w.heap.size, 2, none⟩)) rfl rfl (fun W' hC => by simp [go_sem]) ?_
        simp only [put_lit, put_none, List.set_cons_succ, List.set_cons_zero]
        refine rt_quiet (.pointer (some ⟨w.heap.size, 3, none⟩)) rfl rfl (fun W' hC => by simp [go_sem]) ?_
        simp only [put_lit, put_none, List.set_cons_succ, List.set_cons_zero]
        refine s_call (w' := wA) rfl rfl (by simp [go_sem]) ((clone_calls (ht.ext0 hxA) hnt).mono ?_)
        rintro e wB ⟨vt, St2, rfl, hB, hxB, hfB, hnB⟩
        refine ⟨vt, rfl, trivial, ?_⟩
        simp only [put_lit, put_none, List.set_cons_succ, List.set_cons_zero]
        obtain ⟨Aa2, ca2, rfl, _⟩ := hA.shape
        obtain ⟨At2, ct2, rfl, _⟩ := hB.shape
        have hkB := (hkd.ext hxA (by simp)).ext hxB (by simp)
        have s3 := hkB.cell (i := 3) rfl
        have s4 := hkB.cell (i := 4) rfl
        have z3 := hkB.frozen 3
        have z4 := hkB.frozen 4
        refine s_eff0 (w' := wB.setCell ⟨w.heap.size, 3, none⟩ (.slice Aa2 x.term.args.length ca2)) rfl rfl (by simp [go_sem, s3, z3]) ⟨trivial, ?_⟩
        simp only [put_lit, put_none, List.set_cons_succ, List.set_cons_zero]
        refine rt_quiet (.pointer (some ⟨w.heap.size, 2, none⟩)) rfl rfl (fun W' hC => by simp [go_sem]) ?_
        simp only [put_lit, put_none, List.set_cons_succ, List.set_cons_zero]
        refine rt_quiet (.pointer (some ⟨w.heap.size, 4, none⟩)) rfl rfl (fun W' hC => by simp [go_sem]) ?_
        simp only [put_lit, put_none, List.set_cons_succ, List.set_cons_zero]
        refine s_eff0 (w' := (wB.setCell ⟨w.heap.size, 3, none⟩ (.slice Aa2 x.term.args.length ca2)).setCell ⟨w.heap.size, 4, none⟩ (.slice At2 x.term.to.length ct2)) rfl rfl (by simp [go_sem, s3, s4, z3, z4]) ⟨trivial, ?_⟩
        simp only [put_lit, put_none, List.set_cons_succ, List.set_cons_zero]
        refine rt_nil ?_
        refine ⟨by trivial, [.pointer (some ⟨w.heap.size, 2, none⟩), .pointer (some ⟨w.heap.size, 3, none⟩), .slice Aa x.term.args.length ca, .slice Aa2 x.term.args.length ca2, .pointer (some ⟨w.heap.size, 2, none⟩), .pointer (some ⟨w.heap.size, 4, none⟩), .slice At x.term.to.length ct, .slice At2 x.term.to.length ct2, .pointer (some ⟨w.heap.size, 2, none⟩), .pointer (some ⟨w.heap.size, 3, none⟩), .pointer (some ⟨w.heap.size, 2, none⟩), .pointer (some ⟨w.heap.size, 4, none⟩)], rfl, ?_, HF.out wA wB _ _ _ _ hxA hfA hnA hxB hfB hnB hA hB⟩
        simp only [List.zip_cons_cons, List.zip_nil_left, List.cons_append, List.nil_append, List.append_nil, puts_cons, puts_nil, put_lit, List.set_cons_succ, List.set_cons_zero]
      · skip
        refine s_eff (.slice At x.term.to.length ct) (w' := wd) rfl rfl (by simp [go_sem, r4]) ⟨trivial, ?_⟩
        simp only [put_lit, put_none, List.set_cons_succ, List.set_cons_zero]
        refine s_call (w' := wd) rfl rfl (by simp [go_sem]) ((clone_calls ha hna).mono ?_)
        rintro e wA ⟨va, Sa2, rfl, hA, hxA, hfA, hnA⟩
        refine ⟨va, rfl, trivial, ?_⟩
        simp only [put_lit, put_none, List.set_cons_succ, List.set_cons_zero]
        have r3A := hxA.cell r3 (by simp)
        have r4A := hxA.cell r4 (by simp)
        refine rt_quiet (.pointer (some ⟨w.heap.size, 2, none⟩)) rfl rfl (fun W' hC => by simp [go_sem]) ?_
        simp only [put_lit, put_none, List.set_cons_succ, List.set_cons_zero]
        refine rt_quiet (.pointer (some ⟨w.heap.size, 3, none⟩)) rfl rfl (fun W' hC => by simp [go_sem]) ?_
        simp only [put_lit, put_none, List.set_cons_succ, List.set_cons_zero]
        refine s_call (w' := wA) rfl rfl (by simp [go_sem]) ((clone_calls (ht.ext0 hxA) hnt).mono ?_)
        rintro e wB ⟨vt, St2, rfl, hB, hxB, hfB, hnB⟩
        refine ⟨vt, rfl, trivial, ?_⟩
        simp only [put_lit, put_none, List.set_cons_succ, List.set_cons_zero]
        obtain ⟨Aa2, ca2, rfl, _⟩ := hA.shape
        obtain ⟨At2, ct2, rfl, _⟩ := hB.shape
        have hkB := (hkd.ext hxA (by simp)).ext hxB (by simp)
        have s3 := hkB.cell (i := 3) rfl
        have s4 := hkB.cell (i := 4) rfl
        have z3 := hkB.frozen 3
        have z4 := hkB.frozen 4
        refine s_eff0 (w' := wB.setCell ⟨w.heap.size, 3, none⟩ (.slice Aa2 x.term.args.length ca2)) rfl rfl (by simp [go_sem, s3, z3]) ⟨trivial, ?_⟩
        simp only [put_lit, put_none, List.set_cons_succ, List.set_cons_zero]
        refine rt_quiet (.pointer (some ⟨w.heap.size, 2, none⟩)) rfl rfl (fun W' hC => by simp [go_sem]) ?_
        simp only [put_lit, put_none, List.set_cons_succ, List.set_cons_zero]
        refine rt_quiet (.pointer (some ⟨w.heap.size, 4, none⟩)) rfl rfl (fun W' hC => by simp [go_sem]) ?_
        simp only [put_lit, put_none, List.set_cons_succ, List.set_cons_zero]
        refine s_eff0 (w' := (wB.setCell ⟨w.heap.size, 3, none⟩ (.slice Aa2 x.term.args.length ca2)).setCell ⟨w.heap.size, 4, none⟩ (.slice At2 x.term.to.length ct2)) rfl rfl (by simp [go_sem, s3, s4, z3, z4]) ⟨trivial, ?_⟩
        simp only [put_lit, put_none, List.set_cons_succ, List.set_cons_zero]
        refine rt_nil ?_
        refine ⟨by trivial, [.pointer (some ⟨w.heap.size, 2, none⟩), .pointer (some ⟨w.heap.size, 3, none⟩), .slice Aa x.term.args.length ca, .slice Aa2 x.term.args.length ca2, .pointer (some ⟨w.heap.size, 2, none⟩), .pointer (some ⟨w.heap.size, 4, none⟩), .slice At x.term.to.length ct, .slice At2 x.term.to.length ct2, .pointer (some ⟨w.heap.size, 2, none⟩), .pointer (some ⟨w.heap.size, 3, none⟩), .pointer (some ⟨w.heap.size, 2, none⟩), .pointer (some ⟨w.heap.size, 4, none⟩)], rfl, ?_, HF.out wA wB _ _ _ _ hxA hfA hnA hxB hfB hnB hA hB⟩
        simp only [List.zip_cons_cons, List.zip_nil_left, List.cons_append, List.nil_append, List.append_nil, puts_cons, puts_nil, put_lit, List.set_cons_succ, List.set_cons_zero]
    · refine s_eff (.slice At x.term.to.length ct) (w' := wd) rfl rfl (by simp [go_sem, r4]) ⟨trivial, ?_⟩
      simp only [put_lit, put_none, List.set_cons_succ, List.set_cons_zero]
      refine s_eff (.slice Aa x.term.args.length ca) (w' := wd) rfl rfl (by simp [go_sem, r3]) ⟨trivial, ?_⟩
      simp only [put_lit, put_none, List.set_cons_succ, List.set_cons_zero]
      refine s_call (w' := wd) rfl rfl (by simp [go_sem]) ((clone_calls ha hna).mono ?_)
      rintro e wA ⟨va, Sa2, rfl, hA, hxA, hfA, hnA⟩
      refine ⟨va, rfl, trivial, ?_⟩
      simp only [put_lit, put_none, List.set_cons_succ, List.set_cons_zero]
      have r3A := hxA.cell r3 (by simp)
      have r4A := hxA.cell r4 (by simp)
      refine rt_quiet (.pointer (some ⟨w.heap.size, 2, none⟩)) rfl rfl (fun W' hC => by simp [go_sem]) ?_
      simp only [put_lit, put_none, List.set_cons_succ, List.set_cons_zero]
      refine rt_quiet (.pointer (some ⟨w.heap.size, 3, none⟩)) rfl rfl (fun W' hC => by simp [go_sem]) ?_
      simp only [put_lit, put_none, List.set_cons_succ, List.set_cons_zero]
      refine s_call (w' := wA) rfl rfl (by simp [go_sem]) ((clone_calls (ht.ext0 hxA) hnt).mono ?_)
      rintro e wB ⟨vt, St2, rfl, hB, hxB, hfB, hnB⟩
      refine ⟨vt, rfl, trivial, ?_⟩
      simp only [put_lit, put_none, List.set_cons_succ, List.set_cons_zero]
      obtain ⟨Aa2, ca2, rfl, _⟩ := hA.shape
      obtain ⟨At2, ct2, rfl, _⟩ := hB.shape
      have hkB := (hkd.ext hxA (by simp)).ext hxB (by simp)
      have s3 := hkB.cell (i := 3) rfl
      have s4 := hkB.cell (i := 4) rfl
      have z3 := hkB.frozen 3
      have z4 := hkB.frozen 4
      refine s_eff0 (w' := wB.setCell ⟨w.heap.size, 3, none⟩ (.slice Aa2 x.term.args.length ca2)) rfl rfl (by simp [go_sem, s3, z3]) ⟨trivial, ?_⟩
      simp only [put_lit, put_none, List.set_cons_succ, List.set_cons_zero]
      refine rt_quiet (.pointer (some ⟨w.heap.size, 2, none⟩)) rfl rfl (fun W' hC => by simp [go_sem]) ?_
      simp only [put_lit, put_none, List.set_cons_succ, List.set_cons_zero]
      refine rt_quiet (.pointer (some ⟨w.heap.size, 4, none⟩)) rfl rfl (fun W' hC => by simp [go_sem]) ?_
      simp only [put_lit, put_none, List.set_cons_succ, List.set_cons_zero]
      refine s_eff0 (w' := (wB.setCell ⟨w.heap.size, 3, none⟩ (.slice Aa2 x.term.args.length ca2)).setCell ⟨w.heap.size, 4, none⟩ (.slice At2 x.term.to.length ct2)) rfl rfl (by simp [go_sem, s3, s4, z3, z4]) ⟨trivial, ?_⟩
      simp only [put_lit, put_none, List.set_cons_succ, List.set_cons_zero]
      refine rt_nil ?_
      refine ⟨by trivial, [.pointer (some ⟨w.heap.size, 2, none⟩), .pointer (some ⟨w.heap.size, 3, none⟩), .slice Aa x.term.args.length ca, .slice Aa2 x.term.args.length ca2, .pointer (some ⟨w.heap.size, 2, none⟩), .pointer (some ⟨w.heap.size, 4, none⟩), .slice At x.term.to.length ct, .slice At2 x.term.to.length ct2, .pointer (some ⟨w.heap.size, 2, none⟩), .pointer (some ⟨w.heap.size, 3, none⟩), .pointer (some ⟨w.heap.size, 2, none⟩), .pointer (some ⟨w.heap.size, 4, none⟩)], rfl, ?_, HF.out wA wB _ _ _ _ hxA hfA hnA hxB hfB hnB hA hB⟩
      simp only [List.zip_cons_cons, List.zip_nil_left, List.cons_append, List.nil_append, List.append_nil, puts_cons, puts_nil, put_lit, List.set_cons_succ, List.set_cons_zero]
  · rintro vs W' hvl ⟨va2, vt2, Sa2, St2, hkB, hA, hB, hxB, hfA, hfB, hnAB, o1, o2⟩
    rcases vs with _ | ⟨z1, _ | ⟨z2, _ | ⟨z3, _ | ⟨z4, _ | ⟨z5, _ | ⟨z6, _ | ⟨z7, _ | ⟨z8, _ | ⟨z9, _ | ⟨z10, _ | ⟨z11, _ | ⟨z12, _ | ⟨z13, vs⟩⟩⟩⟩⟩⟩⟩⟩⟩⟩⟩⟩⟩ <;> first | (exfalso; simp at hvl; done) | skip
    simp only [List.zip_cons_cons, List.zip_nil_left, List.cons_append, List.nil_append, List.append_nil, puts_cons, puts_nil, put_lit, List.set_cons_succ, List.set_cons_zero]
    clear hvl HF
    obtain ⟨Aa2, ca2, rfl, _⟩ := hA.shape
    obtain ⟨At2, ct2, rfl, _⟩ := hB.shape
    have b2f := (b25.ext hxd (by simp)).ext hxB (by simp)
    have m0 := hkB.cell (i := 0) rfl
    have m1 := hkB.cell (i := 1) rfl
    have m2 := hkB.cell (i := 2) rfl
    have m3 := hkB.cell (i := 3) rfl
    have m4 := hkB.cell (i := 4) rfl
    have m5 := hkB.cell (i := 5) rfl
    have n0 := b2f.cell (i := 0) rfl
    have n1 := b2f.cell (i := 1) rfl
    have n2 := b2f.cell (i := 2) rfl
    have n3 := b2f.cell (i := 3) rfl
    have n4 := b2f.cell (i := 4) rfl
    have n5 := b2f.cell (i := 5) rfl
    have g0 := b2f.frozen 0
    have g1 := b2f.frozen 1
    have g2 := b2f.frozen 2
    have g3 := b2f.frozen 3
    have g4 := b2f.frozen 4
    have g5 := b2f.frozen 5
    have hX : Ext [] w W' := ((hx45.nil hxd).trans hxB (fun k hk => .inl (by simp at hk; simp [hk]))).mono (fun k hk => .inr (by simp at hk; omega))
    go_wp2
    refine bodyPost_ret (v := .agg #[.slice Ap2 x.phis.length cp2, .slice Ai2 x.ins.length ci2, .int .i64 x.term.kind, .slice Aa2 x.term.args.length ca2, .slice At2 x.term.to.length ct2, .int .i32 x.term.imm]) (by simp [results, Try.results55, go_sem, n0, n1, n2, n3, n4, n5]) rfl ?_
    have e2 := hnew2.fresh
    have e2' := Hl2.out
    have e4 := hnew4.fresh
    have e4' := Hl4.out
    have s1 := hnew2.ext.size
    have s2 := Hsz3.out
    have s3 := hnew4.ext.size
    have s4 := Hsz5.out
    have hl := b2f.lt
    obtain ⟨Wf, hWf⟩ : ∃ Wf, Wf = (((((W'.setCell ⟨w.heap.size + 1, 0, none⟩ (.slice Ap2 x.phis.length cp2)).setCell ⟨w.heap.size + 1, 1, none⟩ (.slice Ai2 x.ins.length ci2)).setCell ⟨w.heap.size + 1, 2, none⟩ (.int .i64 x.term.kind)).setCell ⟨w.heap.size + 1, 3, none⟩ (.slice Aa2 x.term.args.length ca2)).setCell ⟨w.heap.size + 1, 4, none⟩ (.slice At2 x.term.to.length ct2)).setCell ⟨w.heap.size + 1, 5, none⟩ (.int .i32 x.term.imm) := ⟨_, rfl⟩
    have hxf : Ext [w.heap.size, w.heap.size + 1] W' Wf := by
      rw [hWf]
      repeat (refine Ext.setCell ?_ (.inl (by simp)) _)
      exact Ext.refl _ _
    rw [← hWf]
    clear hWf
    have hxB' : Ext [w.heap.size, w.heap.size + 1] wd W' := hxB.mono (by simp)
    have d2 : ∀ k ∈ S2, k ∉ [w.heap.size, w.heap.size + 1] := fun k hk => by have := e2 k hk; simp; omega
    have d4 : ∀ k ∈ S4, k ∉ [w.heap.size, w.heap.size + 1] := fun k hk => by have := e4 k hk; simp; omega
    have dA : ∀ k ∈ Sa2, k ∉ [w.heap.size, w.heap.size + 1] := fun k hk => by have := hfA k hk; simp; omega
    have dB : ∀ k ∈ St2, k ∉ [w.heap.size, w.heap.size + 1] := fun k hk => by have := hfB k hk; simp; omega
    refine ⟨[.slice Ap2 x.phis.length cp2, .slice Ai2 x.ins.length ci2, .int .i64 x.term.kind, .slice Aa2 x.term.args.length ca2, .slice At2 x.term.to.length ct2, .int .i32 x.term.imm], S2 ++ (S4 ++ (Sa2 ++ St2)), rfl,
      ⟨_, _, _, _, S2, S4, Sa2, St2, rfl, ⟨?_, ?_, hA.ext hxf dA, hB.ext hxf dB, rfl⟩⟩, ⟨hX.trans hxf (fun k hk => .inr (by simp at hk; omega)), fun k hk => ?_, ?_⟩⟩
    · exact (((((h2.ext hx3 d2).ext0 hnew4.ext).ext hx5 d2).ext0 hxd).ext hxB' d2).ext hxf d2
    · exact (((h4.ext hx5 d4).ext0 hxd).ext hxB' d4).ext hxf d4
    · simp only [List.mem_append] at hk
      rcases hk with hk | hk | hk | hk
      · have := e2 k hk; omega
      · have := e4 k hk; omega
      · have := hfA k hk; omega
      · have := hfB k hk; omega
    · refine List.nodup_append.2 ⟨hnew2.nodup, List.nodup_append.2 ⟨hnew4.nodup, hnAB, ?_⟩, ?_⟩
      · rintro a ha' b hb rfl
        have := e4' a ha'
        rcases List.mem_append.1 hb with hb | hb
        · have := hfA a hb; omega
        · have := hfB a hb; omega
      · rintro a ha' b hb rfl
        have := e2' a ha'
        rcases List.mem_append.1 hb with hb | hb
        · have := e4 a hb; omega
        · rcases List.mem_append.1 hb with hb | hb
          · have := hfA a hb; omega
          · have := hfB a hb; omega
end Go.Proofs.Ytkmgbejhbkbaoaa

/- The program's split: a function of one's own. -/
namespace Go.Proofs.Ytkmgbejhbkbaoaa
set_option linter.unusedSimpArgs false
set_option linter.unusedVariables false
open Go.RowKit

set_option maxRecDepth 20000 in
set_option maxHeartbeats 800000 in
theorem copiedBlock_calls {w : World} {S : List Nat} {v : Value} {xs : List JBlock} (h : SlR kBlock 43 w S v xs) (hn : xs.length ≤ 1073741824) (hq : ∀ x ∈ xs, smallB x) :
    Calls Try.prog 54 #[v, .func (.func 55) #[] #[]] w fun e w' => ∃ v' S', e = .returned v' ∧ SlR kBlock 43 w' S' v' xs ∧ New w w' S' := by
  obtain ⟨A, cap, rfl, hcap⟩ := h.shape
  have Hq := Lib.hid hq
  clear hq
  go_enter Try.func54, Try.ntmps54
  go_wp2
  go_loopg [5, 10] xs.length (fun k vo vi wr => ∃ (i : Nat) (So : List Nat), vi = .int .i64 (i : Int) ∧ i ≤ xs.length ∧ Hid (i + k = xs.length) ∧ SlR kBlock 43 wr So vo (xs.take i) ∧ New w wr So)
  case atStart => exact ⟨0, [], rfl, by omega, by simp [Hid], by simpa using SlR.nil _ _ _, New.refl _⟩
  case round =>
    obtain ⟨i, So, rfl, hi, HK, hso, hnew⟩ := hrel
    have hfl : (xs.take i).length ≤ 1073741824 := by rw [List.length_take]; omega
    by_cases hlt : i < xs.length
    · obtain ⟨g, cc, Ap, cp, Ai, ci, Aa, ca, At, ct, Sb, Sp, Si, Sa, St, hv, hg, _, hr, e0, e1, e2, e3, e4, e5⟩ := FnR.block (h.ext0 hnew.ext) i hlt
      cases hv
      have hsn : Hid (xs.take (i + 1) = xs.take i ++ [xs[i]]) := by rw [Hid, List.take_succ_eq_append_getElem hlt]
      have Hqx := Lib.hid (Hq.out xs[i] (List.getElem_mem hlt))
      generalize xs[i] = x at *
      obtain ⟨w1, hw1⟩ : ∃ w1, w1 = wr.alloc (.cells #[.slice Ap x.phis.length cp, .slice Ai x.ins.length ci, .int .i64 x.term.kind, .slice Aa x.term.args.length ca, .slice At x.term.to.length ct, .int .i32 x.term.imm] 43) := ⟨_, rfl⟩
      have hx1 : Ext [] wr w1 := by rw [hw1]; exact (Ext.refl _ _).alloc _
      have b1 : Blk w1 wr.heap.size 43 #[.slice Ap x.phis.length cp, .slice Ai x.ins.length ci, .int .i64 x.term.kind, .slice Aa x.term.args.length ca, .slice At x.term.to.length ct, .int .i32 x.term.imm] := by rw [hw1]; exact Blk.new _ _ _
      have hr1 : BlkCells w1 Sb x (.slice Ap x.phis.length cp) (.slice Ai x.ins.length ci) (.slice Aa x.term.args.length ca) (.slice At x.term.to.length ct) Sp Si Sa St := hr.move fun k hk => hx1.block k (hr.lt k hk) (by simp)
      have Hr1 := hr1
      clear hr1 hr
      go_wp2_with fail
      rw [← hw1]
      clear hw1
      refine (ownBlock_calls (x := x) (cs := [.slice Ap x.phis.length cp, .slice Ai x.ins.length ci, .int .i64 x.term.kind, .slice Aa x.term.args.length ca, .slice At x.term.to.length ct, .int .i32 x.term.imm]) ⟨_, _, _, _, _, _, _, _, rfl, Hr1⟩ Hqx.out).mono ?_
      rintro e w2 ⟨cs', S1, rfl, ⟨vp, vi, va, vt, Sp1, Si1, Sa1, St1, rfl, hr2⟩, hnew1⟩
      obtain ⟨Ap2, cp2, rfl, _⟩ := hr2.p.shape
      obtain ⟨Ai2, ci2, rfl, _⟩ := hr2.i.shape
      obtain ⟨Aa2, ca2, rfl, _⟩ := hr2.a.shape
      obtain ⟨At2, ct2, rfl, _⟩ := hr2.t.shape
      have hso2 := (hso.ext0 hx1).ext0 hnew1.ext
      have hnew1' : New wr w2 S1 := ⟨hx1.nil hnew1.ext, fun k hk => Nat.le_trans hx1.size (hnew1.fresh k hk), hnew1.nodup⟩
      have hlt1 : ∀ k ∈ So, k < wr.heap.size := hso.lt
      have hdis : ∀ k ∈ [S1].flatten, k ∉ So := fun k hk hk2 => by have := hlt1 k hk2; have := hnew1'.fresh k (by simpa using hk); omega
      have hxa : Ext [] w2 (w2.alloc (.cells #[.slice Ap2 x.phis.length cp2, .slice Ai2 x.ins.length ci2, .int .i64 x.term.kind, .slice Aa2 x.term.args.length ca2, .slice At2 x.term.to.length ct2, .int .i32 x.term.imm] 43)) := (Ext.refl _ _).alloc _
      have hrp2 : kBlock.rep (w2.alloc (.cells #[.slice Ap2 x.phis.length cp2, .slice Ai2 x.ins.length ci2, .int .i64 x.term.kind, .slice Aa2 x.term.args.length ca2, .slice At2 x.term.to.length ct2, .int .i32 x.term.imm] 43)) S1 x [.slice Ap2 x.phis.length cp2, .slice Ai2 x.ins.length ci2, .int .i64 x.term.kind, .slice Aa2 x.term.args.length ca2, .slice At2 x.term.to.length ct2, .int .i32 x.term.imm] :=
        ⟨_, _, _, _, _, _, _, _, rfl, hr2.move fun k hk => hxa.block k (hr2.lt k hk) (by simp)⟩
      have hone := Kd.one kBlock hrp2
      clear e0 e1 e2 e3 e4 e5 hr2
      go_wp2_with (at_builtin; refine wpList_append_sl (d := kBlock) (ys := [x]) rfl (.tmp 14) (.tmp 18) 24 rfl ei_block rfl (hso2.ext0 hxa) rfl [.slice Ap2 x.phis.length cp2, .slice Ai2 x.ins.length ci2, .int .i64 x.term.kind, .slice Aa2 x.term.args.length ca2, .slice At2 x.term.to.length ct2, .int .i32 x.term.imm] [S1] (elems_single hrp2) rfl hone (Src.blk 1) hdis (le_maxLen hfl) (le_bytesB hfl (by decide)) ?_; intro v' w' S' hs' hx' hf' hn')
      go_roundg (gk - 1)
      case measure => have := HK.out; omega
      case rel => exact ⟨i + 1, S', by go_num, by omega, by have := HK.out; simp only [Hid]; omega, by rw [hsn.out]; exact hs', hnew.append1 hnew1' hxa hx' (fun k hk => by simpa using hf' k hk) (fun a b => hn' a (by simpa using b))⟩
    · have hie : i = xs.length := by omega
      subst hie
      rw [List.take_length] at hso
      go_wp2
      go_ret
      exact ⟨_, So, rfl, hso, hnew⟩

set_option maxRecDepth 20000 in
theorem own_calls {w : World} {S : List Nat} {v : Value} {f : JFunc} (h : FnR w S v f) (hn : f.blocks.length ≤ 1073741824) (hq : ∀ x ∈ f.blocks, smallB x) :
    Calls Try.prog 32 #[v] w fun e w' => ∃ v' S', e = .returned v' ∧ FnR w' S' v' f ∧ New w w' S' := by
  obtain ⟨vb, rfl, hb⟩ := h
  obtain ⟨A, c, rfl, hcap⟩ := hb.shape
  obtain ⟨params, bs⟩ := f
  simp only at *
  have Hq := Lib.hid hq
  clear hq
  obtain ⟨w1, hw1⟩ : ∃ w1, w1 = (w.alloc (.cells #[.int .i64 params, .slice A bs.length c] 26)).alloc (.cells #[.int .i64 0, .slice none 0 0] 26) := ⟨_, rfl⟩
  have hx1 : Ext [] w w1 := by rw [hw1]; exact ((Ext.refl _ _).alloc _).alloc _
  have b1 : Blk w1 w.heap.size 26 #[.int .i64 params, .slice A bs.length c] := by rw [hw1]; exact (Blk.new _ _ _).alloc _
  have b2 : Blk w1 (w.heap.size + 1) 26 #[.int .i64 0, .slice none 0 0] := by rw [hw1]; simpa using Blk.new (w.alloc (.cells #[.int .i64 params, .slice A bs.length c] 26)) _ _
  have hsz := b2.lt
  have c1 := b1.cell (i := 1) rfl
  go_enter Try.func32, Try.ntmps32
  go_wp2_with fail
  rw [← hw1]
  clear hw1
  refine (copiedBlock_calls (hb.ext0 hx1) hn Hq.out).mono ?_
  rintro e w2 ⟨v2, S2, rfl, h2, ⟨hx2, hf2, hn2⟩⟩
  obtain ⟨A2, c2, rfl, _⟩ := h2.shape
  have b1' := b1.ext hx2 (by simp)
  have b2' := b2.ext hx2 (by simp)
  have k0 := b1'.cell (i := 0) rfl
  have k1 := b1'.cell (i := 1) rfl
  have f1 := b1'.frozen 1
  have m0 := b2'.cell (i := 0) rfl
  have m1 := b2'.cell (i := 1) rfl
  have g0 := b2'.frozen 0
  have g1 := b2'.frozen 1
  go_wp2
  refine bodyPost_ret (v := .agg #[.int .i64 params, .slice A2 bs.length c2]) (by simp [results, Try.results32, go_sem, m0, m1]) rfl ?_
  refine ⟨_, S2, rfl, ⟨_, rfl, h2.ext (M := [w.heap.size, w.heap.size + 1]) ?_ (fun k hk => by have := hf2 k hk; simp; omega)⟩, ⟨(hx1.nil hx2).trans (M' := [w.heap.size, w.heap.size + 1]) ?_ (fun k hk => .inr (by simp at hk; omega)), fun k hk => by have := hf2 k hk; omega, hn2⟩⟩
  all_goals
    repeat (refine Ext.setCell ?_ (.inl (by simp)) _)
    exact Ext.refl _ _
end Go.Proofs.Ytkmgbejhbkbaoaa

/- The program's graph: Critical. -/
namespace Go.Proofs.Ytkmgbejhbkbaoaa
set_option linter.unusedSimpArgs false
set_option linter.unusedVariables false
open Go.RowKit Go.Shelf
attribute [local go_sem] Oper.semAt_some

/-- two numbers side by side -/
def kTwo : Kd (Nat × Nat) := {
  sz := 2
  rep := fun _ S x cs => S = [] ∧ cs = [.int .i64 (x.1 : Int), .int .i64 (x.2 : Int)]
  len := by rintro _ _ _ _ ⟨_, rfl⟩; rfl
  one := by rintro _ _ x _ ⟨_, rfl⟩ u hu; simp only [List.mem_cons, List.not_mem_nil, or_false] at hu; rcases hu with rfl | rfl <;> rfl
  lt := by rintro _ _ _ _ ⟨rfl, _⟩ k hk; cases hk
  move := fun h _ => h }
theorem elems_two {w : World} {x : Nat × Nat} : Elems kTwo w [[]] [.int .i64 (x.1 : Int), .int .i64 (x.2 : Int)] [x] := by
  refine ⟨rfl, fun i y hy => ?_⟩
  rcases i with _ | i
  · simp at hy; subst hy; exact ⟨[], rfl, rfl, rfl⟩
  · simp at hy
theorem Try.info77 : (Try.prog.info? 77).map (fun i => (i.zero, i.size, i.bytes)) = some (some (.agg #[.int .i64 0, .int .i64 0]), 2, 16) := by kernel_rfl
theorem ei_two : EI Try.prog 73 77 2 16 := ei_of Try.underlying73 Try.info77 rfl (by decide)

def isCrit (g p : List (List Nat)) (x : Nat × Nat) : Bool := decide (1 < (g.getD x.1 []).length) && decide (1 < (p.getD x.2 []).length)
/-- P2.5 -/
def critF (g : List (List Nat)) : List (Nat × Nat) := (edgesF g).filter (isCrit g (predsF g))

set_option maxRecDepth 20000 in
set_option maxHeartbeats 800000 in
theorem critical_calls {w : World} {S : List Nat} {v : Value} {g : List (List Nat)} (h : SlR kRow 22 w S v g) (hg : Good g) (hn : g.length ≤ 32768) :
    Calls Try.prog 31 #[v] w fun e w' => ∃ v' S', e = .returned v' ∧ SlR kTwo 77 w' S' v' (critF g) ∧ New w w' S' := by
  obtain ⟨A, cap, rfl, hcap⟩ := h.shape
  refine (callsIn_wide (n := 5)).1 ?_
  refine callsIn_of_wp_marks Try.func31 rfl trivial ?_ rfl
  simp only [Try.ntmps31, List.size_toArray, List.length_cons, List.length_nil, Nat.reduceAdd, Nat.reduceSub, Array.replicate_succ, Array.replicate_zero, List.push_toArray, List.append_toArray, List.nil_append, List.cons_append]
  gi_wp2_with fail
  refine ⟨trivial, (callsIn_wide.2 (clean_calls h hg (by omega))).mono ?_⟩
  rintro e w1 ⟨v1, S1, rfl, hr1, hnew1⟩
  gi_wp2_with fail
  refine ⟨trivial, (callsIn_wide.2 (preds_calls (h.ext0 hnew1.ext) hg hn)).mono ?_⟩
  rintro e w2 ⟨v2, S2, rfl, hr2, hnew2⟩
  have hr12 := hr1.ext0 hnew2.ext
  obtain ⟨A1, c1, rfl, _⟩ := hr1.shape
  obtain ⟨A2, c2, rfl, _⟩ := hr2.shape
  gi_wp2_with fail
  refine ⟨trivial, (callsIn_wide.2 (edges_calls _ _ _ _ rfl)).mono ?_⟩
  rintro e w1' ⟨rfl, rfl⟩
  have hx2 : Ext [] w w2 := hnew1.ext.nil hnew2.ext
  obtain ⟨m, hm⟩ : ∃ m, w2.heap.size = m := ⟨_, rfl⟩
  obtain ⟨W0, hW0⟩ : ∃ W0, (((w2.alloc (.cells #[.slice A1 g.length c1] 33)).alloc (.cells #[.slice A2 (predsF g).length c2] 33)).alloc (.cells #[.slice none 0 0] 73)).alloc (.cells #[.slice A g.length cap] 33) = W0 := ⟨_, rfl⟩
  have hx0 : Ext [] w2 W0 := by rw [← hW0]; exact ((((Ext.refl _ _).alloc _).alloc _).alloc _).alloc _
  have hsz0 : W0.heap.size = m + 4 := by rw [← hW0, ← hm]; simp
  have b1 : Blk W0 m 33 #[.slice A1 g.length c1] := by
    rw [← hW0, ← hm]; exact (((Blk.new _ _ _).alloc _).alloc _).alloc _
  have b2 : Blk W0 (m + 1) 33 #[.slice A2 (predsF g).length c2] := by
    rw [← hW0, ← hm]; have := (((Blk.new (w2.alloc (.cells #[.slice A1 g.length c1] 33)) #[.slice A2 (predsF g).length c2] 33).alloc (.cells #[.slice none 0 0] 73)).alloc (.cells #[.slice A g.length cap] 33)); simpa using this
  have b3 : Blk W0 (m + 2) 73 #[.slice none 0 0] := by
    rw [← hW0, ← hm]; have := ((Blk.new ((w2.alloc (.cells #[.slice A1 g.length c1] 33)).alloc (.cells #[.slice A2 (predsF g).length c2] 33)) #[.slice none 0 0] 73).alloc (.cells #[.slice A g.length cap] 33)); simpa using this
  have b4 : W0.cell? ⟨m + 3, 0, none⟩ = some (.slice A g.length cap) := by
    rw [← hW0, ← hm]; have := (Blk.new (((w2.alloc (.cells #[.slice A1 g.length c1] 33)).alloc (.cells #[.slice A2 (predsF g).length c2] 33)).alloc (.cells #[.slice none 0 0] 73)) #[.slice A g.length cap] 33).cell (i := 0) rfl; simpa using this
  have hit := edges1_iter ((h.ext0 hx2).ext0 hx0) hg (by omega) b4
  have q1 := hr12.ext0 hx0
  have q2 := hr2.ext0 hx0
  have hS1 : ∀ k ∈ S1, k < m := fun k hk => by rw [← hm]; exact hr12.lt k hk
  have hS2 : ∀ k ∈ S2, k < m := fun k hk => by rw [← hm]; exact hr2.lt k hk
  have hS : ∀ k ∈ S, k < m := fun k hk => by have := h.lt k hk; have := hx2.size; omega
  have hwm : w.heap.size ≤ m := by have := hx2.size; omega
  simp only [World.size_alloc]
  rw [hW0]
  rw [hm]
  clear hW0
  gi_wp2
  refine wpIn_range_fp (xs := edgesF g) (Sg := (m + 3) :: S) rfl (enters_of Try.func75 (by kernel_rfl) rfl) hit (Ext.refl _ _) (fun _ => rfl)
    (fun pre S W => ∃ vo So, S = (m + 2) :: So ∧ SlR kTwo 77 W So vo (pre.filter (isCrit g (predsF g))) ∧ So.Nodup ∧ (∀ k ∈ So, m + 2 < k) ∧ Blk W (m + 2) 73 #[vo] ∧
      Blk W m 33 #[.slice A1 g.length c1] ∧ Blk W (m + 1) 33 #[.slice A2 (predsF g).length c2] ∧
      SlR kRow 22 W S1 (.slice A1 g.length c1) g ∧ SlR kRow 22 W S2 (.slice A2 (predsF g).length c2) (predsF g))
    (fun _ _ _ _ => False) [m + 2] ?hT (fun _ _ _ _ _ _ h _ _ => h) ?h0 ?hSo ?hSg
    (fun x => { tmps := #[.slice A g.length cap, undef, .slice none 0 0, .pointer (some ⟨m, 0, none⟩), .pointer (some ⟨m + 1, 0, none⟩), .pointer (some ⟨m + 1 + 1, 0, none⟩), .int .i64 (x.1 : Int), .int .i64 (x.2 : Int),
      .slice A g.length cap, .slice A1 g.length c1, .slice A g.length cap, .slice A2 (predsF g).length c2, .slice A g.length cap, .func (.func 75) #[] #[.pointer (some ⟨m + 1 + 1 + 1, 0, none⟩)], .int .i64 (x.1 : Int), .int .i64 (x.2 : Int),
      undef, undef, undef, undef, undef, undef, undef, undef, undef, undef, undef, undef, undef, undef, undef, undef, undef, undef, undef, undef, undef], defers := [] }) ?assign ?body ?done ?stop
  case hT =>
    rintro pre S M A' B ⟨vo, So, rfl, t1, t2, t3, t4, t5, t6, t7, t8⟩ hx hM
    have hM' : ∀ k ∈ M, k ∉ (m + 2) :: So ∧ m + 4 ≤ k := fun k hk => ⟨(hM k hk).1, by have := (hM k hk).2; omega⟩
    exact ⟨vo, So, rfl, t1.ext hx fun k hk hm => (hM' k hm).1 (by simp [hk]), t2, t3, t4.ext hx fun h => (hM' _ h).1 (by simp), t5.ext hx fun h => by have := (hM' _ h).2; omega, t6.ext hx fun h => by have := (hM' _ h).2; omega,
      t7.ext hx fun k hk h => by have := (hM' _ h).2; have := hS1 k hk; omega, t8.ext hx fun k hk h => by have := (hM' _ h).2; have := hS2 k hk; omega⟩
  case h0 => exact ⟨.slice none 0 0, [], rfl, SlR.nil _ _ _, by simp, by simp, b3, b1, b2, q1, q2⟩
  case hSo =>
    intro k hk
    simp at hk
    subst hk
    refine ⟨fun hm => ?_, by omega⟩
    rcases List.mem_cons.1 hm with h2 | h2
    · omega
    · have := hS _ h2; omega
  case hSg =>
    intro k hk
    rcases List.mem_cons.1 hk with h2 | h2
    · omega
    · have := hS _ h2; omega
  case assign =>
    intro l x W K hK
    simp only [encE]
    gi_wp2
    exact hK
  case body =>
    rintro l pre ⟨a, b⟩ S W ⟨vo, So, rfl, t1, t2, t3, t4, t5, t6, t7, t8⟩ hpre hlt hlt2
    have hab := edges_lt hg (a, b) (hpre.subset (by simp))
    simp only at hab
    have hpl : (pre.filter (isCrit g (predsF g))).length ≤ 1073741824 := Nat.le_trans (List.length_filter_le _ _) (Nat.le_trans ((List.prefix_append pre [(a, b)]).trans hpre).length_le (edgesF_len hg hn))
    have hb2 : b < (predsF g).length := by simp [predsF, predsOf]; exact hab.2
    obtain ⟨g1, k1, Ar, cr, Si, hv1, _, e1, _, _⟩ := row_get t7 a hab.1
    obtain ⟨g2, k2, As, cs, Sj, hv2, _, e2, _, _⟩ := row_get t8 b hb2
    cases hv1
    cases hv2
    have d1 := t5.cell (i := 0) rfl
    have d2 := t6.cell (i := 0) rfl
    have d3 := t4.cell (i := 0) rfl
    have f3 := t4.frozen 0
    have hc : isCrit g (predsF g) (a, b) = (decide (1 < g[a].length) && decide (1 < ((predsF g)[b]'hb2).length)) := by
      simp [isCrit, List.getD, hab.1, hb2]
    obtain ⟨Av, cv, hvo, _⟩ := t1.shape
    subst hvo
    have Hc := Lib.hid hc
    have Hsn : Hid ((pre ++ [(a, b)]).filter (isCrit g (predsF g)) = pre.filter (isCrit g (predsF g)) ++ if isCrit g (predsF g) (a, b) = true then [(a, b)] else []) := by
      rw [Hid, List.filter_append]; congr 1; by_cases h : isCrit g (predsF g) (a, b) = true <;> simp [List.filter_cons, h]
    clear hc
    generalize hL : pre.filter (isCrit g (predsF g)) = L at *
    have HL := Lib.hid hL
    clear hL
    by_cases h1 : 1 < g[a].length
    · by_cases h2 : 1 < ((predsF g)[b]'hb2).length
      · have hct : isCrit g (predsF g) (a, b) = true := by rw [Hc.out]; simp [h1, h2]
        have Hs2 : Hid ((pre ++ [(a, b)]).filter (isCrit g (predsF g)) = L ++ [(a, b)]) := by rw [Hid, Hsn.out, if_pos hct]
        clear hct Hsn Hc
        gi_wp2_with (gi_at_builtin; refine wpListIn_append_sl (d := kTwo) (ys := [(a, b)]) rfl (.tmp 30) (.tmp 34) 73 rfl ei_two rfl (t1.ext0 ((Ext.refl _ _).alloc _)) rfl [.int .i64 (a : Int), .int .i64 (b : Int)] [[]] elems_two rfl (kTwo.one (w := W) (S := []) (x := (a, b)) ⟨rfl, rfl⟩) (Src.blk 1) (by simp) (le_maxLen hpl) (le_bytes hpl (by decide)) ?_; intro v' w' S' hs' hx' hf' hn'; obtain ⟨A', c', rfl, _⟩ := hs'.shape; simp only [List.length_append, List.length_cons, List.length_nil, Nat.zero_add] at hs'; have hxx : Ext So W w' := (((Ext.refl [] W).alloc _).mono (by simp)).same hx'; have b4' := t4.ext hxx (fun hk => Nat.lt_irrefl _ (t3 _ hk)); have d4 := b4'.cell (i := 0) rfl; have f4 := b4'.frozen 0)
        have hs2 : SlR kTwo 77 (w'.setCell ⟨m + 1 + 1, 0, none⟩ (.slice A' (L.length + 1) c')) S' (.slice A' (L.length + 1) c') (L ++ [(a, b)]) := hs'.move fun k hk => Below.heap_setCell w' _ _ k (by
          rintro rfl
          rcases hf' _ hk with h5 | h5 | h5
          · exact Nat.lt_irrefl _ (t3 _ h5)
          · simp at h5; omega
          · simp at h5)
        have hxs : Ext ((m + 2) :: So) W (w'.setCell ⟨m + 1 + 1, 0, none⟩ (.slice A' (L.length + 1) c')) := (hxx.mono fun k hk => .inl (List.mem_cons_of_mem _ hk)).setCell (.inl (by simp)) _
        have hSn : ∀ k ∈ S', k ∈ So ∨ W.heap.size ≤ k := fun k hk => by
          rcases hf' k hk with h5 | h5 | h5
          · exact .inl h5
          · simp at h5; exact .inr (by omega)
          · simp at h5
        refine ⟨(m + 2) :: S', ⟨hxs, fun k hk => ?_⟩, fun k hk => ?_, _, S', rfl, by rw [Hs2.out]; exact hs2, hn' t2 (by simp), fun k hk => ?_, b4'.set 0 _, ?_, ?_, ?_, ?_⟩
        · rcases List.mem_cons.1 hk with rfl | hk
          · exact .inl (by simp)
          · rcases hSn k hk with h5 | h5
            · exact .inl (by simp [h5])
            · exact .inr h5
        · rcases List.mem_cons.1 hk with rfl | hk
          · have := hxs.size; omega
          · exact hs2.lt k hk
        · rcases hSn k hk with h5 | h5
          · exact t3 k h5
          · omega
        · exact t5.ext hxs (by simp; exact fun h => by have := t3 _ h; omega)
        · exact t6.ext hxs (by simp; exact fun h => by have := t3 _ h; omega)
        · exact t7.ext hxs fun k hk h => by have := hS1 k hk; simp at h; rcases h with rfl | h; omega; have := t3 _ h; omega
        · exact t8.ext hxs fun k hk h => by have := hS2 k hk; simp at h; rcases h with rfl | h; omega; have := t3 _ h; omega
      · have hct : isCrit g (predsF g) (a, b) = false := by rw [Hc.out]; simp [h2]
        have Hs2 : Hid ((pre ++ [(a, b)]).filter (isCrit g (predsF g)) = L) := by rw [Hid, Hsn.out, hct]; simp
        clear hct Hsn Hc
        gi_wp2
        exact ⟨_, FpStep.refl _ _, hlt, _, So, rfl, by rw [Hs2.out]; exact t1, t2, t3, t4, t5, t6, t7, t8⟩
    · have hct : isCrit g (predsF g) (a, b) = false := by rw [Hc.out]; simp [h1]
      have Hs2 : Hid ((pre ++ [(a, b)]).filter (isCrit g (predsF g)) = L) := by rw [Hid, Hsn.out, hct]; simp
      clear hct Hsn Hc
      gi_wp2
      exact ⟨_, FpStep.refl _ _, hlt, _, So, rfl, by rw [Hs2.out]; exact t1, t2, t3, t4, t5, t6, t7, t8⟩
  case done =>
    rintro D S3 W hD hDS ⟨vo, So, rfl, t1, t2, t3, t4, t5, t6, t7, t8⟩ hfp hdef
    obtain ⟨Av, cv, rfl, _⟩ := t1.shape
    have d3 := t4.cell (i := 0) rfl
    gi_wp2
    have hxD : Ext [D] W (W.putObj D (.deferred none)) := (Ext.refl _ _).putObj (.inl (by simp)) _
    refine ⟨by simp, .inl ⟨_, _, rfl, run_takeDeferred hdef, ?_⟩⟩
    refine ⟨_, results_tmp rfl _ _ _, .slice Av ((edgesF g).filter (isCrit g (predsF g))).length cv, So, rfl, t1.ext hxD (fun k hk => by simp; rintro rfl; exact hDS (by simp [hk])), ⟨((hx2.nil hx0).trans hfp.1 fun k hk => .inr (by simp at hk; omega)).trans hxD fun k hk => .inr (by simp at hk; omega), fun k hk => ?_, t2⟩⟩
    have := t3 k hk; omega
  case stop =>
    rintro D c pre S1 W _ _ _ h
    exact h.elim
end Go.Proofs.Ytkmgbejhbkbaoaa

/- The program's split: which edge was given which block; an element whose blocks of memory stay. -/
namespace Go.Proofs.Ytkmgbejhbkbaoaa
set_option linter.unusedSimpArgs false
set_option linter.unusedVariables false
open Go.RowKit

section
variable {α : Type} {d : Kd α} {e : TypeId} {w w1 : World} {S Si : List Nat} {xs : List α} {g cap i : Nat} {cs : List Value}
/-- what it leads to has changed, in the same blocks of memory -/
theorem SlAt.same (h : SlAt d e w S g cap xs i Si cs) (hn : S.Nodup) {x' : α} (hx : ∀ k ∈ S, k ∉ Si → w1.heap[k]? = w.heap[k]?) (hr : d.rep w1 Si x' cs) : SlR d e w1 S (.slice (some ⟨g, 0, none⟩) xs.length cap) (xs.set i x') := by
  have hni := h.notin
  obtain ⟨⟨C, Ss, h0, h1, h2, hb0, hC, hgn, rfl, hE, hSi, rfl⟩, hi, hrep⟩ := h
  have hnf : Ss.flatten.Nodup := (List.nodup_cons.1 hn).2
  refine .inr ⟨g, cap, C, Ss, by rw [List.length_set], h0, by rw [List.length_set]; exact h1, h2, hb0.move (hx g (by simp) hni), hC, hgn, rfl, ?_⟩
  refine ⟨by rw [List.length_set, hE.1], fun j x hj => ?_⟩
  by_cases hij : i = j
  · subst hij
    rw [List.getElem?_set_self hi] at hj
    injection hj with hj
    subst hj
    exact ⟨Si, hSi, hr⟩
  · rw [List.getElem?_set_ne hij] at hj
    obtain ⟨Sj, hSj, hrj⟩ := hE.2 j x hj
    refine ⟨Sj, hSj, d.move hrj fun k hk => hx k (List.mem_cons_of_mem _ (List.mem_flatten.2 ⟨Sj, List.mem_of_getElem? hSj, hk⟩)) ?_⟩
    exact flatten_disj hnf hSj hSi (fun e => hij e.symm) k hk
end

/-! ### keys of two numbers -/
open WideMaps (ArrKey keyOf_pair)
def KpT : Value → Prop := fun v => ∃ a b : Nat, v = .agg #[.int .i64 (a : Int), .int .i64 (b : Int)] ∧ a ≤ 1073741824 ∧ b ≤ 1073741824
theorem Try.laidOut : laidOutB Try.prog = true := by kernel_rfl
theorem Try.cellsTwo : Try.prog.cellsOf 77 = 2 := by kernel_rfl
theorem Try.arrTwo : ArrKey Try.prog 77 3 2 := ⟨Try.underlying77, by kernel_rfl, by kernel_rfl, Try.cellsTwo⟩
theorem Try.rowTwo : (77 : TypeId) < Try.prog.types.size := of_decide_eq_true (by kernel_rfl)
theorem Try.wideTwo : (match Try.prog.underlying 77 with | some (.array _ _) | some (.struct _) => true | _ => false) = true := by rw [Try.underlying77]
set_option maxRecDepth 100000 in
theorem Try.lawTwo : WideMaps.KeyLaw Try.prog 77 := deep_law_laid Try.laidOut (m := 2) (by omega) Try.rowTwo (by kernel_rfl) Try.wideTwo
theorem sizes_succ : ∃ m, Try.prog.types.size = m + 1 := by
  have h : 0 < Try.prog.types.size := Nat.lt_of_le_of_lt (Nat.zero_le _) Try.rowTwo
  exact ⟨Try.prog.types.size - 1, by omega⟩
theorem wf_small {a : Nat} (h : a ≤ 1073741824) : (Lit.int .i64 (a : Int)).wf = true := by
  have h1 : IntKind.i64.min = -9223372036854775808 := by decide
  have h2 : IntKind.i64.max = 9223372036854775807 := by decide
  simp only [Lit.wf, h1, h2, Bool.and_eq_true, decide_eq_true_eq]; omega
theorem klTwo : KL Try.prog 77 KpT := by
  have K := KL.of_keyed (Maps.Keyed.of_law Try.lawTwo)
  have hk : ∀ v, KpT v → ∃ l, keyOf Try.prog 77 v = some l := by
    rintro v ⟨a, b, rfl, ha, hb⟩
    exact ⟨_, keyOf_pair Try.arrTwo Try.underlying3 sizes_succ (wf_small ha) (wf_small hb)⟩
  exact ⟨fun w em {v} hv => K.check w em (hk v hv), fun w {x} hx es hes => K.find w (hk x hx) es fun e he => hk _ (hes e he)⟩
end Go.Proofs.Ytkmgbejhbkbaoaa

/- The program's split: its model; entries looked up. -/
namespace Go.Proofs.Ytkmgbejhbkbaoaa
set_option linter.unusedSimpArgs false
set_option linter.unusedVariables false
open Go.RowKit

section
variable {α : Type} {d : Kd α} {e : TypeId} {w : World} {S Si : List Nat} {xs : List α} {g cap i : Nat} {cs : List Value}
/-- one of its cells is stored; what it leads to is as it was -/
theorem SlAt.putS (h : SlAt d e w S g cap xs i Si cs) (hn : S.Nodup) {x' : α} (j : Nat) (hj : j < d.sz) (u : Value) (hr : d.rep (w.setCell ⟨g, i * d.sz + j, none⟩ u) Si x' (cs.set j u)) :
    SlR d e (w.setCell ⟨g, i * d.sz + j, none⟩ u) S (.slice (some ⟨g, 0, none⟩) xs.length cap) (xs.set i x') := by
  have hni := h.notin
  obtain ⟨⟨C, Ss, h0, h1, h2, hb0, hC, hgn, rfl, hE, hSi, rfl⟩, hi, hrep⟩ := h
  have hnf : Ss.flatten.Nodup := (List.nodup_cons.1 hn).2
  have hlen : (i + 1) * d.sz ≤ C.toList.length := by
    have : C.toList.length = cap * d.sz := by rw [Array.length_toList, hC]
    rw [this]; exact Nat.mul_le_mul_right _ (by omega)
  obtain ⟨h3, h4⟩ := cut_set hj hlen u
  refine .inr ⟨g, cap, _, Ss, by rw [List.length_set], h0, by rw [List.length_set]; exact h1, h2, hb0.set _ u, by simpa using hC, hgn, rfl, ?_⟩
  refine ⟨by rw [List.length_set, hE.1], fun k x hk => ?_⟩
  rw [Array.toList_setIfInBounds]
  by_cases hij : i = k
  · subst hij
    rw [List.getElem?_set_self hi] at hk
    injection hk with hk
    subst hk
    exact ⟨Si, hSi, by rw [h3]; exact hr⟩
  · rw [List.getElem?_set_ne hij] at hk
    obtain ⟨Sj, hSj, hrj⟩ := hE.2 k x hk
    refine ⟨Sj, hSj, ?_⟩
    rw [h4 k (fun e => hij e.symm)]
    refine d.move hrj fun q hq => Below.heap_setCell w _ u q ?_
    rintro rfl
    exact hgn (List.mem_flatten.2 ⟨Sj, List.mem_of_getElem? hSj, hq⟩)
end

/-! ### the model -/
def lookC (n : Nat) (c : List (Nat × Nat)) (a t : Nat) : Option Nat := (c.findIdx? fun e => e == (a, t)).map (n + ·)
def fixT (n : Nat) (c : List (Nat × Nat)) (a : Nat) (t : Int) : Int := match lookC n c a t.toNat with | some k => (k : Int) | none => t
def fixS (n : Nat) (c : List (Nat × Nat)) (a : Nat) (s : Int) : Int := match lookC n c s.toNat a with | some k => (k : Int) | none => s
def fixIn (n : Nat) (c : List (Nat × Nat)) (a : Nat) (x : JIn) : JIn := ⟨fixS n c a x.src, x.val⟩
def sortIn (l : List JIn) : List JIn := l.mergeSort fun x y => decide (x.src ≤ y.src)
def fixP (n : Nat) (c : List (Nat × Nat)) (a : Nat) (p : JPhi) : JPhi := ⟨p.dst, sortIn (p.ins.map (fixIn n c a))⟩
def fixB (n : Nat) (c : List (Nat × Nat)) (a : Nat) (x : JBlock) : JBlock := ⟨x.phis.map (fixP n c a), x.ins, { x.term with to := x.term.to.map (fixT n c a) }⟩
def jumpB (t : Nat) : JBlock := ⟨[], [], ⟨1, [], [(t : Int)], 0⟩⟩
def splitBs (bs : List JBlock) : List JBlock := bs.mapIdx (fixB bs.length (critF (ofF bs))) ++ (critF (ofF bs)).map fun e => jumpB e.2
def splitF (f : JFunc) : JFunc := ⟨f.params, splitBs f.blocks⟩

/-! ### the map -/
def keyV (e : Nat × Nat) : Value := .agg #[.int .i64 (e.1 : Int), .int .i64 (e.2 : Int)]
def entC (n : Nat) (c : List (Nat × Nat)) : List (Value × Value) := c.zipIdx.map fun p => (keyV p.1, .int .i64 ((n + p.2 : Nat) : Int))
theorem keyV_inj {a b : Nat × Nat} (h : keyV a = keyV b) : a = b := by
  obtain ⟨a1, a2⟩ := a
  obtain ⟨b1, b2⟩ := b
  simp only [keyV, Value.agg.injEq, Array.mk.injEq, List.cons.injEq, Value.int.injEq, true_and, and_true] at h
  simp only [Prod.mk.injEq]; omega
theorem mem_entC {n : Nat} {c : List (Nat × Nat)} {k v : Value} : (k, v) ∈ entC n c ↔ ∃ i, ∃ hi : i < c.length, k = keyV c[i] ∧ v = .int .i64 ((n + i : Nat) : Int) := by
  simp only [entC, List.mem_map, List.mem_zipIdx_iff_getElem?, Prod.mk.injEq, Prod.exists]
  constructor
  · rintro ⟨a, b, i, hi, rfl, rfl⟩
    obtain ⟨h1, h2⟩ := List.getElem?_eq_some_iff.1 hi
    exact ⟨i, h1, by rw [h2], rfl⟩
  · rintro ⟨i, hi, rfl, rfl⟩
    exact ⟨c[i].1, c[i].2, i, by simp [hi], rfl, rfl⟩
theorem entC_succ {n : Nat} {c : List (Nat × Nat)} {i : Nat} (hi : i < c.length) : entC n (c.take (i + 1)) = entC n (c.take i) ++ [(keyV c[i], .int .i64 ((n + i : Nat) : Int))] := by
  rw [List.take_succ_eq_append_getElem hi, entC, List.zipIdx_append, List.map_append]
  have : (c.take i).length = i := by rw [List.length_take]; omega
  simp [entC, this]
theorem zero_int (w : World) : (zeroValue 3).run Try.prog w = .ok (.int .i64 0) w := by kernel_rfl
theorem lookC_none {n : Nat} {c : List (Nat × Nat)} {a t : Nat} (h : (a, t) ∉ c) : lookC n c a t = none := by
  unfold lookC
  rw [List.findIdx?_eq_none_iff.2]
  · rfl
  · intro x hx
    simp only [beq_eq_false_iff_ne, ne_eq]
    rintro rfl; exact h hx
theorem lookC_some {n : Nat} {c : List (Nat × Nat)} (hnd : c.Nodup) {i : Nat} (hi : i < c.length) : lookC n c c[i].1 c[i].2 = some (n + i) := by
  unfold lookC
  have : c.findIdx? (fun e => e == (c[i].1, c[i].2)) = some i := by
    rw [List.findIdx?_eq_some_iff_getElem]
    refine ⟨hi, by simp, fun j hj => ?_⟩
    simp only [beq_iff_eq]
    intro he0
    have he : c[j] = c[i] := he0
    have h1 := List.Nodup.idxOf_getElem hnd j (by omega)
    have h2 := List.Nodup.idxOf_getElem hnd i hi
    rw [he] at h1
    omega
  rw [this]; rfl
theorem look_two {w : World} {m n : Nat} {c : List (Nat × Nat)} (h : MapR KpT w m (entC n c)) (hnd : c.Nodup) {a t : Nat} (ha : a ≤ 1073741824) (ht : t ≤ 1073741824) :
    (Instr.lookup 76 (.map (some m)) (.agg #[.int .i64 (a : Int), .int .i64 (t : Int)]) true).run Try.prog w = .ok (.tuple #[.int .i64 (((lookC n c a t).getD 0 : Nat) : Int), .bool (lookC n c a t).isSome]) w := by
  rcases h.look klTwo Try.underlying76 (zero_int w) ⟨a, t, rfl, ha, ht⟩ with ⟨hrun, hno⟩ | ⟨v, hv, hrun⟩
  · rw [hrun, lookC_none]
    · rfl
    · intro hm
      obtain ⟨i, hi, he⟩ := List.getElem_of_mem hm
      exact hno (keyV c[i], _) (mem_entC.2 ⟨i, hi, rfl, rfl⟩) (by rw [he]; rfl)
  · obtain ⟨i, hi, hk, rfl⟩ := mem_entC.1 hv
    have he : (a, t) = c[i] := keyV_inj hk
    rw [hrun]
    have := lookC_some (n := n) hnd hi
    rw [← he] at this
    simp only at this
    rw [this]; rfl
theorem crit_nodup {g : List (List Nat)} (hg : Good g) : (critF g).Nodup := by
  unfold critF
  refine List.Nodup.sublist List.filter_sublist ?_
  unfold edgesF edgesTo
  rw [List.take_length]
  unfold List.Nodup
  rw [List.pairwise_flatMap]
  constructor
  · intro p hp
    obtain ⟨h1, h2, h3⟩ := List.mem_zipIdx hp
    rw [List.pairwise_map]
    have := (hg p.1 (by rw [h3]; exact List.getElem_mem _)).1
    exact this.imp fun {a b} hab he => by injection he; omega
  · rw [List.pairwise_iff_getElem]
    intro i j hi hj hij x hx y hy
    rw [List.length_zipIdx] at hi hj
    simp only [List.getElem_zipIdx, List.mem_map] at hx hy
    obtain ⟨x', _, rfl⟩ := hx
    obtain ⟨y', _, rfl⟩ := hy
    intro he
    injection he with h1 h2
    omega
end Go.Proofs.Ytkmgbejhbkbaoaa
