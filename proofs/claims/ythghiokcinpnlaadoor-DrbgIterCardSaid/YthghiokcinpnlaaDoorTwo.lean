import Derived.Test.YthghiokcinpnlaaDoorBg
namespace Go.Proofs.YthghiokcinpnlaaDoor
open Go Go.Ev Go.RowKit
set_option maxRecDepth 20000
set_option linter.unusedVariables false

theorem short_spec {bs : List Int} {a : Option Addr} {l c : Nat} {w : World} (hr : Row w a .u8 bs) (hl : l = bs.length) (hc : l ≤ c) :
    Calls Tryd.prog 7 #[.slice a l c, .int .i64 60] w fun e w' => ∃ a' l', e = .returned (.slice a' l' c) ∧ Row w' a' .u8 (bs.take 60) ∧ l' = (bs.take 60).length ∧ l' ≤ c ∧ l' ≤ 60 ∧ (∀ p, a' = some p → ∃ q, a = some q ∧ q.block = p.block) ∧ w' = w := by
  refine calls_of_ev tysOk extsOk Tryd.func7 rfl rfl rfl ?_
  refine IfP.dec (fun hgt => ?_) (fun hle => ?_)
  · refine SlcP.row (c := c) 0 60 rfl rfl hr hl hc (by omega) (by omega) fun a' ha' ho => ?_
    rw [List.drop_zero] at ha'
    exact ⟨rfl, a', 60, rfl, ha', by simp; omega, by omega, Nat.le_refl _, ho, rfl⟩
  · refine ⟨rfl, a, l, rfl, hr.take 60, by simp; omega, hc, by omega, fun p hp => ⟨p, hp, rfl⟩, rfl⟩

theorem DAt.chg {w w' : World} {d1 d2 : Nat} {K V K1 V1 : List Int} {n m : Int} (h2 : DAt w d2 K V n) (h1 : DAt w d1 K1 V1 m) (hc : Chg w.heap.size (fun k => k = d1) w w') (hne : d1 ≠ d2) : DAt w' d2 K V n := by
  obtain ⟨ka, kc, va, vc, g1, g2, g3, g4, g5, g6, g7⟩ := h2
  exact ⟨ka, kc, va, vc, g1.chg hc g1.lt (fun e => hne e.symm), g2.chg hc (h1.row_off g2 (by omega)), g3.chg hc (h1.row_off g3 (by omega)), g4, g5,
    fun p hp => ⟨(g6 p hp).1, Nat.lt_of_lt_of_le (g6 p hp).2 hc.size⟩, fun p hp => ⟨(g7 p hp).1, Nat.lt_of_lt_of_le (g7 p hp).2 hc.size⟩⟩

set_option maxHeartbeats 1000000 in
theorem drbgTwo_spec {kt bs : List Int} {a : Option Addr} {l c : Nat} {n : Int} {w : World} (hr : Row w a .u8 bs) (hl : l = bs.length) (hc : l ≤ c)
    (hk : Row w (some ⟨3, 0, none⟩) .u64 kt) (hkl : kt.length = 80) :
    Calls Tryd.prog 4 #[.slice a l c, .int .i64 n] w fun e w' => e = .returned (.bool true) ∧ Below w.heap.size w w' := by
  have hkl3 : 3 < w.heap.size := by obtain ⟨b, o, h1, h2⟩ := hk 0 (by omega); cases h1; exact cell_lt h2
  refine calls_of_ev tysOk extsOk Tryd.func4 rfl rfl rfl ?_
  refine CallP.intro (begun_spec hk hkl) ?_
  rintro e w1 ⟨rfl, b1⟩
  refine ⟨_, rfl, ?_⟩
  refine CallP.intro (short_spec (hr.below b1) hl hc) ?_
  rintro e w1' ⟨a', l', rfl, hr1, hl1, hc1, h60, ho, hw⟩
  have hw := hw.symm
  subst hw
  refine ⟨_, rfl, ?_⟩
  generalize bs.take 60 = data at hr1 hl1
  refine CallP.intro (newD_spec hr1 hl1 (by omega) (hk.below b1) hkl) ?_
  rintro e w2 ⟨d1, rfl, x1, y1, z1⟩
  refine ⟨_, rfl, ?_⟩
  have b2 := b1.trans (z1.mono b1.size)
  refine CallP.intro (newD_spec (hr1.below z1) hl1 (by omega) (hk.below b2) hkl) ?_
  rintro e w3 ⟨d2, rfl, x2, y2, z2⟩
  refine ⟨_, rfl, ?_⟩
  have b3 := b2.trans (z2.mono b2.size)
  have x1' := x1.below z2
  have hd1 := x1.lt
  refine IfP.yes ?_
  refine IfP.yes ?_
  refine IfP.no ?_
  refine IfP.no ?_
  have z12 := z1.trans (z2.mono z1.size)
  have hk1 := hk.below b1
  refine LoopP.go (S := Nat) 17171480832 (by kernel_rfl) (fun i => [(8, .int .i64 i)]) (fun i W => i ≤ 5 ∧ Below w1.heap.size w1 W ∧ (∃ K V m, DAt W d1 K V m) ∧ DAt W d2 (newKV kt data).1 (newKV kt data).2 0) (fun i => 5 - i) 0 ⟨rfl, trivial⟩
    ⟨by omega, z12, ⟨_, _, _, x1'⟩, x2⟩ ?_
  rintro i j W ⟨h1, h2, ⟨K1, V1, m1, h3⟩, h4⟩
  have hne : d1 ≠ d2 := by omega
  have hs1 := b1.size
  have hs2 := b2.size
  by_cases hin : (i : Int) < n
  · refine IfP.pos (decide_eq_true hin) ?_
    refine IfP.yes ?_
    refine IfP.yes ?_
    refine IfP.dec (fun h5 => ?_) (fun h5 => ?_)
    · refine CallP.intro (bytes_spec (n := 3) h3 (by decide) (by decide) (hk1.below h2) hkl (by omega)) ?_
      rintro e w4 ⟨ob, rfl, g1, g2, g3, g4⟩
      refine ⟨_, rfl, ?_⟩
      have hnext : IntKind.i64.wrap ((i : Int) + 1) = ((i + 1 : Nat) : Int) := by rw [show (i : Int) + 1 = ((i + 1 : Nat) : Int) by omega]; exact i64_of _ (by omega)
      refine ⟨rfl, i + 1, ⟨⟨congrArg (Value.int .i64) hnext, trivial⟩, by omega, ?_, ⟨_, _, _, g3⟩, ?_⟩, by omega⟩
      · exact Chg.below ((Chg.of_below (s := fun _ => False) h2).thenC g4 h2.size (fun k hk e => by omega))
      · exact h4.chg h3 g4 hne
    · skip
      refine CallP.intro (newD_spec (hr1.below h2) hl1 (by omega) (hk1.below h2) hkl) ?_
      rintro e w5 ⟨d3, rfl, x3, y3, z3⟩
      refine ⟨_, rfl, ?_⟩
      have hW := h2.size
      have h5 := h2.trans (z3.mono h2.size)
      have x2' := h4.below z3
      have hd2 := h4.lt
      have hne3 : d2 ≠ d3 := by omega
      refine DrawP.any tysOk extsOk mixed (.take 0 (.take 1 (.take 2 (.take 5 (.alt 3 (.alt 4 (.alt 6 (.alt 7 (.alt 8 (.alt 9 (.take 10 (.done)) (.done)) (.done)) (.done)) (.done)) (.alt 6 (.alt 4 (.alt 7 (.alt 8 (.alt 9 (.take 10 (.done)) (.done)) (.done)) (.done)) (.alt 7 (.alt 4 (.alt 8 (.alt 9 (.take 10 (.done)) (.done)) (.done)) (.done)) (.done))) (.done))) (.done)))))) 70300024700944 (by kernel_rfl) (by kernel_rfl) (S := Unit) (fun _ => [(4, .bool true)]) (fun _ W' => Below w1.heap.size w1 W') ?_ ?_
      · have hb0 : Below w5.heap.size w5 { w5 with drawn := w5.drawn + 1 } := (Below.refl _ _).drew
        have hz : ({ w5 with drawn := w5.drawn + 1 } : World).heap.size = w5.heap.size := rfl
        have x2v := x2'.below hb0
        have x3v := x3.below hb0
        have h5v := h5.trans (hb0.mono h5.size)
        generalize ({ w5 with drawn := w5.drawn + 1 } : World) = v at hb0 hz x2v x3v h5v ⊢
        refine IfP.yes ?_
        refine IfP.yes ?_
        refine ⟨?_, trivial⟩
        refine IfP.yes ?_
        refine CallP.intro (bytes_spec (n := 40) x2v (by decide) (by decide) (hk1.below h5v) hkl (by omega)) ?_
        rintro e u1 ⟨o1, rfl, p1, p2, p3, p4⟩
        refine ⟨_, rfl, ?_⟩
        have x3u := x3v.chg x2v p4 hne3
        have h5u : Below w1.heap.size w1 u1 := Chg.below ((Chg.of_below (s := fun _ => False) h5v).thenC p4 h5v.size (fun k hk e => by omega))
        have h5w : ∀ u2, Chg u1.heap.size (fun k => k = d3) u1 u2 → Below w1.heap.size w1 u2 := fun u2 q4 => Chg.below ((Chg.of_below (s := fun _ => False) h5u).thenC q4 h5u.size (fun k hk e => by omega))
        have po : ∀ q, (some ⟨o1, 0, none⟩ : Option Addr) = some q → q.block ≠ d3 := fun q hq => x3u.row_off p1 (by rw [bytesOf_length]; decide) q hq
        refine ⟨?_, ?_, trivial⟩
        · refine IfP.yes ?_
          refine RdP.row' p1 (bytesOf_length 40).symm ⟨_, rfl, ?_, trivial⟩
          refine IfP.yes ?_
          refine CallP.intro (bytes_spec (n := 40) x3u (by decide) (by decide) (hk1.below h5u) hkl (by omega)) ?_
          rintro e u2 ⟨o2, rfl, q1, q2, q3, q4⟩
          refine ⟨_, rfl, ?_, trivial⟩
          refine IfP.yes ?_
          refine RdP.row' q1 (bytesOf_length 40).symm ⟨_, rfl, ?_, trivial⟩
          refine IfP.yes ?_
          refine ⟨IfP.yes ?_, trivial⟩
          exact ⟨(), ⟨congrArg Value.bool (beq_self_eq_true _), trivial⟩, h5w _ q4⟩
        · refine IfP.yes ?_
          refine CallP.intro (bytes_spec (n := 40) x3u (by decide) (by decide) (hk1.below h5u) hkl (by omega)) ?_
          rintro e u2 ⟨o2, rfl, q1, q2, q3, q4⟩
          have p2' := p1.chg q4 po
          refine ⟨_, rfl, ?_, ?_, trivial⟩
          · refine IfP.yes ?_
            refine RdP.row' p2' (bytesOf_length 40).symm ⟨_, rfl, ?_, trivial⟩
            refine IfP.yes ?_
            refine RdP.row' q1 (bytesOf_length 40).symm ⟨_, rfl, ?_, trivial⟩
            refine IfP.yes ?_
            refine ⟨IfP.yes ?_, trivial⟩
            exact ⟨(), ⟨congrArg Value.bool (beq_self_eq_true _), trivial⟩, h5w _ q4⟩
          · refine IfP.yes ?_
            refine RdP.row' q1 (bytesOf_length 40).symm ⟨_, rfl, ?_, trivial⟩
            refine IfP.yes ?_
            refine RdP.row' p2' (bytesOf_length 40).symm ⟨_, rfl, ?_, trivial⟩
            refine IfP.yes ?_
            refine ⟨IfP.yes ?_, trivial⟩
            exact ⟨(), ⟨congrArg Value.bool (beq_self_eq_true _), trivial⟩, h5w _ q4⟩
      · rintro ⟨⟩ j' W' hB
        exact ⟨rfl, rfl, b1.trans (hB.mono b1.size)⟩
  · refine IfP.neg (decide_eq_false hin) ?_
    refine IfP.no ?_
    refine IfP.no ?_
    refine IfP.no ?_
    refine CallP.intro (newD_spec (hr1.below h2) hl1 (by omega) (hk1.below h2) hkl) ?_
    rintro e w5 ⟨d3, rfl, x3, y3, z3⟩
    refine ⟨_, rfl, ?_⟩
    have hW := h2.size
    have h5 := h2.trans (z3.mono h2.size)
    have x2' := h4.below z3
    have hd2 := h4.lt
    have hne3 : d2 ≠ d3 := by omega
    refine DrawP.any tysOk extsOk mixed (.take 0 (.take 1 (.take 2 (.take 5 (.alt 3 (.alt 4 (.alt 6 (.alt 7 (.alt 8 (.alt 9 (.take 10 (.done)) (.done)) (.done)) (.done)) (.done)) (.alt 6 (.alt 4 (.alt 7 (.alt 8 (.alt 9 (.take 10 (.done)) (.done)) (.done)) (.done)) (.alt 7 (.alt 4 (.alt 8 (.alt 9 (.take 10 (.done)) (.done)) (.done)) (.done)) (.done))) (.done))) (.done)))))) 70300024700944 (by kernel_rfl) (by kernel_rfl) (S := Unit) (fun _ => [(4, .bool true)]) (fun _ W' => Below w1.heap.size w1 W') ?_ ?_
    · have hb0 : Below w5.heap.size w5 { w5 with drawn := w5.drawn + 1 } := (Below.refl _ _).drew
      have hz : ({ w5 with drawn := w5.drawn + 1 } : World).heap.size = w5.heap.size := rfl
      have x2v := x2'.below hb0
      have x3v := x3.below hb0
      have h5v := h5.trans (hb0.mono h5.size)
      generalize ({ w5 with drawn := w5.drawn + 1 } : World) = v at hb0 hz x2v x3v h5v ⊢
      refine IfP.yes ?_
      refine IfP.yes ?_
      refine ⟨?_, trivial⟩
      refine IfP.yes ?_
      refine CallP.intro (bytes_spec (n := 40) x2v (by decide) (by decide) (hk1.below h5v) hkl (by omega)) ?_
      rintro e u1 ⟨o1, rfl, p1, p2, p3, p4⟩
      refine ⟨_, rfl, ?_⟩
      have x3u := x3v.chg x2v p4 hne3
      have h5u : Below w1.heap.size w1 u1 := Chg.below ((Chg.of_below (s := fun _ => False) h5v).thenC p4 h5v.size (fun k hk e => by omega))
      have h5w : ∀ u2, Chg u1.heap.size (fun k => k = d3) u1 u2 → Below w1.heap.size w1 u2 := fun u2 q4 => Chg.below ((Chg.of_below (s := fun _ => False) h5u).thenC q4 h5u.size (fun k hk e => by omega))
      have po : ∀ q, (some ⟨o1, 0, none⟩ : Option Addr) = some q → q.block ≠ d3 := fun q hq => x3u.row_off p1 (by rw [bytesOf_length]; decide) q hq
      refine ⟨?_, ?_, trivial⟩
      · refine IfP.yes ?_
        refine RdP.row' p1 (bytesOf_length 40).symm ⟨_, rfl, ?_, trivial⟩
        refine IfP.yes ?_
        refine CallP.intro (bytes_spec (n := 40) x3u (by decide) (by decide) (hk1.below h5u) hkl (by omega)) ?_
        rintro e u2 ⟨o2, rfl, q1, q2, q3, q4⟩
        refine ⟨_, rfl, ?_, trivial⟩
        refine IfP.yes ?_
        refine RdP.row' q1 (bytesOf_length 40).symm ⟨_, rfl, ?_, trivial⟩
        refine IfP.yes ?_
        refine ⟨IfP.yes ?_, trivial⟩
        exact ⟨(), ⟨congrArg Value.bool (beq_self_eq_true _), trivial⟩, h5w _ q4⟩
      · refine IfP.yes ?_
        refine CallP.intro (bytes_spec (n := 40) x3u (by decide) (by decide) (hk1.below h5u) hkl (by omega)) ?_
        rintro e u2 ⟨o2, rfl, q1, q2, q3, q4⟩
        have p2' := p1.chg q4 po
        refine ⟨_, rfl, ?_, ?_, trivial⟩
        · refine IfP.yes ?_
          refine RdP.row' p2' (bytesOf_length 40).symm ⟨_, rfl, ?_, trivial⟩
          refine IfP.yes ?_
          refine RdP.row' q1 (bytesOf_length 40).symm ⟨_, rfl, ?_, trivial⟩
          refine IfP.yes ?_
          refine ⟨IfP.yes ?_, trivial⟩
          exact ⟨(), ⟨congrArg Value.bool (beq_self_eq_true _), trivial⟩, h5w _ q4⟩
        · refine IfP.yes ?_
          refine RdP.row' q1 (bytesOf_length 40).symm ⟨_, rfl, ?_, trivial⟩
          refine IfP.yes ?_
          refine RdP.row' p2' (bytesOf_length 40).symm ⟨_, rfl, ?_, trivial⟩
          refine IfP.yes ?_
          refine ⟨IfP.yes ?_, trivial⟩
          exact ⟨(), ⟨congrArg Value.bool (beq_self_eq_true _), trivial⟩, h5w _ q4⟩
    · rintro ⟨⟩ j' W' hB
      exact ⟨rfl, rfl, b1.trans (hB.mono b1.size)⟩
end Go.Proofs.YthghiokcinpnlaaDoor
