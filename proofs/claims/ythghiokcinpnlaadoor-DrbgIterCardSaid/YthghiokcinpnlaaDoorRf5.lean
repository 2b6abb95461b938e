import Derived.Test.YthghiokcinpnlaaDoorRf4
namespace Go.Proofs.YthghiokcinpnlaaDoor
open Go Go.Ev Go.RowKit
set_option maxRecDepth 20000
set_option linter.unusedVariables false

/-! ### the reference: the generator -/
/-- a state: key, value, count. -/
def RAt (w : World) (db : Nat) (K V : List Int) (n : Int) : Prop :=
  ∃ ka kc va vc, Blk w db [.slice ka 32 kc, .slice va 32 vc, .int .i64 n] 44 ∧ Row w ka .u8 K ∧ Row w va .u8 V ∧ K.length = 32 ∧ V.length = 32 ∧ (∀ p, ka = some p → p.block ≠ db ∧ p.block < w.heap.size) ∧ (∀ p, va = some p → p.block ≠ db ∧ p.block < w.heap.size)
theorem RAt.lt {w : World} {db : Nat} {K V : List Int} {n : Int} (h : RAt w db K V n) : db < w.heap.size := by obtain ⟨ka, kc, va, vc, h, _⟩ := h; exact h.lt
theorem RAt.below {w w' : World} {db : Nat} {K V : List Int} {n : Int} (h : RAt w db K V n) (hb : Below w.heap.size w w') : RAt w' db K V n := by
  obtain ⟨ka, kc, va, vc, h1, h2, h3, h4, h5, h6, h7⟩ := h
  exact ⟨ka, kc, va, vc, h1.belowS hb, h2.below hb, h3.below hb, h4, h5, fun p hp => ⟨(h6 p hp).1, Nat.lt_of_lt_of_le (h6 p hp).2 hb.size⟩, fun p hp => ⟨(h7 p hp).1, Nat.lt_of_lt_of_le (h7 p hp).2 hb.size⟩⟩

theorem RAt.row_off {w : World} {db : Nat} {K V xs : List Int} {n : Int} {a : Option Addr} (h : RAt w db K V n) (hr : Row w a .u8 xs) (hx : 0 < xs.length) : ∀ p, a = some p → p.block ≠ db := by
  obtain ⟨ka, kc, va, vc, h1, _⟩ := h
  obtain ⟨b, o, e1, e2⟩ := hr 0 hx
  intro p hp
  rw [hp] at e1
  cases e1
  intro e
  have e : b = db := e
  subst e
  rw [h1.cell] at e2
  rcases o with _ | _ | _ | o
  · cases e2
  · cases e2
  · cases e2
  · cases e2
theorem RAt.ldV {w : World} {db : Nat} {K V : List Int} {n : Int} {k : Option Addr → Nat → Nat → Prop} (h : RAt w db K V n) (hk : ∀ a c, Row w a .u8 V → V.length = 32 → (∀ p, a = some p → p.block ≠ db ∧ p.block < w.heap.size) → k a 32 c) : LdSl ⟨db, 1, none⟩ k w := by
  obtain ⟨ka, kc, va, vc, h1, h2, h3, h4, h5, h6, h7⟩ := h
  exact LdSl.go (h1.cell 1) (hk va vc h3 h5 h7)
theorem RAt.stK {w : World} {db : Nat} {K V K' : List Int} {n : Int} {a : Option Addr} {c : Nat} {o : Option Nat} {k : World → Prop} (h : RAt w db K V n) (hO : OwnS .u8 5 w a 32 c K' o) (ho : o ≠ some db)
    (hk : ∀ w', RAt w' db K' V n → Chg w.heap.size (fun k => k = db) w w' → k w') : StP ⟨db, 0, none⟩ (.slice a 32 c) k w := by
  obtain ⟨ka, kc, va, vc, h1, h2, h3, h4, h5, h6, h7⟩ := h
  refine StP.to 0 h1 rfl (Nat.succ_pos _) fun w' g1 g2 g3 => hk w' ⟨a, c, va, vc, g1, ?_, ?_, hO.len.symm, h5, ?_, ?_⟩ g2
  · exact hO.row.chg g2 (fun p hp e => ho (by rw [hO.at p hp]; exact congrArg some e))
  · exact h3.chg g2 (fun p hp => (h7 p hp).1)
  · intro p hp
    have := hO.at p hp
    exact ⟨fun e => ho (by rw [this, e]), by rw [g3]; exact hO.lt _ this⟩
  · intro p hp; rw [g3]; exact h7 p hp
theorem RAt.stV {w : World} {db : Nat} {K V V' : List Int} {n : Int} {a : Option Addr} {c : Nat} {o : Option Nat} {k : World → Prop} (h : RAt w db K V n) (hO : OwnS .u8 5 w a 32 c V' o) (ho : o ≠ some db)
    (hk : ∀ w', RAt w' db K V' n → Chg w.heap.size (fun k => k = db) w w' → k w') : StP ⟨db, 1, none⟩ (.slice a 32 c) k w := by
  obtain ⟨ka, kc, va, vc, h1, h2, h3, h4, h5, h6, h7⟩ := h
  refine StP.to 1 h1 rfl (Nat.succ_lt_succ (Nat.succ_pos _)) fun w' g1 g2 g3 => hk w' ⟨ka, kc, a, c, g1, ?_, ?_, h4, hO.len.symm, ?_, ?_⟩ g2
  · exact h2.chg g2 (fun p hp => (h6 p hp).1)
  · exact hO.row.chg g2 (fun p hp e => ho (by rw [hO.at p hp]; exact congrArg some e))
  · intro p hp; rw [g3]; exact h6 p hp
  · intro p hp
    have := hO.at p hp
    exact ⟨fun e => ho (by rw [this, e]), by rw [g3]; exact hO.lt _ this⟩

theorem RAt.chg {w w' : World} {d1 d2 : Nat} {K V K1 V1 : List Int} {n m : Int} (h2 : RAt w d2 K V n) (h1 : RAt w d1 K1 V1 m) (hc : Chg w.heap.size (fun k => k = d1) w w') (hne : d1 ≠ d2) : RAt w' d2 K V n := by
  obtain ⟨ka, kc, va, vc, g1, g2, g3, g4, g5, g6, g7⟩ := h2
  exact ⟨ka, kc, va, vc, g1.chg hc g1.lt (fun e => hne e.symm), g2.chg hc (h1.row_off g2 (by omega)), g3.chg hc (h1.row_off g3 (by omega)), g4, g5,
    fun p hp => ⟨(g6 p hp).1, Nat.lt_of_lt_of_le (g6 p hp).2 hc.size⟩, fun p hp => ⟨(g7 p hp).1, Nat.lt_of_lt_of_le (g7 p hp).2 hc.size⟩⟩


def rupdKV (s : List Int × List Int) (data : List Int) : List Int × List Int :=
  let K1 := rhmac s.1 [s.2, [0], data]
  let V1 := rhmac K1 [s.2]
  if 0 < data.length then
    let K2 := rhmac K1 [V1, [1], data]
    (K2, rhmac K2 [V1])
  else (K1, V1)
set_option maxHeartbeats 1000000 in
theorem rupdate_spec {K V data : List Int} {n : Int} {db : Nat} {a : Option Addr} {l c : Nat} {w : World} (hd : RAt w db K V n) (hr : Row w a .u8 data) (hl : l = data.length) (h9 : l ≤ 100000) :
    Calls Tryd.prog 18 #[.pointer (some ⟨db, 0, none⟩), .slice a l c] w fun e w' => e = .returned (.tuple #[]) ∧ RAt w' db (rupdKV (K, V) data).1 (rupdKV (K, V) data).2 n ∧ Chg w.heap.size (fun k => k = db) w w' := by
  refine calls_of_ev tysOk extsOk Tryd.func18 rfl rfl rfl ?_
  have off : ∀ {w' : World}, Chg w.heap.size (fun k => k = db) w w' → Row w' a .u8 data := fun hc => hr.chg0 hc (fun h0 => hd.row_off hr h0)
  refine DrawP.tree tysOk extsOk mixed [15] (.take 0 (.take 1 (.take 2 (.take 3 (.take 5 (.take 6 (.take 7 (.take 10 (.held 4 (.held 8 (.alt 9 (.alt 11 (.alt 12 (.take 13 (.take 14 (.fin 15 .done .nil))) .nil) .nil) .nil))))))))))) 524272 (by kernel_rfl) (by kernel_rfl) (X := Unit) (fun w' => Below w.heap.size w w') (fun _ => []) (fun _ W' => RAt W' db (rhmac K [V, [0], data]) V n ∧ Chg w.heap.size (fun k => k = db) w W') ?_ ?_
  · intro w0 c0 b0 s0
    obtain ⟨ka, kc, va, vc, hB, hK, hV, hK32, hV32, hka, hva⟩ := hd
    have hd0 : RAt w0 db K V n := RAt.below ⟨ka, kc, va, vc, hB, hK, hV, hK32, hV32, hka, hva⟩ b0
    refine ⟨b0, ?_⟩
    refine NilP.go ?_
    refine NilP.go ?_
    refine HeldP.go (fun w' hS => LdSl.go ((hB.belowS hS).cell 0) rfl) ?_
    refine HeldP.go (fun w' hS => LdSl.go ((hB.belowS hS).cell 1) rfl) ?_
    have P1 := three_parts w0 (vc := vc) (c := c) 0 (hV.below b0) hV32 (hr.below b0) hl (by omega)
    have b1 : Below w0.heap.size w0 (w0.alloc (.cells #[.int .u8 0] 5)) := (Below.refl _ _).alloc (Nat.le_refl _) _
    refine ⟨⟨b0.trans (b1.mono b0.size), ?_⟩, trivial⟩
    refine ⟨⟨b0.trans (P1.2.mono b0.size), ?_⟩, trivial⟩
    refine ⟨?_, trivial⟩
    refine CallP.intro (rhmac_spec ((hK.below b0).below P1.2) hK32.symm (by decide) P1.1 rfl (by decide) (by intro x hx; simp only [List.mem_cons, List.not_mem_nil, or_false] at hx; rcases hx with rfl | rfl | rfl; omega; exact (by decide : 1 ≤ 100000); omega)) ?_
    rintro e w1 ⟨a1, c1, o1, rfl, x1, y1, z1⟩
    have y1' : ∀ k, o1 = some k → w0.heap.size ≤ k := fun k hk => Nat.le_trans P1.2.size (y1 k hk)
    have hb1 : Below w0.heap.size w0 w1 := P1.2.trans (z1.mono P1.2.size)
    have hb01 : Below w.heap.size w w1 := b0.trans (hb1.mono b0.size)
    refine ⟨_, rfl, hb01, ?_⟩
    refine NilP.go ?_
    refine ⟨?_, trivial⟩
    refine (hd0.below hb1).stK x1 (fun e => by have := y1' _ e; have := hd0.lt; omega) fun w2 hd2 hc2 => ?_
    exact ⟨(), trivial, hd2, (Chg.of_below hb01).thenC hc2 hb01.size (fun _ _ h => h)⟩
  · rintro ⟨⟩ j' W1 ⟨hd1, hc1⟩
    refine DrawP.tree tysOk extsOk mixed [13] (.take 0 (.take 1 (.take 2 (.take 3 (.take 5 (.take 6 (.take 7 (.held 4 (.held 8 (.alt 9 (.alt 10 (.take 11 (.take 12 (.fin 13 .done .nil))) .nil) .nil)))))))))) 4294443008 (by kernel_rfl) (by kernel_rfl) (X := Unit) (fun w' => Below W1.heap.size W1 w') (fun _ => []) (fun _ W' => RAt W' db (rhmac K [V, [0], data]) (rhmac (rhmac K [V, [0], data]) [V]) n ∧ Chg W1.heap.size (fun k => k = db) W1 W') ?_ ?_
    · intro w0 c0 b0 s0
      obtain ⟨ka, kc, va, vc, hB, hK, hV, hK32, hV32, hka, hva⟩ := hd1
      have hd0 : RAt w0 db (rhmac K [V, [0], data]) V n := RAt.below ⟨ka, kc, va, vc, hB, hK, hV, hK32, hV32, hka, hva⟩ b0
      refine ⟨b0, ?_⟩
      refine NilP.go ?_
      refine NilP.go ?_
      refine HeldP.go (fun w' hS => LdSl.go ((hB.belowS hS).cell 0) rfl) ?_
      refine HeldP.go (fun w' hS => LdSl.go ((hB.belowS hS).cell 1) rfl) ?_
      have P1 := one_part w0 (vc := vc) (hV.below b0) hV32
      refine ⟨⟨b0.trans (P1.2.mono b0.size), ?_⟩, trivial⟩
      refine ⟨?_, trivial⟩
      refine CallP.intro (rhmac_spec ((hK.below b0).below P1.2) hK32.symm (by decide) P1.1 rfl (by decide) (by intro x hx; simp only [List.mem_cons, List.not_mem_nil, or_false] at hx; subst hx; omega)) ?_
      rintro e w1 ⟨a1, c1, o1, rfl, x1, y1, z1⟩
      have y1' : ∀ k, o1 = some k → w0.heap.size ≤ k := fun k hk => Nat.le_trans P1.2.size (y1 k hk)
      have hb1 : Below w0.heap.size w0 w1 := P1.2.trans (z1.mono P1.2.size)
      have hb01 : Below W1.heap.size W1 w1 := b0.trans (hb1.mono b0.size)
      refine ⟨_, rfl, hb01, ?_⟩
      refine NilP.go ?_
      refine ⟨?_, trivial⟩
      refine (hd0.below hb1).stV x1 (fun e => by have := y1' _ e; have := hd0.lt; omega) fun w2 hd2 hc2 => ?_
      exact ⟨(), trivial, hd2, (Chg.of_below hb01).thenC hc2 hb01.size (fun _ _ h => h)⟩
    · rintro ⟨⟩ j' W2 ⟨hd2, hc2⟩
      have C2 := hc1.thenC hc2 hc1.size (fun _ _ h => h)
      have hr2 := off C2
      refine IfP.dec (fun hlt => ?_) (fun hge => ?_)
      · refine DrawP.tree tysOk extsOk mixed [15] (.take 0 (.take 1 (.take 2 (.take 3 (.take 5 (.take 6 (.take 7 (.take 10 (.held 4 (.held 8 (.alt 9 (.alt 11 (.alt 12 (.take 13 (.take 14 (.fin 15 .done .nil))) .nil) .nil) .nil))))))))))) 1125865547104256 (by kernel_rfl) (by kernel_rfl) (X := Unit) (fun w' => Below W2.heap.size W2 w') (fun _ => []) (fun _ W' => RAt W' db (rhmac (rhmac K [V, [0], data]) [(rhmac (rhmac K [V, [0], data]) [V]), [1], data]) (rhmac (rhmac K [V, [0], data]) [V]) n ∧ Chg W2.heap.size (fun k => k = db) W2 W') ?_ ?_
        · intro w0 c0 b0 s0
          obtain ⟨ka, kc, va, vc, hB, hK, hV, hK32, hV32, hka, hva⟩ := hd2
          have hd0 : RAt w0 db (rhmac K [V, [0], data]) (rhmac (rhmac K [V, [0], data]) [V]) n := RAt.below ⟨ka, kc, va, vc, hB, hK, hV, hK32, hV32, hka, hva⟩ b0
          refine ⟨b0, ?_⟩
          refine NilP.go ?_
          refine NilP.go ?_
          refine HeldP.go (fun w' hS => LdSl.go ((hB.belowS hS).cell 0) rfl) ?_
          refine HeldP.go (fun w' hS => LdSl.go ((hB.belowS hS).cell 1) rfl) ?_
          have P1 := three_parts w0 (vc := vc) (c := c) 1 (hV.below b0) hV32 (hr2.below b0) hl (by omega)
          have b1 : Below w0.heap.size w0 (w0.alloc (.cells #[.int .u8 1] 5)) := (Below.refl _ _).alloc (Nat.le_refl _) _
          refine ⟨⟨b0.trans (b1.mono b0.size), ?_⟩, trivial⟩
          refine ⟨⟨b0.trans (P1.2.mono b0.size), ?_⟩, trivial⟩
          refine ⟨?_, trivial⟩
          refine CallP.intro (rhmac_spec ((hK.below b0).below P1.2) hK32.symm (by decide) P1.1 rfl (by decide) (by intro x hx; simp only [List.mem_cons, List.not_mem_nil, or_false] at hx; rcases hx with rfl | rfl | rfl; omega; exact (by decide : 1 ≤ 100000); omega)) ?_
          rintro e w1 ⟨a1, c1, o1, rfl, x1, y1, z1⟩
          have y1' : ∀ k, o1 = some k → w0.heap.size ≤ k := fun k hk => Nat.le_trans P1.2.size (y1 k hk)
          have hb1 : Below w0.heap.size w0 w1 := P1.2.trans (z1.mono P1.2.size)
          have hb01 : Below W2.heap.size W2 w1 := b0.trans (hb1.mono b0.size)
          refine ⟨_, rfl, hb01, ?_⟩
          refine NilP.go ?_
          refine ⟨?_, trivial⟩
          refine (hd0.below hb1).stK x1 (fun e => by have := y1' _ e; have := hd0.lt; omega) fun w2 hd2 hc2 => ?_
          exact ⟨(), trivial, hd2, (Chg.of_below hb01).thenC hc2 hb01.size (fun _ _ h => h)⟩
        · rintro ⟨⟩ j' W3 ⟨hd3, hc3⟩
          refine DrawP.tree tysOk extsOk mixed [13] (.take 0 (.take 1 (.take 2 (.take 3 (.take 5 (.take 6 (.take 7 (.held 4 (.held 8 (.alt 9 (.alt 10 (.take 11 (.take 12 (.fin 13 .done .nil))) .nil) .nil)))))))))) 9222246136947933184 (by kernel_rfl) (by kernel_rfl) (X := Unit) (fun w' => Below W3.heap.size W3 w') (fun _ => []) (fun _ W' => RAt W' db (rhmac (rhmac K [V, [0], data]) [(rhmac (rhmac K [V, [0], data]) [V]), [1], data]) (rhmac (rhmac (rhmac K [V, [0], data]) [(rhmac (rhmac K [V, [0], data]) [V]), [1], data]) [(rhmac (rhmac K [V, [0], data]) [V])]) n ∧ Chg W3.heap.size (fun k => k = db) W3 W') ?_ ?_
          · intro w0 c0 b0 s0
            obtain ⟨ka, kc, va, vc, hB, hK, hV, hK32, hV32, hka, hva⟩ := hd3
            have hd0 : RAt w0 db (rhmac (rhmac K [V, [0], data]) [(rhmac (rhmac K [V, [0], data]) [V]), [1], data]) (rhmac (rhmac K [V, [0], data]) [V]) n := RAt.below ⟨ka, kc, va, vc, hB, hK, hV, hK32, hV32, hka, hva⟩ b0
            refine ⟨b0, ?_⟩
            refine NilP.go ?_
            refine NilP.go ?_
            refine HeldP.go (fun w' hS => LdSl.go ((hB.belowS hS).cell 0) rfl) ?_
            refine HeldP.go (fun w' hS => LdSl.go ((hB.belowS hS).cell 1) rfl) ?_
            have P1 := one_part w0 (vc := vc) (hV.below b0) hV32
            refine ⟨⟨b0.trans (P1.2.mono b0.size), ?_⟩, trivial⟩
            refine ⟨?_, trivial⟩
            refine CallP.intro (rhmac_spec ((hK.below b0).below P1.2) hK32.symm (by decide) P1.1 rfl (by decide) (by intro x hx; simp only [List.mem_cons, List.not_mem_nil, or_false] at hx; subst hx; omega)) ?_
            rintro e w1 ⟨a1, c1, o1, rfl, x1, y1, z1⟩
            have y1' : ∀ k, o1 = some k → w0.heap.size ≤ k := fun k hk => Nat.le_trans P1.2.size (y1 k hk)
            have hb1 : Below w0.heap.size w0 w1 := P1.2.trans (z1.mono P1.2.size)
            have hb01 : Below W3.heap.size W3 w1 := b0.trans (hb1.mono b0.size)
            refine ⟨_, rfl, hb01, ?_⟩
            refine NilP.go ?_
            refine ⟨?_, trivial⟩
            refine (hd0.below hb1).stV x1 (fun e => by have := y1' _ e; have := hd0.lt; omega) fun w2 hd2 hc2 => ?_
            exact ⟨(), trivial, hd2, (Chg.of_below hb01).thenC hc2 hb01.size (fun _ _ h => h)⟩
          · rintro ⟨⟩ j' W4 ⟨hd4, hc4⟩
            have hpos : 0 < data.length := by omega
            refine ⟨rfl, rfl, ?_, (C2.thenC hc3 C2.size (fun _ _ h => h)).thenC hc4 (C2.thenC hc3 C2.size (fun _ _ h => h)).size (fun _ _ h => h)⟩
            unfold rupdKV
            simp only [if_pos hpos]
            exact hd4
      · have hz : ¬ 0 < data.length := by omega
        refine ⟨rfl, rfl, ?_, C2⟩
        unfold rupdKV
        simp only [if_neg hz]
        exact hd2
end Go.Proofs.YthghiokcinpnlaaDoor
