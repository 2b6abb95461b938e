import Derived.Test.YthghiokcinpnlaaDoorHc4
namespace Go.Proofs.YthghiokcinpnlaaDoor
open Go Go.Ev Go.RowKit
set_option maxRecDepth 20000
set_option linter.unusedVariables false

/-! ### the hash of what was written -/
def padLen (r : Nat) : Nat := if (r + 9) % 64 = 0 then 1 else 65 - (r + 9) % 64
def padding (r : Nat) (n : Int) : List Int := 128 :: List.replicate (padLen r - 1) 0 ++ be64 (IntKind.u64.wrap (n * 2 ^ (min (3 : Int).toNat IntKind.u64.bits)))
def outTo (H : List Int) : Nat → List Int
  | 0 => []
  | i + 1 => outTo H i ++ be32 (IntKind.u32.wrap (H.getD i 0))
theorem outTo_length (H : List Int) : ∀ i, (outTo H i).length = 4 * i
  | 0 => rfl
  | i + 1 => by simp [outTo, outTo_length H i, be32]; omega
def sumOf (kt hs rest : List Int) (n : Int) : List Int := outTo (mixH kt hs (rest ++ padding rest.length n)) 8

theorem set0 (k : Nat) (h : 1 ≤ k) : (List.replicate k (0 : Int)).set 0 128 = 128 :: List.replicate (k - 1) 0 := by
  obtain ⟨m, rfl⟩ : ∃ m, k = m + 1 := ⟨k - 1, by omega⟩
  simp [List.replicate_succ]
set_option maxHeartbeats 1000000 in
theorem sum_spec {kt : List Int} {hb : Nat} {hs rest : List Int} {n : Int} {wo : Option Nat} {w : World} (h : HashAt w hb hs rest n wo) (hsz : rest.length < 64)
    (hk : Row w (some ⟨3, 0, none⟩) .u64 kt) (hkl : kt.length = 80) :
    Calls Tryd.prog 60 #[.pointer (some ⟨hb, 0, none⟩)] w fun e w' => ∃ a' c' o', e = .returned (.slice a' 32 c') ∧ OwnS .u8 5 w' a' 32 c' (sumOf kt hs rest n) o' ∧ (∀ k, o' = some k → w.heap.size ≤ k) ∧ Below w.heap.size w w' := by
  refine calls_of_ev tysOk extsOk Tryd.func60 rfl rfl rfl ?_
  obtain ⟨wa, wl, wc, hB, hO, hs8, hwo⟩ := id h
  refine IfP.no ?_
  have hb0 : Below w.heap.size w { w with drawn := w.drawn + 1 } := (Below.refl _ _).drew
  refine DrawP.any tysOk extsOk mixed (.take 0 (.take 2 (.take 3 (.take 4 (.alt 1 (.alt 5 (.alt 6 (.take 7 (.take 8 (.done))) (.done)) (.done)) (.alt 5 (.alt 1 (.alt 6 (.take 7 (.take 8 (.done))) (.done)) (.done)) (.done))))))) 1040408 (by kernel_rfl) (by kernel_rfl)
    (S := Nat × Option Nat) (fun s => [(3, .pointer (some ⟨s.1, 0, none⟩)), (4, .int .i64 64)]) (fun s w' => HashAt w' s.1 hs rest n s.2 ∧ w.heap.size ≤ s.1 ∧ (∀ k, s.2 = some k → w.heap.size ≤ k) ∧ Below w.heap.size w w') ?_ ?_
  · have hh := h.below hb0
    have hB' := hB.belowS hb0
    generalize hw0 : ({ w with drawn := w.drawn + 1 } : World) = w0 at hh hb0 hB' ⊢
    refine NilP.go ⟨?_, ?_, trivial⟩
    · refine CallP.intro (copy_spec hh (by omega)) ?_
      rintro e w1 ⟨cb, wo', rfl, h1, h2, h3, h4⟩
      refine ⟨_, rfl, ?_, trivial⟩
      refine LdI.go ((hB'.belowS h4).cell 0) ⟨CallP.same (block_spec _) ?_, trivial⟩
      exact ⟨(cb, wo'), ⟨rfl, rfl, trivial⟩, h1, Nat.le_trans hb0.size h2, fun k hk => Nat.le_trans hb0.size (h3 k hk), hb0.trans (h4.mono hb0.size)⟩
    · refine LdI.go (hB'.cell 0) ⟨CallP.intro (copy_spec hh (by omega)) ?_, trivial⟩
      rintro e w1 ⟨cb, wo', rfl, h1, h2, h3, h4⟩
      refine ⟨_, rfl, CallP.same (block_spec _) ?_, trivial⟩
      exact ⟨(cb, wo'), ⟨rfl, rfl, trivial⟩, h1, Nat.le_trans hb0.size h2, fun k hk => Nat.le_trans hb0.size (h3 k hk), hb0.trans (h4.mono hb0.size)⟩
  rintro ⟨cb, co⟩ j w1 ⟨g1, g2, g3, g4⟩
  simp only at g1 g2 g3
  obtain ⟨ca, cl, cc, hcB, hcO, _, hco⟩ := id g1
  have hcl := hcO.len
  refine ChkP.go (by decide) ?_
  refine NilP.go ?_
  refine LdSl.go ((hcB.cell 9).trans (hcells_9 hs8 _ _)) ?_
  have h8 : IntKind.i64.wrap (Int.tdiv 64 8) = 8 := by decide
  have hX : (IntKind.i64.wrap (IntKind.i64.wrap ((cl : Int) + 1) + IntKind.i64.wrap (Int.tdiv 64 8))).tmod 64 = (((rest.length + 9) % 64 : Nat) : Int) := by
    rw [h8, show (cl : Int) + 1 = ((rest.length + 1 : Nat) : Int) by omega, i64_of _ (by omega), show ((rest.length + 1 : Nat) : Int) + 8 = ((rest.length + 9 : Nat) : Int) by omega, i64_of _ (by omega)]
    rfl
  have hmk : IntKind.i64.wrap (IntKind.i64.wrap (64 - (IntKind.i64.wrap (IntKind.i64.wrap ((cl : Int) + 1) + IntKind.i64.wrap (Int.tdiv 64 8))).tmod 64) + 1) = ((65 - (rest.length + 9) % 64 : Nat) : Int) := by
    rw [hX, show (64 : Int) - (((rest.length + 9) % 64 : Nat) : Int) = ((64 - (rest.length + 9) % 64 : Nat) : Int) by omega, i64_of _ (by omega), show ((64 - (rest.length + 9) % 64 : Nat) : Int) + 1 = ((65 - (rest.length + 9) % 64 : Nat) : Int) by omega, i64_of _ (by omega)]
  refine ChkP.go (by decide) ?_
  refine Mk.to _ _ hmk hmk (Nat.le_refl _) (by omega) rfl fun w2 hp2 hA2 hs2 => ?_
  generalize hm : 65 - (rest.length + 9) % 64 = m at *
  have hg2 := g1.below hA2
  have hB2 := hcB.belowS hA2
  have hb2 := g4.trans (hA2.mono g4.size)
  have ho2 := (hB.below g4 h.lt).belowS hA2
  have hk2 := (hk.below g4).below hA2
  have hcb1 := g1.lt
  have hcw1 := g1.wlt
  have hw1le := g4.size
  have hkl3 : 3 < w.heap.size := by obtain ⟨b, o, h1, h2⟩ := hk 0 (by omega); cases h1; exact cell_lt h2
  have hlt := h.lt
  refine NilP.go ?_
  refine LdSl.go ((hB2.cell 9).trans (hcells_9 hs8 _ _)) ?_
  refine ChkP.go (by decide) ?_
  have hpl : ∃ pl, padLen rest.length = pl ∧ pl ≤ m ∧ 1 ≤ pl := ⟨_, rfl, by unfold padLen; split <;> omega, by unfold padLen; split <;> omega⟩
  obtain ⟨pl, hpl, hplm, hpl1⟩ := hpl
  have hp3 := hp2.take pl
  rw [List.take_replicate, Nat.min_eq_left hplm] at hp3
  refine IfP.beq (fun hz => ?_) (fun hz => ?_)
  · have hz' : (rest.length + 9) % 64 = 0 := by have := hX.symm.trans hz; omega
    have hple : pl = 1 := by rw [← hpl]; simp [padLen, hz']
    subst hple
    refine SlcP.first 1 m rfl rfl (by omega) (Nat.le_refl _) ?_
    refine IdxP.toBuf 0 rfl hp3 (by omega) (by simp) fun w3 hp3 hc3 hs3 => ?_
    rw [set0 _ hpl1] at hp3
    have hb3 : Below w.heap.size w w3 := Chg.below ((Chg.of_below (s := fun _ => False) hb2).thenC hc3 hb2.size (fun k hk e => absurd e (by omega)))
    have hg3 := hg2.chg hc3 hg2.lt hg2.wlt (by omega) (fun b hb e => by have := hcw1 b hb; omega)
    have ho3 := ho2.chg hc3 ho2.lt (by have := h.lt; omega)
    have hk3 := hk2.chg hc3 (by intro p hp; cases hp; show ¬ (3 = w1.heap.size); omega)
    refine Mk.to 8 8 h8 h8 (Nat.le_refl _) (by omega) rfl fun w4 hp4 hA4 hs4 => ?_
    have hb4 := hb3.trans (hA4.mono hb3.size)
    have hg4 := hg3.below hA4
    have ho4 := ho3.belowS hA4
    have hk4 := hk3.below hA4
    have hpd4 := hp3.below hA4
    refine DrawP.tail tysOk extsOk mixed 9 (by kernel_rfl) rfl ?_
    refine SlcP.exact 0 8 (by decide) h8 (by omega) (by omega) (.inr rfl) ?_
    refine NilP.go ?_
    refine LdI.go (((Blk.drw ho4).cell 10).trans (hcells_10 hs8 _ _)) ?_
    refine ChkP.go (by decide) ?_
    refine CallP.intro (put64_spec (Buf.drw hp4) (by simp) (by omega)) ?_
    rintro e w5 ⟨rfl, hq5, hc5⟩
    refine ⟨_, rfl, ?_⟩
    have hc5 : Chg w4.heap.size (fun k => k = w3.heap.size) w4 w5 := (Chg.refl _ _ _).drw.thenC hc5 (Nat.le_refl _) (fun _ _ h => h)
    rw [List.drop_of_length_le (by simp), List.append_nil] at hq5
    refine IfP.dneg (by decide) ?_
    have hb5 : Below w.heap.size w w5 := Chg.below ((Chg.of_below (s := fun _ => False) hb4).thenC hc5 hb4.size (fun k hk e => absurd e (by omega)))
    have hg5 := hg4.chg hc5 hg4.lt hg4.wlt (by omega) (fun b hb e => by have := hcw1 b hb; omega)
    have ho5 := ho4.chg hc5 ho4.lt (by omega)
    have hk5 := hk4.chg hc5 (by intro p hp; cases hp; show ¬ (3 = w3.heap.size); omega)
    have hpd5 := hpd4.chg hc5 hpd4.lt (by omega)
    have hsz5 := hc5.size
    have hpO : OwnS .u8 5 w5 (some ⟨w1.heap.size, 0, none⟩) (1) m (128 :: List.replicate (1 - 1) 0) (some w1.heap.size) := ⟨rfl, by simp <;> omega, hpd5⟩
    refine RdP.row' (Buf.row hq5) rfl ?_
    refine App.own hpO rfl (by omega) (by decide) fun a6 c6 o6 w6 hO6 hc6 ho6 => ?_
    have hb6 : Below w.heap.size w w6 := Chg.below ((Chg.of_below (s := fun _ => False) hb5).thenC hc6 hb5.size (fun k hk e => by have := Option.some.inj e; omega))
    have hg6 := hg5.chg hc6 hg5.lt hg5.wlt (by intro e; have := Option.some.inj e; omega) (fun b hb e => by have := Option.some.inj e; have := hcw1 _ hb; omega)
    have hob6 := ho5.chg hc6 ho5.lt (by intro e; have := Option.some.inj e; omega)
    have hk6 := hk5.chg hc6 (by intro p hp e; cases hp; have : w1.heap.size = 3 := Option.some.inj e; omega)
    have ho6' : ∀ p, a6 = some p → p.block ≠ cb ∧ co ≠ some p.block := by
      intro p hp
      have := hO6.at p hp
      rcases ho6 with e | e <;> rw [e] at this <;> have := Option.some.inj this
      · exact ⟨by omega, fun e => by have := hcw1 _ e; omega⟩
      · exact ⟨by omega, fun e => by have := hcw1 _ e; omega⟩
    refine CallP.intro (write_spec hg6 hO6.row hO6.len (by omega) (fun _ => ho6') hk6 hkl (by omega) (fun e => by have := g3 _ e; omega)) ?_
    rintro e w7 ⟨rfl, co', hg7, hf7, hc7⟩
    refine ⟨_, rfl, ?_⟩
    have hb7 : Below w.heap.size w w7 := Chg.below ((Chg.of_below (s := fun _ => False) hb6).thenC hc7 hb6.size (fun k hk e => by rcases e with e | e; omega; have := g3 _ e; omega))
    have ho7 := hob6.chg hc7 hob6.lt (by rintro (e | e); omega; have := g3 _ e; omega)
    have hpdd : rest ++ (128 :: List.replicate (1 - 1) 0 ++ be64 (IntKind.u64.wrap (n * 2 ^ (min (3 : Int).toNat IntKind.u64.bits)))) = rest ++ padding rest.length n := by unfold padding; rw [hpl]
    rw [hpdd] at hg7
    generalize hH : mixH kt hs (rest ++ padding rest.length n) = H at hg7
    have hH8 : H.length = 8 := by rw [← hH]; exact absorb_length _ _ _ hs8 _
    obtain ⟨da, dl, dc, hdB, hdO, _, _⟩ := hg7
    refine NilP.go ?_
    refine LdAgg.go (o := 1) (n := 8) (by exact hdB) (by simp [hcells, hH8]) ?_
    have hcell : ((hcells 3 H (.slice da dl dc) (IntKind.u64.wrap (n + IntKind.u64.wrap (((1 + 8 : Nat)) : Int)))).drop 1).take 8 = H.map (Value.int .u64) := by
      simp only [hcells, List.drop_succ_cons, List.drop_zero]
      rw [List.take_left' (by simp [hH8])]
    rw [hcell]
    refine LoopP.go (S := Nat × Option Addr × Nat × Option Nat) 158436982215414841120292603136 (by kernel_rfl) (fun s => [(84, .int .i64 s.1), (8, .slice s.2.1 (4 * s.1) s.2.2.1)])
      (fun s W => s.1 ≤ 8 ∧ OwnS .u8 5 W s.2.1 (4 * s.1) s.2.2.1 (outTo H s.1) s.2.2.2 ∧ (∀ k, s.2.2.2 = some k → w7.heap.size ≤ k) ∧ Below w7.heap.size w7 W) (fun s => 8 - s.1) (0, none, 0, none) ⟨rfl, rfl, trivial⟩
      ⟨by omega, OwnS.nil _, (fun k hk => by cases hk), Below.refl _ _⟩ ?_
    rintro ⟨i, oa, oc, oo⟩ j' W ⟨k1, k2, k3, k4⟩
    simp only at k1 k2 k3 k4
    refine IfP.dec (fun hlt => ?_) (fun hge => ?_)
    · refine ChkP.go ⟨by omega, by omega⟩ ?_
      refine PtI.at (n := H.getD i 0) i (Nat.mul_one i) (getD_map_int _ _ _ (by omega)) ?_
      refine IfP.pos rfl ?_
      refine CallP.intro (app32_spec k2 (by omega)) ?_
      rintro e W1 ⟨a', c', o', rfl, q1, q2, q3⟩
      refine ⟨_, rfl, ?_⟩
      have hnext : IntKind.i64.wrap ((i : Int) + 1) = ((i + 1 : Nat) : Int) := by rw [show (i : Int) + 1 = ((i + 1 : Nat) : Int) by omega]; exact i64_of _ (by omega)
      refine ⟨rfl, (i + 1, a', c', o'), ⟨⟨congrArg (Value.int .i64) hnext, rfl, trivial⟩, by show i + 1 ≤ 8; omega, q1, ?_, ?_⟩, by show 8 - (i + 1) < 8 - i; omega⟩
      · intro k hk'
        rcases q3 with rfl | ⟨b, rfl, hb'⟩
        · exact k3 k hk'
        · cases hk'; exact Nat.le_trans k4.size hb'
      · exact Chg.below ((Chg.of_below (s := fun _ => False) k4).thenC q2 k4.size (fun k hk e => absurd (k3 k e) (by omega)))
    · have hi8 : i = 8 := by omega
      subst hi8
      cases oo with
      | none => exact absurd k2.2.1 (by decide)
      | some ob =>
        obtain ⟨rfl, hol, hob⟩ := k2
        refine NilP.go ?_
        refine LdI.go ((ho7.belowS k4).cell 0) ?_
        refine CallP.same (size_spec _) ?_
        have hoc := hob.le
        rw [← hol] at hoc
        refine SlcP.first 32 oc rfl rfl (by omega) (Nat.le_refl _) ?_
        refine ⟨rfl, _, oc, some ob, rfl, ⟨rfl, by unfold sumOf; rw [hH, outTo_length], by unfold sumOf; rw [hH]; exact hob⟩, ?_, hb7.trans (k4.mono hb7.size)⟩
        intro k hk'; exact Nat.le_trans hb7.size (k3 k hk')
  · have hz' : ¬ (rest.length + 9) % 64 = 0 := by intro e; exact hz (hX.trans (by rw [e]; rfl))
    have hple : pl = m := by rw [← hpl, ← hm]; simp [padLen, hz']
    subst hple
    refine IdxP.toBuf 0 rfl hp3 (by omega) (by simp) fun w3 hp3 hc3 hs3 => ?_
    rw [set0 _ hpl1] at hp3
    have hb3 : Below w.heap.size w w3 := Chg.below ((Chg.of_below (s := fun _ => False) hb2).thenC hc3 hb2.size (fun k hk e => absurd e (by omega)))
    have hg3 := hg2.chg hc3 hg2.lt hg2.wlt (by omega) (fun b hb e => by have := hcw1 b hb; omega)
    have ho3 := ho2.chg hc3 ho2.lt (by have := h.lt; omega)
    have hk3 := hk2.chg hc3 (by intro p hp; cases hp; show ¬ (3 = w1.heap.size); omega)
    refine Mk.to 8 8 h8 h8 (Nat.le_refl _) (by omega) rfl fun w4 hp4 hA4 hs4 => ?_
    have hb4 := hb3.trans (hA4.mono hb3.size)
    have hg4 := hg3.below hA4
    have ho4 := ho3.belowS hA4
    have hk4 := hk3.below hA4
    have hpd4 := hp3.below hA4
    refine DrawP.tail tysOk extsOk mixed 9 (by kernel_rfl) rfl ?_
    refine SlcP.exact 0 8 (by decide) h8 (by omega) (by omega) (.inr rfl) ?_
    refine NilP.go ?_
    refine LdI.go (((Blk.drw ho4).cell 10).trans (hcells_10 hs8 _ _)) ?_
    refine ChkP.go (by decide) ?_
    refine CallP.intro (put64_spec (Buf.drw hp4) (by simp) (by omega)) ?_
    rintro e w5 ⟨rfl, hq5, hc5⟩
    refine ⟨_, rfl, ?_⟩
    have hc5 : Chg w4.heap.size (fun k => k = w3.heap.size) w4 w5 := (Chg.refl _ _ _).drw.thenC hc5 (Nat.le_refl _) (fun _ _ h => h)
    rw [List.drop_of_length_le (by simp), List.append_nil] at hq5
    refine IfP.dneg (by decide) ?_
    have hb5 : Below w.heap.size w w5 := Chg.below ((Chg.of_below (s := fun _ => False) hb4).thenC hc5 hb4.size (fun k hk e => absurd e (by omega)))
    have hg5 := hg4.chg hc5 hg4.lt hg4.wlt (by omega) (fun b hb e => by have := hcw1 b hb; omega)
    have ho5 := ho4.chg hc5 ho4.lt (by omega)
    have hk5 := hk4.chg hc5 (by intro p hp; cases hp; show ¬ (3 = w3.heap.size); omega)
    have hpd5 := hpd4.chg hc5 hpd4.lt (by omega)
    have hsz5 := hc5.size
    have hpO : OwnS .u8 5 w5 (some ⟨w1.heap.size, 0, none⟩) (pl) pl (128 :: List.replicate (pl - 1) 0) (some w1.heap.size) := ⟨rfl, by simp <;> omega, hpd5⟩
    refine RdP.row' (Buf.row hq5) rfl ?_
    refine App.own hpO rfl (by omega) (by decide) fun a6 c6 o6 w6 hO6 hc6 ho6 => ?_
    have hb6 : Below w.heap.size w w6 := Chg.below ((Chg.of_below (s := fun _ => False) hb5).thenC hc6 hb5.size (fun k hk e => by have := Option.some.inj e; omega))
    have hg6 := hg5.chg hc6 hg5.lt hg5.wlt (by intro e; have := Option.some.inj e; omega) (fun b hb e => by have := Option.some.inj e; have := hcw1 _ hb; omega)
    have hob6 := ho5.chg hc6 ho5.lt (by intro e; have := Option.some.inj e; omega)
    have hk6 := hk5.chg hc6 (by intro p hp e; cases hp; have : w1.heap.size = 3 := Option.some.inj e; omega)
    have ho6' : ∀ p, a6 = some p → p.block ≠ cb ∧ co ≠ some p.block := by
      intro p hp
      have := hO6.at p hp
      rcases ho6 with e | e <;> rw [e] at this <;> have := Option.some.inj this
      · exact ⟨by omega, fun e => by have := hcw1 _ e; omega⟩
      · exact ⟨by omega, fun e => by have := hcw1 _ e; omega⟩
    refine CallP.intro (write_spec hg6 hO6.row hO6.len (by omega) (fun _ => ho6') hk6 hkl (by omega) (fun e => by have := g3 _ e; omega)) ?_
    rintro e w7 ⟨rfl, co', hg7, hf7, hc7⟩
    refine ⟨_, rfl, ?_⟩
    have hb7 : Below w.heap.size w w7 := Chg.below ((Chg.of_below (s := fun _ => False) hb6).thenC hc7 hb6.size (fun k hk e => by rcases e with e | e; omega; have := g3 _ e; omega))
    have ho7 := hob6.chg hc7 hob6.lt (by rintro (e | e); omega; have := g3 _ e; omega)
    have hpdd : rest ++ (128 :: List.replicate (pl - 1) 0 ++ be64 (IntKind.u64.wrap (n * 2 ^ (min (3 : Int).toNat IntKind.u64.bits)))) = rest ++ padding rest.length n := by unfold padding; rw [hpl]
    rw [hpdd] at hg7
    generalize hH : mixH kt hs (rest ++ padding rest.length n) = H at hg7
    have hH8 : H.length = 8 := by rw [← hH]; exact absorb_length _ _ _ hs8 _
    obtain ⟨da, dl, dc, hdB, hdO, _, _⟩ := hg7
    refine NilP.go ?_
    refine LdAgg.go (o := 1) (n := 8) (by exact hdB) (by simp [hcells, hH8]) ?_
    have hcell : ((hcells 3 H (.slice da dl dc) (IntKind.u64.wrap (n + IntKind.u64.wrap (((pl + 8 : Nat)) : Int)))).drop 1).take 8 = H.map (Value.int .u64) := by
      simp only [hcells, List.drop_succ_cons, List.drop_zero]
      rw [List.take_left' (by simp [hH8])]
    rw [hcell]
    refine LoopP.go (S := Nat × Option Addr × Nat × Option Nat) 158436982215414841120292603136 (by kernel_rfl) (fun s => [(84, .int .i64 s.1), (8, .slice s.2.1 (4 * s.1) s.2.2.1)])
      (fun s W => s.1 ≤ 8 ∧ OwnS .u8 5 W s.2.1 (4 * s.1) s.2.2.1 (outTo H s.1) s.2.2.2 ∧ (∀ k, s.2.2.2 = some k → w7.heap.size ≤ k) ∧ Below w7.heap.size w7 W) (fun s => 8 - s.1) (0, none, 0, none) ⟨rfl, rfl, trivial⟩
      ⟨by omega, OwnS.nil _, (fun k hk => by cases hk), Below.refl _ _⟩ ?_
    rintro ⟨i, oa, oc, oo⟩ j' W ⟨k1, k2, k3, k4⟩
    simp only at k1 k2 k3 k4
    refine IfP.dec (fun hlt => ?_) (fun hge => ?_)
    · refine ChkP.go ⟨by omega, by omega⟩ ?_
      refine PtI.at (n := H.getD i 0) i (Nat.mul_one i) (getD_map_int _ _ _ (by omega)) ?_
      refine IfP.pos rfl ?_
      refine CallP.intro (app32_spec k2 (by omega)) ?_
      rintro e W1 ⟨a', c', o', rfl, q1, q2, q3⟩
      refine ⟨_, rfl, ?_⟩
      have hnext : IntKind.i64.wrap ((i : Int) + 1) = ((i + 1 : Nat) : Int) := by rw [show (i : Int) + 1 = ((i + 1 : Nat) : Int) by omega]; exact i64_of _ (by omega)
      refine ⟨rfl, (i + 1, a', c', o'), ⟨⟨congrArg (Value.int .i64) hnext, rfl, trivial⟩, by show i + 1 ≤ 8; omega, q1, ?_, ?_⟩, by show 8 - (i + 1) < 8 - i; omega⟩
      · intro k hk'
        rcases q3 with rfl | ⟨b, rfl, hb'⟩
        · exact k3 k hk'
        · cases hk'; exact Nat.le_trans k4.size hb'
      · exact Chg.below ((Chg.of_below (s := fun _ => False) k4).thenC q2 k4.size (fun k hk e => absurd (k3 k e) (by omega)))
    · have hi8 : i = 8 := by omega
      subst hi8
      cases oo with
      | none => exact absurd k2.2.1 (by decide)
      | some ob =>
        obtain ⟨rfl, hol, hob⟩ := k2
        refine NilP.go ?_
        refine LdI.go ((ho7.belowS k4).cell 0) ?_
        refine CallP.same (size_spec _) ?_
        have hoc := hob.le
        rw [← hol] at hoc
        refine SlcP.first 32 oc rfl rfl (by omega) (Nat.le_refl _) ?_
        refine ⟨rfl, _, oc, some ob, rfl, ⟨rfl, by unfold sumOf; rw [hH, outTo_length], by unfold sumOf; rw [hH]; exact hob⟩, ?_, hb7.trans (k4.mono hb7.size)⟩
        intro k hk'; exact Nat.le_trans hb7.size (k3 k hk')
end Go.Proofs.YthghiokcinpnlaaDoor
