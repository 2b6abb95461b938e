/- Texts of this proof, one behind the other: Hc5 Hc6. -/
import Derived.Test.YthneejblcffdgaaGreatDoorPart8
namespace Go.Proofs.YthneejblcffdgaaGreatDoor
open Go Go.Ev Go.RowKit
set_option maxRecDepth 20000
set_option linter.unusedVariables false

/-! ### the hash of what was written -/
def padLen (r : Nat) : Nat := if (r + 9) % 64 = 0 then 1 else 65 - (r + 9) % 64
def padding (r : Nat) (n : Int) : List Int := 128 :: List.replicate (padLen r - 1) 0 ++ be64 (IntKind.u64.wrap (n * 2 ^ (min (3 : Int).toNat IntKind.u64.bits)))
def outTo (H : List Int) : Nat → List Int
  | 0 => []
  | i + 1 => outTo H i ++ be32 (IntKind.u32.wrap (H.getD i 0))
theorem outTo_length (H : List Int) : ∀ i, (outTo H i).length = 4 * i
  | 0 => rfl
  | i + 1 => by simp [outTo, outTo_length H i, be32]; omega
def sumOf (kt hs rest : List Int) (n : Int) : List Int := outTo (mixH kt hs (rest ++ padding rest.length n)) 8

theorem set0 (k : Nat) (h : 1 ≤ k) : (List.replicate k (0 : Int)).set 0 128 = 128 :: List.replicate (k - 1) 0 := by
  obtain ⟨m, rfl⟩ : ∃ m, k = m + 1 := ⟨k - 1, by omega⟩
  simp [List.replicate_succ]
set_option maxHeartbeats 1000000 in
theorem sum_spec {kt : List Int} {hb : Nat} {hs rest : List Int} {n : Int} {wo : Option Nat} {w : World} (h : HashAt w hb hs rest n wo) (hsz : rest.length < 64)
    (hk : Row w (some ⟨3, 0, none⟩) .u64 kt) (hkl : kt.length = 80) :
    Calls Tryz.prog 101 #[.pointer (some ⟨hb, 0, none⟩)] w fun e w' => ∃ a' c' o', e = .returned (.slice a' 32 c') ∧ OwnS .u8 5 w' a' 32 c' (sumOf kt hs rest n) o' ∧ (∀ k, o' = some k → w.heap.size ≤ k) ∧ Below w.heap.size w w' := by
  refine calls_of_ev tysOk extsOk Tryz.func101 rfl rfl rfl ?_
  obtain ⟨wa, wl, wc, hB, hO, hs8, hwo⟩ := id h
  refine IfP.no ?_
  have hb0 : Below w.heap.size w { w with drawn := w.drawn + 1 } := (Below.refl _ _).drew
  refine DrawP.any tysOk extsOk mixed (.take 0 (.take 2 (.take 3 (.take 4 (.alt 1 (.alt 5 (.alt 6 (.take 7 (.take 8 (.done))) (.done)) (.done)) (.alt 5 (.alt 1 (.alt 6 (.take 7 (.take 8 (.done))) (.done)) (.done)) (.done))))))) 1040408 (by kernel_rfl) (by kernel_rfl)
    (S := Nat × Option Nat) (fun s => [(3, .pointer (some ⟨s.1, 0, none⟩)), (4, .int .i64 64)]) (fun s w' => HashAt w' s.1 hs rest n s.2 ∧ w.heap.size ≤ s.1 ∧ (∀ k, s.2 = some k → w.heap.size ≤ k) ∧ Below w.heap.size w w') ?_ ?_
  · have hh := h.below hb0
    have hB' := hB.belowS hb0
    generalize hw0 : ({ w with drawn := w.drawn + 1 } : World) = w0 at hh hb0 hB' ⊢
    refine NilP.go ⟨?_, ?_, trivial⟩
    · refine CallP.intro (copy_spec hh (by omega)) ?_
      rintro e w1 ⟨cb, wo', rfl, h1, h2, h3, h4⟩
      refine ⟨_, rfl, ?_, trivial⟩
      refine LdI.go ((hB'.belowS h4).cell 0) ⟨CallP.same (block_spec _) ?_, trivial⟩
      exact ⟨(cb, wo'), ⟨rfl, rfl, trivial⟩, h1, Nat.le_trans hb0.size h2, fun k hk => Nat.le_trans hb0.size (h3 k hk), hb0.trans (h4.mono hb0.size)⟩
    · refine LdI.go (hB'.cell 0) ⟨CallP.intro (copy_spec hh (by omega)) ?_, trivial⟩
      rintro e w1 ⟨cb, wo', rfl, h1, h2, h3, h4⟩
      refine ⟨_, rfl, CallP.same (block_spec _) ?_, trivial⟩
      exact ⟨(cb, wo'), ⟨rfl, rfl, trivial⟩, h1, Nat.le_trans hb0.size h2, fun k hk => Nat.le_trans hb0.size (h3 k hk), hb0.trans (h4.mono hb0.size)⟩
  rintro ⟨cb, co⟩ j w1 ⟨g1, g2, g3, g4⟩
  simp only at g1 g2 g3
  obtain ⟨ca, cl, cc, hcB, hcO, _, hco⟩ := id g1
  have hcl := hcO.len
  refine ChkP.go (by decide) ?_
  refine NilP.go ?_
  refine LdSl.go ((hcB.cell 9).trans (hcells_9 hs8 _ _)) ?_
  have h8 : IntKind.i64.wrap (Int.tdiv 64 8) = 8 := by decide
  have hX : (IntKind.i64.wrap (IntKind.i64.wrap ((cl : Int) + 1) + IntKind.i64.wrap (Int.tdiv 64 8))).tmod 64 = (((rest.length + 9) % 64 : Nat) : Int) := by
    rw [h8, show (cl : Int) + 1 = ((rest.length + 1 : Nat) : Int) by omega, i64_of _ (by omega), show ((rest.length + 1 : Nat) : Int) + 8 = ((rest.length + 9 : Nat) : Int) by omega, i64_of _ (by omega)]
    rfl
  have hmk : IntKind.i64.wrap (IntKind.i64.wrap (64 - (IntKind.i64.wrap (IntKind.i64.wrap ((cl : Int) + 1) + IntKind.i64.wrap (Int.tdiv 64 8))).tmod 64) + 1) = ((65 - (rest.length + 9) % 64 : Nat) : Int) := by
    rw [hX, show (64 : Int) - (((rest.length + 9) % 64 : Nat) : Int) = ((64 - (rest.length + 9) % 64 : Nat) : Int) by omega, i64_of _ (by omega), show ((64 - (rest.length + 9) % 64 : Nat) : Int) + 1 = ((65 - (rest.length + 9) % 64 : Nat) : Int) by omega, i64_of _ (by omega)]
  refine ChkP.go (by decide) ?_
  refine Mk.to _ _ hmk hmk (Nat.le_refl _) (by omega) rfl fun w2 hp2 hA2 hs2 => ?_
  generalize hm : 65 - (rest.length + 9) % 64 = m at *
  have hg2 := g1.below hA2
  have hB2 := hcB.belowS hA2
  have hb2 := g4.trans (hA2.mono g4.size)
  have ho2 := (hB.below g4 h.lt).belowS hA2
  have hk2 := (hk.below g4).below hA2
  have hcb1 := g1.lt
  have hcw1 := g1.wlt
  have hw1le := g4.size
  have hkl3 : 3 < w.heap.size := by obtain ⟨b, o, h1, h2⟩ := hk 0 (by omega); cases h1; exact cell_lt h2
  have hlt := h.lt
  refine NilP.go ?_
  refine LdSl.go ((hB2.cell 9).trans (hcells_9 hs8 _ _)) ?_
  refine ChkP.go (by decide) ?_
  have hpl : ∃ pl, padLen rest.length = pl ∧ pl ≤ m ∧ 1 ≤ pl := ⟨_, rfl, by unfold padLen; split <;> omega, by unfold padLen; split <;> omega⟩
  obtain ⟨pl, hpl, hplm, hpl1⟩ := hpl
  have hp3 := hp2.take pl
  rw [List.take_replicate, Nat.min_eq_left hplm] at hp3
  refine IfP.beq (fun hz => ?_) (fun hz => ?_)
  · have hz' : (rest.length + 9) % 64 = 0 := by have := hX.symm.trans hz; omega
    have hple : pl = 1 := by rw [← hpl]; simp [padLen, hz']
    subst hple
    refine SlcP.first 1 m rfl rfl (by omega) (Nat.le_refl _) ?_
    refine IdxP.toBuf 0 rfl hp3 (by omega) (by simp) fun w3 hp3 hc3 hs3 => ?_
    rw [set0 _ hpl1] at hp3
    have hb3 : Below w.heap.size w w3 := Chg.below ((Chg.of_below (s := fun _ => False) hb2).thenC hc3 hb2.size (fun k hk e => absurd e (by omega)))
    have hg3 := hg2.chg hc3 hg2.lt hg2.wlt (by omega) (fun b hb e => by have := hcw1 b hb; omega)
    have ho3 := ho2.chg hc3 ho2.lt (by have := h.lt; omega)
    have hk3 := hk2.chg hc3 (by intro p hp; cases hp; show ¬ (3 = w1.heap.size); omega)
    refine Mk.to 8 8 h8 h8 (Nat.le_refl _) (by omega) rfl fun w4 hp4 hA4 hs4 => ?_
    have hb4 := hb3.trans (hA4.mono hb3.size)
    have hg4 := hg3.below hA4
    have ho4 := ho3.belowS hA4
    have hk4 := hk3.below hA4
    have hpd4 := hp3.below hA4
    refine DrawP.tail tysOk extsOk mixed 9 (by kernel_rfl) rfl ?_
    refine SlcP.exact 0 8 (by decide) h8 (by omega) (by omega) (.inr rfl) ?_
    refine NilP.go ?_
    refine LdI.go (((Blk.drw ho4).cell 10).trans (hcells_10 hs8 _ _)) ?_
    refine ChkP.go (by decide) ?_
    refine CallP.intro (put64_spec (Buf.drw hp4) (by simp) (by omega)) ?_
    rintro e w5 ⟨rfl, hq5, hc5⟩
    refine ⟨_, rfl, ?_⟩
    have hc5 : Chg w4.heap.size (fun k => k = w3.heap.size) w4 w5 := (Chg.refl _ _ _).drw.thenC hc5 (Nat.le_refl _) (fun _ _ h => h)
    rw [List.drop_of_length_le (by simp), List.append_nil] at hq5
    refine IfP.dneg (by decide) ?_
    have hb5 : Below w.heap.size w w5 := Chg.below ((Chg.of_below (s := fun _ => False) hb4).thenC hc5 hb4.size (fun k hk e => absurd e (by omega)))
    have hg5 := hg4.chg hc5 hg4.lt hg4.wlt (by omega) (fun b hb e => by have := hcw1 b hb; omega)
    have ho5 := ho4.chg hc5 ho4.lt (by omega)
    have hk5 := hk4.chg hc5 (by intro p hp; cases hp; show ¬ (3 = w3.heap.size); omega)
    have hpd5 := hpd4.chg hc5 hpd4.lt (by omega)
    have hsz5 := hc5.size
    have hpO : OwnS .u8 5 w5 (some ⟨w1.heap.size, 0, none⟩) (1) m (128 :: List.replicate (1 - 1) 0) (some w1.heap.size) := ⟨rfl, by simp <;> omega, hpd5⟩
    refine RdP.row' (Buf.row hq5) rfl ?_
    refine App.own hpO rfl (by omega) (by decide) fun a6 c6 o6 w6 hO6 hc6 ho6 => ?_
    have hb6 : Below w.heap.size w w6 := Chg.below ((Chg.of_below (s := fun _ => False) hb5).thenC hc6 hb5.size (fun k hk e => by have := Option.some.inj e; omega))
    have hg6 := hg5.chg hc6 hg5.lt hg5.wlt (by intro e; have := Option.some.inj e; omega) (fun b hb e => by have := Option.some.inj e; have := hcw1 _ hb; omega)
    have hob6 := ho5.chg hc6 ho5.lt (by intro e; have := Option.some.inj e; omega)
    have hk6 := hk5.chg hc6 (by intro p hp e; cases hp; have : w1.heap.size = 3 := Option.some.inj e; omega)
    have ho6' : ∀ p, a6 = some p → p.block ≠ cb ∧ co ≠ some p.block := by
      intro p hp
      have := hO6.at p hp
      rcases ho6 with e | e <;> rw [e] at this <;> have := Option.some.inj this
      · exact ⟨by omega, fun e => by have := hcw1 _ e; omega⟩
      · exact ⟨by omega, fun e => by have := hcw1 _ e; omega⟩
    refine CallP.intro (write_spec hg6 hO6.row hO6.len (by omega) (fun _ => ho6') hk6 hkl (by omega) (fun e => by have := g3 _ e; omega)) ?_
    rintro e w7 ⟨rfl, co', hg7, hf7, hc7⟩
    refine ⟨_, rfl, ?_⟩
    have hb7 : Below w.heap.size w w7 := Chg.below ((Chg.of_below (s := fun _ => False) hb6).thenC hc7 hb6.size (fun k hk e => by rcases e with e | e; omega; have := g3 _ e; omega))
    have ho7 := hob6.chg hc7 hob6.lt (by rintro (e | e); omega; have := g3 _ e; omega)
    have hpdd : rest ++ (128 :: List.replicate (1 - 1) 0 ++ be64 (IntKind.u64.wrap (n * 2 ^ (min (3 : Int).toNat IntKind.u64.bits)))) = rest ++ padding rest.length n := by unfold padding; rw [hpl]
    rw [hpdd] at hg7
    generalize hH : mixH kt hs (rest ++ padding rest.length n) = H at hg7
    have hH8 : H.length = 8 := by rw [← hH]; exact absorb_length _ _ _ hs8 _
    obtain ⟨da, dl, dc, hdB, hdO, _, _⟩ := hg7
    refine NilP.go ?_
    refine LdAgg.go (o := 1) (n := 8) (by exact hdB) (by simp [hcells, hH8]) ?_
    have hcell : ((hcells 3 H (.slice da dl dc) (IntKind.u64.wrap (n + IntKind.u64.wrap (((1 + 8 : Nat)) : Int)))).drop 1).take 8 = H.map (Value.int .u64) := by
      simp only [hcells, List.drop_succ_cons, List.drop_zero]
      rw [List.take_left' (by simp [hH8])]
    rw [hcell]
    refine LoopP.go (S := Nat × Option Addr × Nat × Option Nat) 158436982215414841120292603136 (by kernel_rfl) (fun s => [(84, .int .i64 s.1), (8, .slice s.2.1 (4 * s.1) s.2.2.1)])
      (fun s W => s.1 ≤ 8 ∧ OwnS .u8 5 W s.2.1 (4 * s.1) s.2.2.1 (outTo H s.1) s.2.2.2 ∧ (∀ k, s.2.2.2 = some k → w7.heap.size ≤ k) ∧ Below w7.heap.size w7 W) (fun s => 8 - s.1) (0, none, 0, none) ⟨rfl, rfl, trivial⟩
      ⟨by omega, OwnS.nil _, (fun k hk => by cases hk), Below.refl _ _⟩ ?_
    rintro ⟨i, oa, oc, oo⟩ j' W ⟨k1, k2, k3, k4⟩
    simp only at k1 k2 k3 k4
    refine IfP.dec (fun hlt => ?_) (fun hge => ?_)
    · refine ChkP.go ⟨by omega, by omega⟩ ?_
      refine PtI.at (n := H.getD i 0) i (Nat.mul_one i) (getD_map_int _ _ _ (by omega)) ?_
      refine IfP.pos rfl ?_
      refine CallP.intro (app32_spec k2 (by omega)) ?_
      rintro e W1 ⟨a', c', o', rfl, q1, q2, q3⟩
      refine ⟨_, rfl, ?_⟩
      have hnext : IntKind.i64.wrap ((i : Int) + 1) = ((i + 1 : Nat) : Int) := by rw [show (i : Int) + 1 = ((i + 1 : Nat) : Int) by omega]; exact i64_of _ (by omega)
      refine ⟨rfl, (i + 1, a', c', o'), ⟨⟨congrArg (Value.int .i64) hnext, rfl, trivial⟩, by show i + 1 ≤ 8; omega, q1, ?_, ?_⟩, by show 8 - (i + 1) < 8 - i; omega⟩
      · intro k hk'
        rcases q3 with rfl | ⟨b, rfl, hb'⟩
        · exact k3 k hk'
        · cases hk'; exact Nat.le_trans k4.size hb'
      · exact Chg.below ((Chg.of_below (s := fun _ => False) k4).thenC q2 k4.size (fun k hk e => absurd (k3 k e) (by omega)))
    · have hi8 : i = 8 := by omega
      subst hi8
      cases oo with
      | none => exact absurd k2.2.1 (by decide)
      | some ob =>
        obtain ⟨rfl, hol, hob⟩ := k2
        refine NilP.go ?_
        refine LdI.go ((ho7.belowS k4).cell 0) ?_
        refine CallP.same (size_spec _) ?_
        have hoc := hob.le
        rw [← hol] at hoc
        refine SlcP.first 32 oc rfl rfl (by omega) (Nat.le_refl _) ?_
        refine ⟨rfl, _, oc, some ob, rfl, ⟨rfl, by unfold sumOf; rw [hH, outTo_length], by unfold sumOf; rw [hH]; exact hob⟩, ?_, hb7.trans (k4.mono hb7.size)⟩
        intro k hk'; exact Nat.le_trans hb7.size (k3 k hk')
  · have hz' : ¬ (rest.length + 9) % 64 = 0 := by intro e; exact hz (hX.trans (by rw [e]; rfl))
    have hple : pl = m := by rw [← hpl, ← hm]; simp [padLen, hz']
    subst hple
    refine IdxP.toBuf 0 rfl hp3 (by omega) (by simp) fun w3 hp3 hc3 hs3 => ?_
    rw [set0 _ hpl1] at hp3
    have hb3 : Below w.heap.size w w3 := Chg.below ((Chg.of_below (s := fun _ => False) hb2).thenC hc3 hb2.size (fun k hk e => absurd e (by omega)))
    have hg3 := hg2.chg hc3 hg2.lt hg2.wlt (by omega) (fun b hb e => by have := hcw1 b hb; omega)
    have ho3 := ho2.chg hc3 ho2.lt (by have := h.lt; omega)
    have hk3 := hk2.chg hc3 (by intro p hp; cases hp; show ¬ (3 = w1.heap.size); omega)
    refine Mk.to 8 8 h8 h8 (Nat.le_refl _) (by omega) rfl fun w4 hp4 hA4 hs4 => ?_
    have hb4 := hb3.trans (hA4.mono hb3.size)
    have hg4 := hg3.below hA4
    have ho4 := ho3.belowS hA4
    have hk4 := hk3.below hA4
    have hpd4 := hp3.below hA4
    refine DrawP.tail tysOk extsOk mixed 9 (by kernel_rfl) rfl ?_
    refine SlcP.exact 0 8 (by decide) h8 (by omega) (by omega) (.inr rfl) ?_
    refine NilP.go ?_
    refine LdI.go (((Blk.drw ho4).cell 10).trans (hcells_10 hs8 _ _)) ?_
    refine ChkP.go (by decide) ?_
    refine CallP.intro (put64_spec (Buf.drw hp4) (by simp) (by omega)) ?_
    rintro e w5 ⟨rfl, hq5, hc5⟩
    refine ⟨_, rfl, ?_⟩
    have hc5 : Chg w4.heap.size (fun k => k = w3.heap.size) w4 w5 := (Chg.refl _ _ _).drw.thenC hc5 (Nat.le_refl _) (fun _ _ h => h)
    rw [List.drop_of_length_le (by simp), List.append_nil] at hq5
    refine IfP.dneg (by decide) ?_
    have hb5 : Below w.heap.size w w5 := Chg.below ((Chg.of_below (s := fun _ => False) hb4).thenC hc5 hb4.size (fun k hk e => absurd e (by omega)))
    have hg5 := hg4.chg hc5 hg4.lt hg4.wlt (by omega) (fun b hb e => by have := hcw1 b hb; omega)
    have ho5 := ho4.chg hc5 ho4.lt (by omega)
    have hk5 := hk4.chg hc5 (by intro p hp; cases hp; show ¬ (3 = w3.heap.size); omega)
    have hpd5 := hpd4.chg hc5 hpd4.lt (by omega)
    have hsz5 := hc5.size
    have hpO : OwnS .u8 5 w5 (some ⟨w1.heap.size, 0, none⟩) (pl) pl (128 :: List.replicate (pl - 1) 0) (some w1.heap.size) := ⟨rfl, by simp <;> omega, hpd5⟩
    refine RdP.row' (Buf.row hq5) rfl ?_
    refine App.own hpO rfl (by omega) (by decide) fun a6 c6 o6 w6 hO6 hc6 ho6 => ?_
    have hb6 : Below w.heap.size w w6 := Chg.below ((Chg.of_below (s := fun _ => False) hb5).thenC hc6 hb5.size (fun k hk e => by have := Option.some.inj e; omega))
    have hg6 := hg5.chg hc6 hg5.lt hg5.wlt (by intro e; have := Option.some.inj e; omega) (fun b hb e => by have := Option.some.inj e; have := hcw1 _ hb; omega)
    have hob6 := ho5.chg hc6 ho5.lt (by intro e; have := Option.some.inj e; omega)
    have hk6 := hk5.chg hc6 (by intro p hp e; cases hp; have : w1.heap.size = 3 := Option.some.inj e; omega)
    have ho6' : ∀ p, a6 = some p → p.block ≠ cb ∧ co ≠ some p.block := by
      intro p hp
      have := hO6.at p hp
      rcases ho6 with e | e <;> rw [e] at this <;> have := Option.some.inj this
      · exact ⟨by omega, fun e => by have := hcw1 _ e; omega⟩
      · exact ⟨by omega, fun e => by have := hcw1 _ e; omega⟩
    refine CallP.intro (write_spec hg6 hO6.row hO6.len (by omega) (fun _ => ho6') hk6 hkl (by omega) (fun e => by have := g3 _ e; omega)) ?_
    rintro e w7 ⟨rfl, co', hg7, hf7, hc7⟩
    refine ⟨_, rfl, ?_⟩
    have hb7 : Below w.heap.size w w7 := Chg.below ((Chg.of_below (s := fun _ => False) hb6).thenC hc7 hb6.size (fun k hk e => by rcases e with e | e; omega; have := g3 _ e; omega))
    have ho7 := hob6.chg hc7 hob6.lt (by rintro (e | e); omega; have := g3 _ e; omega)
    have hpdd : rest ++ (128 :: List.replicate (pl - 1) 0 ++ be64 (IntKind.u64.wrap (n * 2 ^ (min (3 : Int).toNat IntKind.u64.bits)))) = rest ++ padding rest.length n := by unfold padding; rw [hpl]
    rw [hpdd] at hg7
    generalize hH : mixH kt hs (rest ++ padding rest.length n) = H at hg7
    have hH8 : H.length = 8 := by rw [← hH]; exact absorb_length _ _ _ hs8 _
    obtain ⟨da, dl, dc, hdB, hdO, _, _⟩ := hg7
    refine NilP.go ?_
    refine LdAgg.go (o := 1) (n := 8) (by exact hdB) (by simp [hcells, hH8]) ?_
    have hcell : ((hcells 3 H (.slice da dl dc) (IntKind.u64.wrap (n + IntKind.u64.wrap (((pl + 8 : Nat)) : Int)))).drop 1).take 8 = H.map (Value.int .u64) := by
      simp only [hcells, List.drop_succ_cons, List.drop_zero]
      rw [List.take_left' (by simp [hH8])]
    rw [hcell]
    refine LoopP.go (S := Nat × Option Addr × Nat × Option Nat) 158436982215414841120292603136 (by kernel_rfl) (fun s => [(84, .int .i64 s.1), (8, .slice s.2.1 (4 * s.1) s.2.2.1)])
      (fun s W => s.1 ≤ 8 ∧ OwnS .u8 5 W s.2.1 (4 * s.1) s.2.2.1 (outTo H s.1) s.2.2.2 ∧ (∀ k, s.2.2.2 = some k → w7.heap.size ≤ k) ∧ Below w7.heap.size w7 W) (fun s => 8 - s.1) (0, none, 0, none) ⟨rfl, rfl, trivial⟩
      ⟨by omega, OwnS.nil _, (fun k hk => by cases hk), Below.refl _ _⟩ ?_
    rintro ⟨i, oa, oc, oo⟩ j' W ⟨k1, k2, k3, k4⟩
    simp only at k1 k2 k3 k4
    refine IfP.dec (fun hlt => ?_) (fun hge => ?_)
    · refine ChkP.go ⟨by omega, by omega⟩ ?_
      refine PtI.at (n := H.getD i 0) i (Nat.mul_one i) (getD_map_int _ _ _ (by omega)) ?_
      refine IfP.pos rfl ?_
      refine CallP.intro (app32_spec k2 (by omega)) ?_
      rintro e W1 ⟨a', c', o', rfl, q1, q2, q3⟩
      refine ⟨_, rfl, ?_⟩
      have hnext : IntKind.i64.wrap ((i : Int) + 1) = ((i + 1 : Nat) : Int) := by rw [show (i : Int) + 1 = ((i + 1 : Nat) : Int) by omega]; exact i64_of _ (by omega)
      refine ⟨rfl, (i + 1, a', c', o'), ⟨⟨congrArg (Value.int .i64) hnext, rfl, trivial⟩, by show i + 1 ≤ 8; omega, q1, ?_, ?_⟩, by show 8 - (i + 1) < 8 - i; omega⟩
      · intro k hk'
        rcases q3 with rfl | ⟨b, rfl, hb'⟩
        · exact k3 k hk'
        · cases hk'; exact Nat.le_trans k4.size hb'
      · exact Chg.below ((Chg.of_below (s := fun _ => False) k4).thenC q2 k4.size (fun k hk e => absurd (k3 k e) (by omega)))
    · have hi8 : i = 8 := by omega
      subst hi8
      cases oo with
      | none => exact absurd k2.2.1 (by decide)
      | some ob =>
        obtain ⟨rfl, hol, hob⟩ := k2
        refine NilP.go ?_
        refine LdI.go ((ho7.belowS k4).cell 0) ?_
        refine CallP.same (size_spec _) ?_
        have hoc := hob.le
        rw [← hol] at hoc
        refine SlcP.first 32 oc rfl rfl (by omega) (Nat.le_refl _) ?_
        refine ⟨rfl, _, oc, some ob, rfl, ⟨rfl, by unfold sumOf; rw [hH, outTo_length], by unfold sumOf; rw [hH]; exact hob⟩, ?_, hb7.trans (k4.mono hb7.size)⟩
        intro k hk'; exact Nat.le_trans hb7.size (k3 k hk')
end Go.Proofs.YthneejblcffdgaaGreatDoor

namespace Go.Proofs.YthneejblcffdgaaGreatDoor
open Go Go.Ev Go.RowKit
set_option maxRecDepth 20000
set_option linter.unusedVariables false

/-! ### the code of a message by a key -/
def mapTo (f : Int → Int) (l : List Int) (i : Nat) : List Int := (l.take i).map f ++ l.drop i
theorem mapTo_length (f : Int → Int) (l : List Int) (i : Nat) : (mapTo f l i).length = l.length := by simp [mapTo]; omega
theorem mapTo_get (f : Int → Int) (l : List Int) {i : Nat} (h : i < l.length) : (mapTo f l i).getD i 0 = l.getD i 0 := by
  have hl : ((l.take i).map f).length = i := by simp; omega
  unfold mapTo
  rw [List.getD_eq_getElem?_getD, List.getElem?_append_right (by omega), hl, Nat.sub_self, List.drop_eq_getElem_cons h, List.getD_eq_getElem?_getD, List.getElem?_eq_getElem h]; rfl
theorem mapTo_succ (f : Int → Int) (l : List Int) {i : Nat} (h : i < l.length) : (mapTo f l i).set i (f (l.getD i 0)) = mapTo f l (i + 1) := by
  have hl : ((l.take i).map f).length = i := by simp; omega
  have hd : l.drop i = l.getD i 0 :: l.drop (i + 1) := by
    rw [List.drop_eq_getElem_cons h, List.getD_eq_getElem?_getD, List.getElem?_eq_getElem h]; rfl
  unfold mapTo
  rw [hd]
  have := set_split ((l.take i).map f) (l.getD i 0) (f (l.getD i 0)) (l.drop (i + 1))
  rw [hl] at this
  rw [this, List.take_succ_eq_append_getElem h, List.map_append, List.getD_eq_getElem?_getD, List.getElem?_eq_getElem h]
  simp
theorem mapTo_all (f : Int → Int) (l : List Int) : mapTo f l l.length = l.map f := by simp [mapTo]
def padK (key : List Int) : List Int := key ++ List.replicate (64 - key.length) 0
def xorK (c : Int) (key : List Int) : List Int := (padK key).map (fun x => Go.bits .xor .u8 x c)
abbrev HS := List Int × List Int × Int
def feed (kt : List Int) (s : HS) (bs : List Int) : HS := (mixH kt s.1 (s.2.1 ++ bs), mixR (s.2.1 ++ bs), IntKind.u64.wrap (s.2.2 + IntKind.u64.wrap bs.length))
def hsum (kt : List Int) (s : HS) : List Int := sumOf kt s.1 s.2.1 s.2.2
def keyS (kt : List Int) (c : Int) (key : List Int) : HS := feed kt (start, [], 0) (xorK c key)
def hmac (kt key : List Int) (parts : List (List Int)) : List Int := hsum kt (feed kt (keyS kt 92 key) (hsum kt (parts.foldl (feed kt) (keyS kt 54 key))))
def HAt (w : World) (hb : Nat) (s : HS) (wo : Option Nat) : Prop := HashAt w hb s.1 s.2.1 s.2.2 wo

theorem newKeyed_spec {kt key : List Int} {a : Option Addr} {l c : Nat} {w : World} (hr : Row w a .u8 key) (hl : l = key.length) (h64 : l ≤ 64) (hk : Row w (some ⟨3, 0, none⟩) .u64 kt) (hkl : kt.length = 80) :
    Calls Tryz.prog 94 #[.int .i64 3, .slice a l c] w fun e w' => ∃ h1 h2 o1 o2, e = .returned (.agg #[.pointer (some ⟨h1, 0, none⟩), .pointer (some ⟨h2, 0, none⟩)]) ∧ HAt w' h1 (keyS kt 54 key) o1 ∧ HAt w' h2 (keyS kt 92 key) o2 ∧ Below w.heap.size w w' := by
  refine calls_of_ev tysOk extsOk Tryz.func94 rfl rfl rfl ?_
  have hA0 : Below w.heap.size w (w.alloc (.cells inf124.zero.cells 124)) := (Below.refl _ _).alloc (Nat.le_refl _) _
  have hz0 := Blk.newA w inf124.zero.cells 124
  have hr0 := hr.below hA0
  have hk0 := hk.below hA0
  refine CallP.same (block_spec _) ?_
  refine IfP.dneg (by omega) ?_
  have hl0 : w.heap.size < (w.alloc (.cells inf124.zero.cells 124)).heap.size := by rw [size_alloc]; omega
  generalize w.alloc (.cells inf124.zero.cells 124) = w0 at *
  refine DrawP.any tysOk extsOk mixed (.take 0 (.take 3 (.alt 1 (.alt 2 (.alt 4 (.take 6 (.alt 5 (.take 7 (.done)) (.done))) (.done)) (.alt 4 (.alt 2 (.take 6 (.alt 5 (.take 7 (.done)) (.done))) (.alt 5 (.alt 2 (.take 6 (.take 7 (.done))) (.done)) (.done))) (.done))) (.done)))) 16515168 (by kernel_rfl) (by kernel_rfl)
    (S := Nat × Nat) (fun s => [(5, .slice (some ⟨s.1, 0, none⟩) 64 64), (6, .slice (some ⟨s.2, 0, none⟩) 64 64)])
    (fun s w' => Buf .u8 5 w' s.1 (List.replicate 64 0) 64 ∧ Buf .u8 5 w' s.2 (List.replicate 64 0) 64 ∧ s.1 ≠ s.2 ∧ w0.heap.size ≤ s.1 ∧ w0.heap.size ≤ s.2 ∧ Below w0.heap.size w0 w') ?_ ?_
  · have hb0 : Below w0.heap.size w0 { w0 with drawn := w0.drawn + 1 } := (Below.refl _ _).drew
    have hs0 : ({ w0 with drawn := w0.drawn + 1 } : World).heap.size = w0.heap.size := rfl
    generalize ({ w0 with drawn := w0.drawn + 1 } : World) = v at hb0 hs0 ⊢
    refine ⟨CallP.same (block_spec _) ⟨?_, ?_, trivial⟩, trivial⟩
    · refine Mk.to 64 64 rfl rfl (Nat.le_refl _) (by omega) rfl fun v1 p1 a1 s1 => ⟨CallP.same (block_spec _) ⟨?_, trivial⟩, trivial⟩
      refine Mk.to 64 64 rfl rfl (Nat.le_refl _) (by omega) rfl fun v2 p2 a2 s2 => ?_
      exact ⟨(v.heap.size, v1.heap.size), ⟨rfl, rfl, trivial⟩, p1.below a2, p2, by show v.heap.size ≠ v1.heap.size; omega, by show _ ≤ v.heap.size; omega, by show _ ≤ v1.heap.size; omega, (hb0.trans (a1.mono hb0.size)).trans (a2.mono (by omega))⟩
    · refine CallP.same (block_spec _) ⟨?_, ?_, trivial⟩
      · refine Mk.to 64 64 rfl rfl (Nat.le_refl _) (by omega) rfl fun v1 p1 a1 s1 => ⟨?_, trivial⟩
        refine Mk.to 64 64 rfl rfl (Nat.le_refl _) (by omega) rfl fun v2 p2 a2 s2 => ?_
        exact ⟨(v.heap.size, v1.heap.size), ⟨rfl, rfl, trivial⟩, p1.below a2, p2, by show v.heap.size ≠ v1.heap.size; omega, by show _ ≤ v.heap.size; omega, by show _ ≤ v1.heap.size; omega, (hb0.trans (a1.mono hb0.size)).trans (a2.mono (by omega))⟩
      · refine Mk.to 64 64 rfl rfl (Nat.le_refl _) (by omega) rfl fun v1 p1 a1 s1 => ⟨?_, trivial⟩
        refine Mk.to 64 64 rfl rfl (Nat.le_refl _) (by omega) rfl fun v2 p2 a2 s2 => ?_
        exact ⟨(v1.heap.size, v.heap.size), ⟨rfl, rfl, trivial⟩, p2, p1.below a2, by show v1.heap.size ≠ v.heap.size; omega, by show _ ≤ v1.heap.size; omega, by show _ ≤ v.heap.size; omega, (hb0.trans (a1.mono hb0.size)).trans (a2.mono (by omega))⟩
  rintro ⟨ib, ob⟩ j w1 ⟨g1, g2, g3, g4, g5, g6⟩
  simp only at g1 g2 g3 g4 g5
  have hr1 := hr0.below g6
  have hk1 := hk0.below g6
  have hz1 := hz0.below g6 hl0
  have hmin : (min l 64) * 1 = key.length := by omega
  have hoff0 : ∀ p, a = some p → p.block < w0.heap.size ∨ key = [] := by
    intro p hp
    rcases Nat.eq_zero_or_pos key.length with h0 | h0
    · exact .inr (List.eq_nil_of_length_eq_zero h0)
    · obtain ⟨b', o', e1, e2⟩ := hr0 0 h0
      rw [hp] at e1; cases e1
      exact .inl (cell_lt e2)
  have hsp : (List.replicate 64 (0 : Int)).take 0 ++ key ++ (List.replicate 64 (0 : Int)).drop (0 + key.length) = padK key := by
    rw [List.take_zero, List.nil_append, Nat.zero_add, List.drop_replicate]; rfl
  refine RdP.row' hr1 hmin ?_
  refine StsP.buf (ys := key) 0 g1 (by simp; omega) fun w2 p2 c2 s2 => ?_
  rw [hsp] at p2
  have c2 : Chg w1.heap.size (fun k => k = ib) w1 w2 := c2
  have hr2 : Row w2 a .u8 key := by
    rcases Nat.eq_zero_or_pos key.length with h0 | h0
    · rw [List.eq_nil_of_length_eq_zero h0]; exact Row.nil _ _ _
    · exact hr1.chg c2 (fun p hp => by rcases hoff0 p hp with h | h; omega; rw [h] at h0; simp at h0)
  have q2 := g2.chg c2 g2.lt (fun e => g3 e.symm)
  refine RdP.row' hr2 hmin ?_
  refine StsP.buf (ys := key) 0 q2 (by simp; omega) fun w3 q3 c3 s3 => ?_
  rw [hsp] at q3
  have c3 : Chg w2.heap.size (fun k => k = ob) w2 w3 := c3
  have p3 := p2.chg c3 p2.lt g3
  have hb3 : Below w0.heap.size w0 w3 := Chg.below (((Chg.of_below (s := fun _ => False) g6).thenC c2 g6.size (fun k hk e => absurd e (by omega))).thenC c3 (Nat.le_trans g6.size c2.size) (fun k hk e => absurd e (by omega)))
  have hpk : (padK key).length = 64 := by simp [padK]; omega
  generalize hP : padK key = P at *
  refine LoopP.go (S := Nat) 281470681743488 (by kernel_rfl) (fun i => [(32, .int .i64 i)])
    (fun i W => i ≤ 64 ∧ Buf .u8 5 W ib (mapTo (fun x => Go.bits .xor .u8 x 54) P i) 64 ∧ Buf .u8 5 W ob (mapTo (fun x => Go.bits .xor .u8 x 92) P i) 64 ∧ Below w0.heap.size w0 W) (fun i => 64 - i) 0 ⟨rfl, trivial⟩
    ⟨by omega, by simpa [mapTo] using p3, by simpa [mapTo] using q3, hb3⟩ ?_
  rintro i j' W ⟨hi, k1, k2, k3⟩
  refine IfP.dec (fun hlt => ?_) (fun hge => ?_)
  · have hlt' : i < 64 := by omega
    have l1 := mapTo_length (fun x => Go.bits .xor .u8 x 54) P i
    have l2 := mapTo_length (fun x => Go.bits .xor .u8 x 92) P i
    refine IdxP.ld i rfl k1.row (by omega) hlt' fun b o e => ?_
    refine IdxP.toBuf i rfl k1 hlt' (by omega) fun W1 m1 d1 _ => ?_
    have d1 : Chg W.heap.size (fun k => k = ib) W W1 := d1
    rw [mapTo_get _ _ (by omega), mapTo_succ _ _ (by omega)] at m1
    have m2 := k2.chg d1 k2.lt (fun e => g3 e.symm)
    refine IdxP.ld i rfl m2.row (by omega) hlt' fun b o e => ?_
    refine IdxP.toBuf i rfl m2 hlt' (by omega) fun W2 n2 d2 _ => ?_
    have d2 : Chg W1.heap.size (fun k => k = ob) W1 W2 := d2
    rw [mapTo_get _ _ (by omega), mapTo_succ _ _ (by omega)] at n2
    have n1 := m1.chg d2 m1.lt g3
    have hnext : IntKind.i64.wrap ((i : Int) + 1) = ((i + 1 : Nat) : Int) := by rw [show (i : Int) + 1 = ((i + 1 : Nat) : Int) by omega]; exact i64_of _ (by omega)
    refine ⟨rfl, i + 1, ⟨⟨congrArg (Value.int .i64) hnext, trivial⟩, by omega, n1, n2, ?_⟩, by omega⟩
    exact Chg.below (((Chg.of_below (s := fun _ => False) k3).thenC d1 k3.size (fun k hk e => absurd e (by omega))).thenC d2 (Nat.le_trans k3.size d1.size) (fun k hk e => absurd e (by omega)))
  · have hi64 : i = 64 := by omega
    subst hi64
    have hm : ∀ f, mapTo f P 64 = P.map f := by intro f; rw [← hpk]; exact mapTo_all f P
    rw [hm] at k1 k2
    have e1 : P.map (fun x => Go.bits .xor .u8 x 54) = xorK 54 key := by unfold xorK; rw [hP]
    have e2 : P.map (fun x => Go.bits .xor .u8 x 92) = xorK 92 key := by unfold xorK; rw [hP]
    rw [e1] at k1; rw [e2] at k2
    have lx : ∀ c, (xorK c key).length = 64 := by intro c; unfold xorK; rw [hP]; simp [hpk]
    have hzW := hz0.below k3 hl0
    have hkW := hk0.below k3
    have hibW := k1.lt
    have hobW := k2.lt
    refine CallP.intro (new_spec _) ?_
    rintro e w4 ⟨h1, rfl, a1, a2, a3⟩
    refine ⟨_, rfl, ?_⟩
    refine CallP.intro (new_spec _) ?_
    rintro e w5 ⟨h2, rfl, b1, b2, b3⟩
    refine ⟨_, rfl, ?_⟩
    have hB4 : Below w0.heap.size w0 w4 := k3.trans (a3.mono k3.size)
    have hB5 : Below w0.heap.size w0 w5 := hB4.trans (b3.mono hB4.size)
    have hA : HAt w5 h1 (start, [], 0) none := ⟨none, 0, 0, a2.belowS b3, OwnS.nil _, by decide, by simp⟩
    have hBt : HAt w5 h2 (start, [], 0) none := ⟨none, 0, 0, b2, OwnS.nil _, by decide, by simp⟩
    have h1l := a2.lt
    have h2l := b2.lt
    have sz4 := a3.size
    have sz5 := b3.size
    have m1 := (k1.below a3).below b3
    have m2 := (k2.below a3).below b3
    have hk5 := (hkW.below a3).below b3
    have hz5 := (hzW.belowS a3).belowS b3
    have hkl3 : 3 < w0.heap.size := by obtain ⟨b, o, h1, h2⟩ := hk0 0 (by omega); cases h1; exact cell_lt h2
    have hsW := k3.size
    refine ChkP.go rfl ?_
    have hA6 : Below w5.heap.size w5 (w5.alloc (.cells inf124.zero.cells 124)) := (Below.refl _ _).alloc (Nat.le_refl _) _
    refine StsP.to (Blk.newA w5 inf124.zero.cells 124) ?_ rfl fun w6 x6 c6 _ => ?_
    · intro v hv
      have : v = .pointer (some ⟨h1, 0, none⟩) ∨ v = .pointer (some ⟨h2, 0, none⟩) := by simpa [Value.cells] using hv
      rcases this with rfl | rfl <;> rfl
    have x6 : Blk w6 w5.heap.size [.pointer (some ⟨h1, 0, none⟩), .pointer (some ⟨h2, 0, none⟩)] 124 := x6
    have hx6l := x6.lt
    have hB6 : Below w5.heap.size w5 w6 := Chg.below ((Chg.of_below hA6).thenC c6 hA6.size (fun k hk e => by have : k = w5.heap.size := e; omega))
    refine LdPt.go (x6.cell 0) ?_
    have hA6 := hA.below hB6
    have hB6' := hBt.below hB6
    refine CallP.intro (write_spec hA6 (m1.row.below hB6) (lx 54).symm (by show 0 + 64 ≤ _; omega) (by intro _ p hp; cases hp; exact ⟨by show ib ≠ h1; omega, by simp⟩) (hk5.below hB6) hkl (by omega) (by simp)) ?_
    rintro e w7 ⟨rfl, o1, f1, f2, f3⟩
    refine ⟨_, rfl, ?_⟩
    have f3 : Chg w6.heap.size (fun k => k = h1) w6 w7 := f3.mono (Nat.le_refl _) (fun k _ h => by rcases h with h | h; exact h; cases h)
    have sz7 := f3.size
    have x7 := x6.chg f3 x6.lt (by omega)
    refine LdPt.go (x7.cell 1) ?_
    have hB7 := hB6'.chg f3 hB6'.lt (by simp) (by omega) (by simp)
    have hkk7 := (hk5.below hB6).chg f3 (by intro p hp; cases hp; show ¬ (3 = h1); omega)
    have mm7 := (m2.row.below hB6).chg f3 (by intro p hp; cases hp; show ¬ (ob = h1); omega)
    refine CallP.intro (write_spec hB7 mm7 (lx 92).symm (by show 0 + 64 ≤ _; omega) (by intro _ p hp; cases hp; exact ⟨by show ob ≠ h2; omega, by simp⟩) hkk7 hkl (by omega) (by simp)) ?_
    rintro e w8 ⟨rfl, o2, f4, f5, f6⟩
    refine ⟨_, rfl, ?_⟩
    have f6 : Chg w7.heap.size (fun k => k = h2) w7 w8 := f6.mono (Nat.le_refl _) (fun k _ h => by rcases h with h | h; exact h; cases h)
    have x8 := x7.chg f6 x7.lt (by omega)
    have f1' := f1.chg f6 f1.lt f1.wlt (by omega) (fun b hb => by have := f2 b hb; omega)
    refine LdAgg.go (o := 0) (n := 2) x8 (Nat.le_refl 2) ?_
    refine ChkP.go rfl ?_
    have hB06 : Below w0.heap.size w0 w6 := hB5.trans (hB6.mono hB5.size)
    have hB08 : Below w0.heap.size w0 w8 := Chg.below (((Chg.of_below (s := fun _ => False) hB06).thenC f3 hB06.size (fun k hk e => absurd e (by omega))).thenC f6 (by omega) (fun k hk e => absurd e (by omega)))
    have hz8 := hz0.below hB08 hl0
    refine StsP.to hz8 ?_ rfl fun w9 x9 c9 _ => ?_
    · intro v hv
      have : v = .pointer (some ⟨h1, 0, none⟩) ∨ v = .pointer (some ⟨h2, 0, none⟩) := by simpa [Value.cells] using hv
      rcases this with rfl | rfl <;> rfl
    have c9 : Chg w8.heap.size (fun k => k = w.heap.size) w8 w9 := c9
    have x9 : Blk w9 w.heap.size [.pointer (some ⟨h1, 0, none⟩), .pointer (some ⟨h2, 0, none⟩)] 124 := x9
    refine ⟨rfl, LdAgg.go (o := 0) (n := 2) x9 (Nat.le_refl 2) ⟨h1, h2, o1, o2, rfl, ?_, ?_, ?_⟩⟩
    · have := f1'.chg c9 f1'.lt f1'.wlt (by omega) (fun b hb => by have := f2 b hb; omega)
      unfold HAt keyS feed
      rw [lx]
      exact this
    · have := f4.chg c9 f4.lt f4.wlt (by omega) (fun b hb => by have := f5 b hb; omega)
      unfold HAt keyS feed
      rw [lx]
      exact this
    · exact Chg.below (((Chg.of_below (s := fun _ => False) hA0).thenB hB08 hA0.size).thenC c9 (by have := hB08.size; omega) (fun k hk e => absurd e (by omega)))
end Go.Proofs.YthneejblcffdgaaGreatDoor
