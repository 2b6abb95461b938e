/- Texts of this proof, one behind the other: Lb2 Lb3 Lb4. -/
import Derived.Test.YthneejblcffdgaaGreatDoorPart11
namespace Go.Proofs.YthneejblcffdgaaGreatDoor
open Go Go.Ev Go.RowKit
set_option maxRecDepth 20000
set_option linter.unusedVariables false

theorem u64_of (n : Nat) (h : n < 18446744073709551616) : IntKind.u64.wrap (n : Int) = n := IntWalk.u64_in _ (by omega)
theorem lz64_spec (x : Nat) (hx : x < 18446744073709551616) (h0 : 0 < x) (w : World) : Calls Tryz.prog 73 #[.int .u64 x] w fun e w' => ∃ s : Nat, e = .returned (.int .i64 s) ∧ s < 64 ∧ 9223372036854775808 ≤ x * 2 ^ s ∧ x * 2 ^ s < 18446744073709551616 ∧ w' = w := by
  refine calls_of_ev tysOk extsOk Tryz.func73 rfl rfl rfl ?_
  refine CallP.intro (len64_spec x hx _) ?_
  rintro e w1 ⟨n, rfl, ⟨h1, h2⟩, rfl⟩
  refine ⟨_, rfl, rfl, 64 - n, ?_, ?_, ?_, ?_, rfl⟩
  · have hn : n ≤ 64 := by
      rcases Nat.lt_or_ge 64 n with h | h
      · rcases h2 with h2 | h2
        · omega
        · have : 2 ^ 64 ≤ 2 ^ (n - 1) := Nat.pow_le_pow_right (by decide) (by omega)
          omega
      · exact h
    show Ending.returned (Value.int .i64 (IntKind.i64.wrap (64 - (n : Int)))) = _
    rw [show (64 : Int) - n = ((64 - n : Nat) : Int) by omega, i64_of _ (by omega)]
  · rcases Nat.eq_zero_or_pos n with rfl | h
    · rw [Nat.pow_zero] at h1; omega
    · omega
  · have hn : n ≠ 0 := by rintro rfl; rw [Nat.pow_zero] at h1; omega
    have h3 : 2 ^ (n - 1) ≤ x := by rcases h2 with h2 | h2; exact absurd h2 hn; exact h2
    have hn : n ≤ 64 := by
      rcases Nat.lt_or_ge 64 n with h | h
      · have : 2 ^ 64 ≤ 2 ^ (n - 1) := Nat.pow_le_pow_right (by decide) (by omega)
        omega
      · exact h
    have : 2 ^ (n - 1) * 2 ^ (64 - n) ≤ x * 2 ^ (64 - n) := Nat.mul_le_mul_right _ h3
    rw [← Nat.pow_add, show n - 1 + (64 - n) = 63 by omega] at this
    exact this
  · have hn : n ≤ 64 := by
      rcases Nat.lt_or_ge 64 n with h | h
      · rcases h2 with h2 | h2
        · omega
        · have : 2 ^ 64 ≤ 2 ^ (n - 1) := Nat.pow_le_pow_right (by decide) (by omega)
          omega
      · exact h
    have : x * 2 ^ (64 - n) < 2 ^ n * 2 ^ (64 - n) := Nat.mul_lt_mul_of_pos_right h1 (Nat.two_pow_pos _)
    rw [← Nat.pow_add, show n + (64 - n) = 64 by omega] at this
    exact this

set_option maxRecDepth 1000000 in
set_option maxHeartbeats 2000000 in
theorem div64_spec (hi lo y : Nat) (hhi : hi < y) (hlo : lo < 18446744073709551616) (hy : y < 18446744073709551616) (w : World) :
    Calls Tryz.prog 91 #[.int .u64 hi, .int .u64 lo, .int .u64 y] w fun e w' => e = .returned (.tuple #[.int .u64 (((hi * 18446744073709551616 + lo) / y : Nat) : Int), .int .u64 (((hi * 18446744073709551616 + lo) % y : Nat) : Int)]) ∧ w'.heap = w.heap ∧ Below w.heap.size w w' := by
  refine calls_of_ev tysOk extsOk Tryz.func91 rfl rfl rfl ?_
  refine IfP.neg (by simp; omega) ?_
  refine IfP.dneg (by omega) ?_
  refine IfP.beq (fun h0 => ?_) (fun h0 => ?_)
  · have h0' : hi = 0 := by omega
    subst h0'
    refine DrawP.still tysOk extsOk mixed (by kernel_rfl) rfl ?_
    refine ChkP.go (by omega) ?_
    refine ChkP.go (by omega) ?_
    have e1 : IntKind.u64.wrap (Int.tdiv (lo : Int) (y : Int)) = (((0 * 18446744073709551616 + lo) / y : Nat) : Int) := by
      rw [Nat.zero_mul, Nat.zero_add, ← Int.ofNat_tdiv]; exact u64_of _ (Nat.lt_of_le_of_lt (Nat.div_le_self _ _) hlo)
    have e2 : Int.tmod (lo : Int) (y : Int) = (((0 * 18446744073709551616 + lo) % y : Nat) : Int) := by
      rw [Nat.zero_mul, Nat.zero_add, ← Int.ofNat_tmod]
    refine ⟨rfl, ?_, rfl, (Below.refl _ _).drew⟩
    show Ending.returned (.tuple #[.int .u64 (IntKind.u64.wrap (Int.tdiv (lo : Int) (y : Int))), .int .u64 (Int.tmod (lo : Int) (y : Int))]) = _
    rw [e1, e2]
  · refine CallP.intro (lz64_spec y hy (by omega) _) ?_
    rintro e w1 ⟨s, rfl, hs, hY1, hY2, hw⟩
    have hw := hw.symm
    subst hw
    refine ⟨_, rfl, ?_⟩
    refine ChkP.go (wrap_u64_nonneg _) ?_
    have eY : IntKind.u64.wrap ((y : Int) * 2 ^ (min (IntKind.u64.wrap (s : Int)).toNat IntKind.u64.bits)) = ((y * 2 ^ s : Nat) : Int) := by
      rw [u64_of s (by omega)]
      have e1 : min ((s : Int)).toNat IntKind.u64.bits = s := by show min s 64 = s; omega
      rw [e1, show ((y : Int) * 2 ^ s) = ((y * 2 ^ s : Nat) : Int) by simp, u64_of _ hY2]
    rw [eY]
    generalize hYdef : y * 2 ^ s = Y at *
    have hp : 0 < 2 ^ s := Nat.two_pow_pos s
    have eY1 : ((Y : Nat) : Int).fdiv (2 ^ (min (32 : Int).toNat IntKind.u64.bits)) = ((Y / 4294967296 : Nat) : Int) := fdiv_pow Y 32
    have eY0 : Go.bits .and .u64 ((Y : Nat) : Int) 4294967295 = ((Y % 4294967296 : Nat) : Int) := by rw [and_low32 _ (by omega) (by omega)]; omega
    refine ChkP.go (by decide) ?_
    rw [eY1]
    refine ChkP.go (wrap_u64_nonneg _) ?_
    rw [eY0]
    have hhs : hi * 2 ^ s < Y := by rw [← hYdef]; exact Nat.mul_lt_mul_of_pos_right hhi hp
    have es : min (IntKind.u64.wrap (s : Int)).toNat IntKind.u64.bits = s := by rw [u64_of s (by omega)]; show min s 64 = s; omega
    have eH : IntKind.u64.wrap ((hi : Int) * 2 ^ (min (IntKind.u64.wrap (s : Int)).toNat IntKind.u64.bits)) = ((hi * 2 ^ s : Nat) : Int) := by
      rw [es, show ((hi : Int) * 2 ^ s) = ((hi * 2 ^ s : Nat) : Int) by simp, u64_of _ (by omega)]
    rw [eH]
    refine ChkP.go (wrap_u64_nonneg _) ?_
    have eL : (lo : Int).fdiv (2 ^ (min (IntKind.u64.wrap (64 - IntKind.u64.wrap (s : Int))).toNat IntKind.u64.bits)) = ((lo / 2 ^ (64 - s) : Nat) : Int) := by
      rw [u64_of s (by omega), show (64 : Int) - (s : Int) = ((64 - s : Nat) : Int) by omega, u64_of _ (by omega)]
      have : min (((64 - s : Nat) : Int)).toNat IntKind.u64.bits = 64 - s := by show min (64 - s) 64 = 64 - s; omega
      rw [this]; exact fdiv_pow lo (64 - s)
    rw [eL]
    have h264 : 2 ^ (64 - s) * 2 ^ s = 18446744073709551616 := by rw [← Nat.pow_add, show 64 - s + s = 64 by omega]
    have hcl : lo / 2 ^ (64 - s) < 2 ^ s := by rw [Nat.div_lt_iff_lt_mul (Nat.two_pow_pos _), Nat.mul_comm, h264]; exact hlo
    generalize hU : hi * 2 ^ s + lo / 2 ^ (64 - s) = U
    have hUY : U < Y := by
      have : (hi + 1) * 2 ^ s ≤ Y := by rw [← hYdef]; exact Nat.mul_le_mul_right _ hhi
      rw [Nat.add_mul] at this
      omega
    have eU : Go.bits .or .u64 ((hi * 2 ^ s : Nat) : Int) ((lo / 2 ^ (64 - s) : Nat) : Int) = ((U : Nat) : Int) := by
      rw [bits_or_u64_nat _ _ (by omega) (by omega)]
      have := Nat.two_pow_add_eq_or_of_lt hcl hi
      rw [Nat.mul_comm] at this
      rw [← this, hU]
    refine ChkP.go (wrap_u64_nonneg _) ?_
    rw [eU]
    generalize hT : lo * 2 ^ s % 18446744073709551616 = T
    have hTlt : T < 18446744073709551616 := by rw [← hT]; exact Nat.mod_lt _ (by decide)
    have eT : IntKind.u64.wrap ((lo : Int) * 2 ^ (min (IntKind.u64.wrap (s : Int)).toNat IntKind.u64.bits)) = ((T : Nat) : Int) := by
      rw [es, show ((lo : Int) * 2 ^ s) = ((lo * 2 ^ s : Nat) : Int) by simp, IntKind.wrap_u64, ← hT]; rfl
    rw [eT]
    refine ChkP.go (by decide) ?_
    have eT1 : ((T : Nat) : Int).fdiv (2 ^ (min (32 : Int).toNat IntKind.u64.bits)) = ((T / 4294967296 : Nat) : Int) := fdiv_pow T 32
    have eT0 : Go.bits .and .u64 ((T : Nat) : Int) 4294967295 = ((T % 4294967296 : Nat) : Int) := by rw [and_low32 _ (by omega) (by omega)]; omega
    rw [eT1]
    generalize hy1 : Y / 4294967296 = y1 at *
    generalize hy0 : Y % 4294967296 = y0 at *
    generalize hd1 : T / 4294967296 = d1 at *
    generalize hd0 : T % 4294967296 = d0 at *
    have hYe : Y = y1 * 4294967296 + y0 := by omega
    have by1 : 2147483648 ≤ y1 := by omega
    have by1' : y1 < 4294967296 := by omega
    have by0 : y0 < 4294967296 := by omega
    have bd1 : d1 < 4294967296 := by omega
    have bd0 : d0 < 4294967296 := by omega
    refine ChkP.go (by omega) ?_
    rw [eT0]
    obtain ⟨Q1, hQ1⟩ : ∃ v, (U * 4294967296 + d1) / Y = v := ⟨_, rfl⟩
    obtain ⟨R, hR⟩ : ∃ v, (U * 4294967296 + d1) % Y = v := ⟨_, rfl⟩
    have hRY : R < Y := by rw [← hR]; exact Nat.mod_lt _ (by omega)
    have hdm : U * 4294967296 + d1 = Q1 * Y + R := by rw [← hQ1, ← hR, Nat.mul_comm (_ / Y)]; exact (Nat.div_add_mod _ _).symm
    have eR : IntKind.u64.wrap (IntKind.u64.wrap (IntKind.u64.wrap ((U : Int) * 4294967296) + (d1 : Int)) - IntKind.u64.wrap ((Q1 : Int) * (Y : Int))) = ((R : Nat) : Int) := by
      simp only [IntKind.wrap_u64]
      rw [show ((Q1 : Int) * (Y : Int)) = ((Q1 * Y : Nat) : Int) by simp]
      omega
    obtain ⟨Q0, hQ0⟩ : ∃ v, (R * 4294967296 + d0) / Y = v := ⟨_, rfl⟩
    have hQ1B : Q1 < 4294967296 := by rw [← hQ1, hYe]; exact Go.Ev.Div.quo_lt by1 (by rw [← hYe]; exact hUY) bd1
    have hQ0B : Q0 < 4294967296 := by rw [← hQ0, hYe]; exact Go.Ev.Div.quo_lt by1 (by rw [← hYe]; exact hRY) bd0
    have hdm0 : R * 4294967296 + d0 = Q0 * Y + (R * 4294967296 + d0) % Y := by rw [← hQ0, Nat.mul_comm (_ / Y)]; exact (Nat.div_add_mod _ _).symm
    have hY0 : 0 < Y := by omega
    obtain ⟨w1, w2⟩ := Go.Ev.Div.whole (B := 4294967296) (u := U) (d1 := d1) (d0 := d0) hY0
    rw [hQ1, hR, hQ0] at w1
    rw [hR] at w2
    have hN : (U * 4294967296 + d1) * 4294967296 + d0 = (hi * 18446744073709551616 + lo) * 2 ^ s := Go.Ev.Div.moved hp h264 hU hT rfl (by omega)
    rw [hN] at w1 w2
    rw [← hYdef, Nat.mul_div_mul_right _ _ hp] at w1
    have w2' : (R * 4294967296 + d0) % Y = (hi * 18446744073709551616 + lo) % y * 2 ^ s := by rw [w2, ← hYdef, Nat.mul_mod_mul_right]
    have eA : IntKind.u64.wrap (IntKind.u64.wrap ((Q1 : Int) * 4294967296) + (Q0 : Int)) = (((hi * 18446744073709551616 + lo) / y : Nat) : Int) := by
      rw [← w1]; simp only [IntKind.wrap_u64]; omega
    have eB : (IntKind.u64.wrap (IntKind.u64.wrap (IntKind.u64.wrap ((R : Int) * 4294967296) + (d0 : Int)) - IntKind.u64.wrap ((Q0 : Int) * (Y : Int)))).fdiv (2 ^ (min (IntKind.u64.wrap (s : Int)).toNat IntKind.u64.bits)) = (((hi * 18446744073709551616 + lo) % y : Nat) : Int) := by
      have hlt : (R * 4294967296 + d0) % Y < Y := Nat.mod_lt _ hY0
      have h1 : IntKind.u64.wrap (IntKind.u64.wrap (IntKind.u64.wrap ((R : Int) * 4294967296) + (d0 : Int)) - IntKind.u64.wrap ((Q0 : Int) * (Y : Int))) = (((R * 4294967296 + d0) % Y : Nat) : Int) := by
        obtain ⟨v, hv⟩ : ∃ v, (R * 4294967296 + d0) % Y = v := ⟨_, rfl⟩
        rw [hv] at hdm0 hlt ⊢
        simp only [IntKind.wrap_u64]
        rw [show ((Q0 : Int) * (Y : Int)) = ((Q0 * Y : Nat) : Int) by simp]
        omega
      rw [h1, es, fdiv_pow, w2', Nat.mul_div_cancel _ hp]
    have hres : Ending.returned (.tuple #[.int .u64 (IntKind.u64.wrap (IntKind.u64.wrap ((Q1 : Int) * 4294967296) + (Q0 : Int))), .int .u64 ((IntKind.u64.wrap (IntKind.u64.wrap (IntKind.u64.wrap ((R : Int) * 4294967296) + (d0 : Int)) - IntKind.u64.wrap ((Q0 : Int) * (Y : Int)))).fdiv (2 ^ (min (IntKind.u64.wrap (s : Int)).toNat IntKind.u64.bits)))]) =
        Ending.returned (.tuple #[.int .u64 (((hi * 18446744073709551616 + lo) / y : Nat) : Int), .int .u64 (((hi * 18446744073709551616 + lo) % y : Nat) : Int)]) := by rw [eA, eB]
    have e15 : IntKind.u64.wrap (Int.tdiv (U : Int) (y1 : Int)) = ((U / y1 : Nat) : Int) := by rw [← Int.ofNat_tdiv]; exact u64_of _ (Nat.lt_of_le_of_lt (Nat.div_le_self _ _) (by omega))
    have e16 : IntKind.u64.wrap ((U : Int) - IntKind.u64.wrap (IntKind.u64.wrap (Int.tdiv (U : Int) (y1 : Int)) * (y1 : Int))) = ((U % y1 : Nat) : Int) := by
      have h1 := Nat.div_add_mod U y1
      rw [e15, show (((U / y1 : Nat) : Int) * (y1 : Int)) = ((U / y1 * y1 : Nat) : Int) by simp, u64_of _ (Nat.lt_of_le_of_lt (Nat.div_mul_le_self _ _) (by omega))]
      rw [Nat.mul_comm] at h1
      rw [show ((U : Int) - ((U / y1 * y1 : Nat) : Int)) = ((U % y1 : Nat) : Int) by omega]
      exact u64_of _ (Nat.lt_of_le_of_lt (Nat.mod_le _ _) (by omega))
    have hJ0 := Go.Ev.Div.start (y1 := y1) (y0 := y0) (u := U) (d := d1) by1 by1' by0 (by rw [← hYe]; exact hUY) bd1
    refine LoopP.go (S := Nat × Nat) 77371104881383677504880640 (by kernel_rfl) (fun s => [(15, .int .u64 s.1), (16, .int .u64 s.2)]) (fun s W => Go.Ev.Div.J y1 y0 U d1 s.1 s.2 ∧ W = w) (fun s => s.1) (U / y1, U % y1)
      ⟨congrArg (Value.int .u64) e15, congrArg (Value.int .u64) e16, trivial⟩ ⟨hJ0, rfl⟩ ?_
    rintro ⟨q, r⟩ j W ⟨hJ, hW⟩
    have hW := hW.symm
    subst hW
    simp only at hJ
    have hsm := Go.Ev.Div.small by0 bd1 hJ
    have hJr := hJ.r
    have hJq := hJ.q
    simp only [Go.Ev.Div.B] at hsm hJr hJq
    have eq0 : IntKind.u64.wrap ((q : Int) * (y0 : Int)) = ((q * y0 : Nat) : Int) := by rw [show ((q : Int) * (y0 : Int)) = ((q * y0 : Nat) : Int) by simp]; exact u64_of _ hsm.1
    have er0 : IntKind.u64.wrap (IntKind.u64.wrap (4294967296 * (r : Int)) + (d1 : Int)) = ((4294967296 * r + d1 : Nat) : Int) := by
      rw [show (4294967296 * (r : Int)) = ((4294967296 * r : Nat) : Int) by simp, u64_of _ (by omega), show (((4294967296 * r : Nat) : Int) + (d1 : Int)) = ((4294967296 * r + d1 : Nat) : Int) by omega]; exact u64_of _ hsm.2
    have hgo : (4294967296 ≤ q ∨ 4294967296 * r + d1 < q * y0) → 1 ≤ q ∧ IntKind.u64.wrap ((q : Int) - 1) = ((q - 1 : Nat) : Int) ∧ IntKind.u64.wrap ((r : Int) + (y1 : Int)) = ((r + y1 : Nat) : Int) ∧ (r + y1 < 4294967296 → Go.Ev.Div.J y1 y0 U d1 (q - 1) (r + y1)) ∧ (4294967296 ≤ r + y1 → Q1 + 1 = q) := by
      intro hc
      obtain ⟨g1, g2, g3⟩ := Go.Ev.Div.step by1 by0 (by rw [← hYe]; exact hUY) bd1 hJ hc
      refine ⟨g1, ?_, ?_, g2, fun h => ?_⟩
      · rw [show ((q : Int) - 1) = ((q - 1 : Nat) : Int) by omega]; exact u64_of _ (by omega)
      · rw [show ((r : Int) + (y1 : Int)) = ((r + y1 : Nat) : Int) by omega]; exact u64_of _ (by omega)
      · have := g3 h; rw [← hYe, hQ1] at this; omega
    have hstop : q * y0 ≤ 4294967296 * r + d1 → Q1 = q := by
      intro hc
      have := Go.Ev.Div.stop by1 hJ hc; rw [← hYe, hQ1] at this; exact this.symm
    rcases Nat.lt_or_ge q 4294967296 with hqB | hqB
    · iterate 8 refine IfP.pos (by simp <;> omega) ?_
      refine IfP.neg (by simp <;> omega) ?_
      refine IfP.dec (fun hc => ?_) (fun hc => ?_)
      · rw [eq0, er0] at hc
        obtain ⟨g1, g2, g3, g4, g5⟩ := hgo (.inr (by omega))
        refine IfP.dec (fun hr => ?_) (fun hr => ?_)
        · rw [g3] at hr
          have hq := g5 (by omega)
          subst hq
          refine ChkP.go (by omega) ?_
          rw [show IntKind.u64.wrap (((Q1 + 1 : Nat) : Int) - 1) = ((Q1 : Nat) : Int) from g2]
          rw [eR]
          have e15 : IntKind.u64.wrap (Int.tdiv (R : Int) (y1 : Int)) = ((R / y1 : Nat) : Int) := by rw [← Int.ofNat_tdiv]; exact u64_of _ (Nat.lt_of_le_of_lt (Nat.div_le_self _ _) (by omega))
          have e16 : IntKind.u64.wrap ((R : Int) - IntKind.u64.wrap (IntKind.u64.wrap (Int.tdiv (R : Int) (y1 : Int)) * (y1 : Int))) = ((R % y1 : Nat) : Int) := by
            have h1 := Nat.div_add_mod R y1
            rw [e15, show (((R / y1 : Nat) : Int) * (y1 : Int)) = ((R / y1 * y1 : Nat) : Int) by simp, u64_of _ (Nat.lt_of_le_of_lt (Nat.div_mul_le_self _ _) (by omega))]
            rw [Nat.mul_comm] at h1
            rw [show ((R : Int) - ((R / y1 * y1 : Nat) : Int)) = ((R % y1 : Nat) : Int) by omega]
            exact u64_of _ (Nat.lt_of_le_of_lt (Nat.mod_le _ _) (by omega))
          have hJ0 := Go.Ev.Div.start (y1 := y1) (y0 := y0) (u := R) (d := d0) by1 by1' by0 (by rw [← hYe]; exact hRY) bd0
          refine LoopP.go (S := Nat × Nat) 2658450920967430832890008133748195328 (by kernel_rfl) (fun s => [(18, .int .u64 s.1), (16, .int .u64 s.2)]) (fun s W => Go.Ev.Div.J y1 y0 R d0 s.1 s.2 ∧ W = w) (fun s => s.1) (R / y1, R % y1)
            ⟨congrArg (Value.int .u64) e15, congrArg (Value.int .u64) e16, trivial⟩ ⟨hJ0, rfl⟩ ?_
          rintro ⟨q, r⟩ j W ⟨hJ, hW⟩
          have hW := hW.symm
          subst hW
          simp only at hJ
          have hsm := Go.Ev.Div.small by0 bd0 hJ
          have hJr := hJ.r
          have hJq := hJ.q
          simp only [Go.Ev.Div.B] at hsm hJr hJq
          have eq0 : IntKind.u64.wrap ((q : Int) * (y0 : Int)) = ((q * y0 : Nat) : Int) := by rw [show ((q : Int) * (y0 : Int)) = ((q * y0 : Nat) : Int) by simp]; exact u64_of _ hsm.1
          have er0 : IntKind.u64.wrap (IntKind.u64.wrap (4294967296 * (r : Int)) + (d0 : Int)) = ((4294967296 * r + d0 : Nat) : Int) := by
            rw [show (4294967296 * (r : Int)) = ((4294967296 * r : Nat) : Int) by simp, u64_of _ (by omega), show (((4294967296 * r : Nat) : Int) + (d0 : Int)) = ((4294967296 * r + d0 : Nat) : Int) by omega]; exact u64_of _ hsm.2
          have hgo : (4294967296 ≤ q ∨ 4294967296 * r + d0 < q * y0) → 1 ≤ q ∧ IntKind.u64.wrap ((q : Int) - 1) = ((q - 1 : Nat) : Int) ∧ IntKind.u64.wrap ((r : Int) + (y1 : Int)) = ((r + y1 : Nat) : Int) ∧ (r + y1 < 4294967296 → Go.Ev.Div.J y1 y0 R d0 (q - 1) (r + y1)) ∧ (4294967296 ≤ r + y1 → Q0 + 1 = q) := by
            intro hc
            obtain ⟨g1, g2, g3⟩ := Go.Ev.Div.step by1 by0 (by rw [← hYe]; exact hRY) bd0 hJ hc
            refine ⟨g1, ?_, ?_, g2, fun h => ?_⟩
            · rw [show ((q : Int) - 1) = ((q - 1 : Nat) : Int) by omega]; exact u64_of _ (by omega)
            · rw [show ((r : Int) + (y1 : Int)) = ((r + y1 : Nat) : Int) by omega]; exact u64_of _ (by omega)
            · have := g3 h; rw [← hYe, hQ0] at this; omega
          have hstop : q * y0 ≤ 4294967296 * r + d0 → Q0 = q := by
            intro hc
            have := Go.Ev.Div.stop by1 hJ hc; rw [← hYe, hQ0] at this; exact this.symm
          rcases Nat.lt_or_ge q 4294967296 with hqB | hqB
          · iterate 8 refine IfP.pos (by simp <;> omega) ?_
            refine IfP.neg (by simp <;> omega) ?_
            refine IfP.dec (fun hc => ?_) (fun hc => ?_)
            · rw [eq0, er0] at hc
              obtain ⟨g1, g2, g3, g4, g5⟩ := hgo (.inr (by omega))
              refine IfP.dec (fun hr => ?_) (fun hr => ?_)
              · rw [g3] at hr
                have hq := g5 (by omega)
                subst hq
                refine ChkP.go (wrap_u64_nonneg _) ?_
                rw [show IntKind.u64.wrap (((Q0 + 1 : Nat) : Int) - 1) = ((Q0 : Nat) : Int) from g2]
                exact ⟨rfl, hres, rfl, Below.refl _ _⟩
              · rw [g3] at hr
                exact ⟨rfl, (q - 1, r + y1), ⟨⟨congrArg (Value.int .u64) g2, congrArg (Value.int .u64) g3, trivial⟩, g4 (by omega), rfl⟩, by show q - 1 < q; omega⟩
            · rw [eq0, er0] at hc
              have hq := hstop (by omega)
              subst hq
              refine ChkP.go (wrap_u64_nonneg _) ?_
              exact ⟨rfl, hres, rfl, Below.refl _ _⟩
          · iterate 8 refine IfP.neg (by simp <;> omega) ?_
            refine IfP.pos (by simp <;> omega) ?_
            refine IfP.yes ?_
            obtain ⟨g1, g2, g3, g4, g5⟩ := hgo (.inl hqB)
            refine IfP.dec (fun hr => ?_) (fun hr => ?_)
            · rw [g3] at hr
              have hq := g5 (by omega)
              subst hq
              refine ChkP.go (wrap_u64_nonneg _) ?_
              rw [show IntKind.u64.wrap (((Q0 + 1 : Nat) : Int) - 1) = ((Q0 : Nat) : Int) from g2]
              exact ⟨rfl, hres, rfl, Below.refl _ _⟩
            · rw [g3] at hr
              exact ⟨rfl, (q - 1, r + y1), ⟨⟨congrArg (Value.int .u64) g2, congrArg (Value.int .u64) g3, trivial⟩, g4 (by omega), rfl⟩, by show q - 1 < q; omega⟩
        · rw [g3] at hr
          exact ⟨rfl, (q - 1, r + y1), ⟨⟨congrArg (Value.int .u64) g2, congrArg (Value.int .u64) g3, trivial⟩, g4 (by omega), rfl⟩, by show q - 1 < q; omega⟩
      · rw [eq0, er0] at hc
        have hq := hstop (by omega)
        subst hq
        refine ChkP.go (by omega) ?_
        rw [eR]
        have e15 : IntKind.u64.wrap (Int.tdiv (R : Int) (y1 : Int)) = ((R / y1 : Nat) : Int) := by rw [← Int.ofNat_tdiv]; exact u64_of _ (Nat.lt_of_le_of_lt (Nat.div_le_self _ _) (by omega))
        have e16 : IntKind.u64.wrap ((R : Int) - IntKind.u64.wrap (IntKind.u64.wrap (Int.tdiv (R : Int) (y1 : Int)) * (y1 : Int))) = ((R % y1 : Nat) : Int) := by
          have h1 := Nat.div_add_mod R y1
          rw [e15, show (((R / y1 : Nat) : Int) * (y1 : Int)) = ((R / y1 * y1 : Nat) : Int) by simp, u64_of _ (Nat.lt_of_le_of_lt (Nat.div_mul_le_self _ _) (by omega))]
          rw [Nat.mul_comm] at h1
          rw [show ((R : Int) - ((R / y1 * y1 : Nat) : Int)) = ((R % y1 : Nat) : Int) by omega]
          exact u64_of _ (Nat.lt_of_le_of_lt (Nat.mod_le _ _) (by omega))
        have hJ0 := Go.Ev.Div.start (y1 := y1) (y0 := y0) (u := R) (d := d0) by1 by1' by0 (by rw [← hYe]; exact hRY) bd0
        refine LoopP.go (S := Nat × Nat) 2658450920967430832890008133748195328 (by kernel_rfl) (fun s => [(18, .int .u64 s.1), (16, .int .u64 s.2)]) (fun s W => Go.Ev.Div.J y1 y0 R d0 s.1 s.2 ∧ W = w) (fun s => s.1) (R / y1, R % y1)
          ⟨congrArg (Value.int .u64) e15, congrArg (Value.int .u64) e16, trivial⟩ ⟨hJ0, rfl⟩ ?_
        rintro ⟨q, r⟩ j W ⟨hJ, hW⟩
        have hW := hW.symm
        subst hW
        simp only at hJ
        have hsm := Go.Ev.Div.small by0 bd0 hJ
        have hJr := hJ.r
        have hJq := hJ.q
        simp only [Go.Ev.Div.B] at hsm hJr hJq
        have eq0 : IntKind.u64.wrap ((q : Int) * (y0 : Int)) = ((q * y0 : Nat) : Int) := by rw [show ((q : Int) * (y0 : Int)) = ((q * y0 : Nat) : Int) by simp]; exact u64_of _ hsm.1
        have er0 : IntKind.u64.wrap (IntKind.u64.wrap (4294967296 * (r : Int)) + (d0 : Int)) = ((4294967296 * r + d0 : Nat) : Int) := by
          rw [show (4294967296 * (r : Int)) = ((4294967296 * r : Nat) : Int) by simp, u64_of _ (by omega), show (((4294967296 * r : Nat) : Int) + (d0 : Int)) = ((4294967296 * r + d0 : Nat) : Int) by omega]; exact u64_of _ hsm.2
        have hgo : (4294967296 ≤ q ∨ 4294967296 * r + d0 < q * y0) → 1 ≤ q ∧ IntKind.u64.wrap ((q : Int) - 1) = ((q - 1 : Nat) : Int) ∧ IntKind.u64.wrap ((r : Int) + (y1 : Int)) = ((r + y1 : Nat) : Int) ∧ (r + y1 < 4294967296 → Go.Ev.Div.J y1 y0 R d0 (q - 1) (r + y1)) ∧ (4294967296 ≤ r + y1 → Q0 + 1 = q) := by
          intro hc
          obtain ⟨g1, g2, g3⟩ := Go.Ev.Div.step by1 by0 (by rw [← hYe]; exact hRY) bd0 hJ hc
          refine ⟨g1, ?_, ?_, g2, fun h => ?_⟩
          · rw [show ((q : Int) - 1) = ((q - 1 : Nat) : Int) by omega]; exact u64_of _ (by omega)
          · rw [show ((r : Int) + (y1 : Int)) = ((r + y1 : Nat) : Int) by omega]; exact u64_of _ (by omega)
          · have := g3 h; rw [← hYe, hQ0] at this; omega
        have hstop : q * y0 ≤ 4294967296 * r + d0 → Q0 = q := by
          intro hc
          have := Go.Ev.Div.stop by1 hJ hc; rw [← hYe, hQ0] at this; exact this.symm
        rcases Nat.lt_or_ge q 4294967296 with hqB | hqB
        · iterate 8 refine IfP.pos (by simp <;> omega) ?_
          refine IfP.neg (by simp <;> omega) ?_
          refine IfP.dec (fun hc => ?_) (fun hc => ?_)
          · rw [eq0, er0] at hc
            obtain ⟨g1, g2, g3, g4, g5⟩ := hgo (.inr (by omega))
            refine IfP.dec (fun hr => ?_) (fun hr => ?_)
            · rw [g3] at hr
              have hq := g5 (by omega)
              subst hq
              refine ChkP.go (wrap_u64_nonneg _) ?_
              rw [show IntKind.u64.wrap (((Q0 + 1 : Nat) : Int) - 1) = ((Q0 : Nat) : Int) from g2]
              exact ⟨rfl, hres, rfl, Below.refl _ _⟩
            · rw [g3] at hr
              exact ⟨rfl, (q - 1, r + y1), ⟨⟨congrArg (Value.int .u64) g2, congrArg (Value.int .u64) g3, trivial⟩, g4 (by omega), rfl⟩, by show q - 1 < q; omega⟩
          · rw [eq0, er0] at hc
            have hq := hstop (by omega)
            subst hq
            refine ChkP.go (wrap_u64_nonneg _) ?_
            exact ⟨rfl, hres, rfl, Below.refl _ _⟩
        · iterate 8 refine IfP.neg (by simp <;> omega) ?_
          refine IfP.pos (by simp <;> omega) ?_
          refine IfP.yes ?_
          obtain ⟨g1, g2, g3, g4, g5⟩ := hgo (.inl hqB)
          refine IfP.dec (fun hr => ?_) (fun hr => ?_)
          · rw [g3] at hr
            have hq := g5 (by omega)
            subst hq
            refine ChkP.go (wrap_u64_nonneg _) ?_
            rw [show IntKind.u64.wrap (((Q0 + 1 : Nat) : Int) - 1) = ((Q0 : Nat) : Int) from g2]
            exact ⟨rfl, hres, rfl, Below.refl _ _⟩
          · rw [g3] at hr
            exact ⟨rfl, (q - 1, r + y1), ⟨⟨congrArg (Value.int .u64) g2, congrArg (Value.int .u64) g3, trivial⟩, g4 (by omega), rfl⟩, by show q - 1 < q; omega⟩
    · iterate 8 refine IfP.neg (by simp <;> omega) ?_
      refine IfP.pos (by simp <;> omega) ?_
      refine IfP.yes ?_
      obtain ⟨g1, g2, g3, g4, g5⟩ := hgo (.inl hqB)
      refine IfP.dec (fun hr => ?_) (fun hr => ?_)
      · rw [g3] at hr
        have hq := g5 (by omega)
        subst hq
        refine ChkP.go (by omega) ?_
        rw [show IntKind.u64.wrap (((Q1 + 1 : Nat) : Int) - 1) = ((Q1 : Nat) : Int) from g2]
        rw [eR]
        have e15 : IntKind.u64.wrap (Int.tdiv (R : Int) (y1 : Int)) = ((R / y1 : Nat) : Int) := by rw [← Int.ofNat_tdiv]; exact u64_of _ (Nat.lt_of_le_of_lt (Nat.div_le_self _ _) (by omega))
        have e16 : IntKind.u64.wrap ((R : Int) - IntKind.u64.wrap (IntKind.u64.wrap (Int.tdiv (R : Int) (y1 : Int)) * (y1 : Int))) = ((R % y1 : Nat) : Int) := by
          have h1 := Nat.div_add_mod R y1
          rw [e15, show (((R / y1 : Nat) : Int) * (y1 : Int)) = ((R / y1 * y1 : Nat) : Int) by simp, u64_of _ (Nat.lt_of_le_of_lt (Nat.div_mul_le_self _ _) (by omega))]
          rw [Nat.mul_comm] at h1
          rw [show ((R : Int) - ((R / y1 * y1 : Nat) : Int)) = ((R % y1 : Nat) : Int) by omega]
          exact u64_of _ (Nat.lt_of_le_of_lt (Nat.mod_le _ _) (by omega))
        have hJ0 := Go.Ev.Div.start (y1 := y1) (y0 := y0) (u := R) (d := d0) by1 by1' by0 (by rw [← hYe]; exact hRY) bd0
        refine LoopP.go (S := Nat × Nat) 2658450920967430832890008133748195328 (by kernel_rfl) (fun s => [(18, .int .u64 s.1), (16, .int .u64 s.2)]) (fun s W => Go.Ev.Div.J y1 y0 R d0 s.1 s.2 ∧ W = w) (fun s => s.1) (R / y1, R % y1)
          ⟨congrArg (Value.int .u64) e15, congrArg (Value.int .u64) e16, trivial⟩ ⟨hJ0, rfl⟩ ?_
        rintro ⟨q, r⟩ j W ⟨hJ, hW⟩
        have hW := hW.symm
        subst hW
        simp only at hJ
        have hsm := Go.Ev.Div.small by0 bd0 hJ
        have hJr := hJ.r
        have hJq := hJ.q
        simp only [Go.Ev.Div.B] at hsm hJr hJq
        have eq0 : IntKind.u64.wrap ((q : Int) * (y0 : Int)) = ((q * y0 : Nat) : Int) := by rw [show ((q : Int) * (y0 : Int)) = ((q * y0 : Nat) : Int) by simp]; exact u64_of _ hsm.1
        have er0 : IntKind.u64.wrap (IntKind.u64.wrap (4294967296 * (r : Int)) + (d0 : Int)) = ((4294967296 * r + d0 : Nat) : Int) := by
          rw [show (4294967296 * (r : Int)) = ((4294967296 * r : Nat) : Int) by simp, u64_of _ (by omega), show (((4294967296 * r : Nat) : Int) + (d0 : Int)) = ((4294967296 * r + d0 : Nat) : Int) by omega]; exact u64_of _ hsm.2
        have hgo : (4294967296 ≤ q ∨ 4294967296 * r + d0 < q * y0) → 1 ≤ q ∧ IntKind.u64.wrap ((q : Int) - 1) = ((q - 1 : Nat) : Int) ∧ IntKind.u64.wrap ((r : Int) + (y1 : Int)) = ((r + y1 : Nat) : Int) ∧ (r + y1 < 4294967296 → Go.Ev.Div.J y1 y0 R d0 (q - 1) (r + y1)) ∧ (4294967296 ≤ r + y1 → Q0 + 1 = q) := by
          intro hc
          obtain ⟨g1, g2, g3⟩ := Go.Ev.Div.step by1 by0 (by rw [← hYe]; exact hRY) bd0 hJ hc
          refine ⟨g1, ?_, ?_, g2, fun h => ?_⟩
          · rw [show ((q : Int) - 1) = ((q - 1 : Nat) : Int) by omega]; exact u64_of _ (by omega)
          · rw [show ((r : Int) + (y1 : Int)) = ((r + y1 : Nat) : Int) by omega]; exact u64_of _ (by omega)
          · have := g3 h; rw [← hYe, hQ0] at this; omega
        have hstop : q * y0 ≤ 4294967296 * r + d0 → Q0 = q := by
          intro hc
          have := Go.Ev.Div.stop by1 hJ hc; rw [← hYe, hQ0] at this; exact this.symm
        rcases Nat.lt_or_ge q 4294967296 with hqB | hqB
        · iterate 8 refine IfP.pos (by simp <;> omega) ?_
          refine IfP.neg (by simp <;> omega) ?_
          refine IfP.dec (fun hc => ?_) (fun hc => ?_)
          · rw [eq0, er0] at hc
            obtain ⟨g1, g2, g3, g4, g5⟩ := hgo (.inr (by omega))
            refine IfP.dec (fun hr => ?_) (fun hr => ?_)
            · rw [g3] at hr
              have hq := g5 (by omega)
              subst hq
              refine ChkP.go (wrap_u64_nonneg _) ?_
              rw [show IntKind.u64.wrap (((Q0 + 1 : Nat) : Int) - 1) = ((Q0 : Nat) : Int) from g2]
              exact ⟨rfl, hres, rfl, Below.refl _ _⟩
            · rw [g3] at hr
              exact ⟨rfl, (q - 1, r + y1), ⟨⟨congrArg (Value.int .u64) g2, congrArg (Value.int .u64) g3, trivial⟩, g4 (by omega), rfl⟩, by show q - 1 < q; omega⟩
          · rw [eq0, er0] at hc
            have hq := hstop (by omega)
            subst hq
            refine ChkP.go (wrap_u64_nonneg _) ?_
            exact ⟨rfl, hres, rfl, Below.refl _ _⟩
        · iterate 8 refine IfP.neg (by simp <;> omega) ?_
          refine IfP.pos (by simp <;> omega) ?_
          refine IfP.yes ?_
          obtain ⟨g1, g2, g3, g4, g5⟩ := hgo (.inl hqB)
          refine IfP.dec (fun hr => ?_) (fun hr => ?_)
          · rw [g3] at hr
            have hq := g5 (by omega)
            subst hq
            refine ChkP.go (wrap_u64_nonneg _) ?_
            rw [show IntKind.u64.wrap (((Q0 + 1 : Nat) : Int) - 1) = ((Q0 : Nat) : Int) from g2]
            exact ⟨rfl, hres, rfl, Below.refl _ _⟩
          · rw [g3] at hr
            exact ⟨rfl, (q - 1, r + y1), ⟨⟨congrArg (Value.int .u64) g2, congrArg (Value.int .u64) g3, trivial⟩, g4 (by omega), rfl⟩, by show q - 1 < q; omega⟩
      · rw [g3] at hr
        exact ⟨rfl, (q - 1, r + y1), ⟨⟨congrArg (Value.int .u64) g2, congrArg (Value.int .u64) g3, trivial⟩, g4 (by omega), rfl⟩, by show q - 1 < q; omega⟩
end Go.Proofs.YthneejblcffdgaaGreatDoor

namespace Go.Proofs.YthneejblcffdgaaGreatDoor
open Go Go.Ev Go.RowKit
set_option maxRecDepth 20000
set_option linter.unusedVariables false

/-! ### numbers of limbs -/
def ints (xs : List Nat) : List Int := xs.map Int.ofNat
theorem ints_length (xs : List Nat) : (ints xs).length = xs.length := List.length_map _
theorem ints_getD (xs : List Nat) (i : Nat) : (ints xs).getD i 0 = ((xs.getD i 0 : Nat) : Int) := by
  unfold ints
  rw [List.getD_eq_getElem?_getD, List.getD_eq_getElem?_getD, List.getElem?_map]
  cases xs[i]? <;> rfl
/-- a row of limbs. -/
def NRow (w : World) (a : Option Addr) (xs : List Nat) : Prop := Row w a .u64 (ints xs)
def Limbs (xs : List Nat) : Prop := ∀ x ∈ xs, x < 18446744073709551616
theorem Limbs.getD {xs : List Nat} (h : Limbs xs) (i : Nat) : xs.getD i 0 < 18446744073709551616 := by
  rw [List.getD_eq_getElem?_getD]
  cases hx : xs[i]? with
  | none => decide
  | some x => exact h x (List.mem_of_getElem? hx)
def trimLen (xs : List Nat) : Nat → Nat
  | 0 => 0
  | n + 1 => if xs.getD n 0 = 0 then trimLen xs n else n + 1
theorem trimLen_le (xs : List Nat) : ∀ n, trimLen xs n ≤ n
  | 0 => Nat.le_refl _
  | n + 1 => by unfold trimLen; split; exact Nat.le_succ_of_le (trimLen_le xs n); exact Nat.le_refl _
def trimmed (xs : List Nat) : List Nat := xs.take (trimLen xs xs.length)
theorem trimmed_length (xs : List Nat) : (trimmed xs).length = trimLen xs xs.length := by unfold trimmed; rw [List.length_take]; exact Nat.min_eq_left (trimLen_le _ _)
theorem Limbs.trimmed {xs : List Nat} (h : Limbs xs) : Limbs (trimmed xs) := fun x hx => h x (List.mem_of_mem_take hx)

theorem trim_spec {xs : List Nat} {a : Option Addr} {l c : Nat} {w : World} (hr : NRow w a xs) (hl : l = xs.length) (hc : l ≤ c) (hs : l ≤ 1000000) :
    Calls Tryz.prog 40 #[.slice a l c] w fun e w' => ∃ a', e = .returned (.slice a' (trimmed xs).length c) ∧ NRow w' a' (trimmed xs) ∧ (∀ p, a' = some p → ∃ q, a = some q ∧ q.block = p.block) ∧ w' = w := by
  refine calls_of_ev tysOk extsOk Tryz.func40 rfl rfl rfl ?_
  have hil := ints_length xs
  refine LoopP.go (S := Nat) 262088 (by kernel_rfl) (fun n => [(3, .int .i64 n)]) (fun n W => n ≤ l ∧ trimLen xs n = trimLen xs l ∧ W = w) (fun n => n) l ⟨rfl, trivial⟩ ⟨Nat.le_refl _, rfl, rfl⟩ ?_
  rintro n j W ⟨h1, h2, hW⟩
  have hW := hW.symm
  subst hW
  rcases n with _ | n
  · iterate 6 refine IfP.neg rfl ?_
    refine IfP.neg rfl ?_
    refine IfP.no ?_
    have hn : trimLen xs 0 = 0 := rfl
    have hlen : (trimmed xs).length = 0 := by rw [trimmed_length, ← hl, ← h2, hn]
    refine SlcP.row (c := c) 0 (0) rfl rfl hr (by omega) hc (by omega) h1 fun a' ha' ho => ?_
    rw [List.drop_zero] at ha'
    refine ⟨rfl, a', ?_, ?_, ho, rfl⟩
    · rw [hlen]; rfl
    · unfold NRow ints trimmed
      rw [← hl, ← h2, hn, List.map_take]; exact ha'
  · have hpos : decide (((n + 1 : Nat) : Int) > 0) = true := decide_eq_true (by omega)
    have hsub : IntKind.i64.wrap (((n + 1 : Nat) : Int) - 1) = (n : Int) := by rw [show (((n + 1 : Nat) : Int) - 1) = (n : Int) by omega]; exact i64_of _ (by omega)
    refine IfP.pos hpos ?_
    iterate 3 refine IfP.yes ?_
    obtain ⟨b, o, ha, hcell⟩ := hr n (by omega)
    have hx : (ints xs)[n]'(by omega) = ((xs.getD n 0 : Nat) : Int) := by
      rw [← ints_getD, List.getD_eq_getElem?_getD, List.getElem?_eq_getElem (by omega)]; rfl
    rw [hx] at hcell
    subst ha
    refine IdxP.at n hsub (by omega) ?_
    refine IfP.yes ?_
    refine LdI.go (n := ((xs.getD n 0 : Nat) : Int)) (show w.cell? ⟨b, o + n * 1, none⟩ = _ by rw [Nat.mul_one]; exact hcell) ?_
    refine IfP.yes ?_
    refine IfP.yes ?_
    refine IfP.beq (fun hz => ?_) (fun hz => ?_)
    · refine ⟨rfl, n, ⟨⟨congrArg (Value.int .i64) hsub, trivial⟩, by omega, ?_, rfl⟩, by omega⟩
      rw [← h2]
      show trimLen xs n = if xs.getD n 0 = 0 then trimLen xs n else n + 1
      rw [if_pos (by omega)]
    · have hn : trimLen xs (n + 1) = n + 1 := by unfold trimLen; rw [if_neg (by omega)]
      have hlen : (trimmed xs).length = n + 1 := by rw [trimmed_length, ← hl, ← h2, hn]
      refine SlcP.row (c := c) 0 (n + 1) rfl rfl hr (by omega) hc (by omega) h1 fun a' ha' ho => ?_
      rw [List.drop_zero] at ha'
      refine ⟨rfl, a', ?_, ?_, ho, rfl⟩
      · rw [hlen]; rfl
      · unfold NRow ints trimmed
        rw [← hl, ← h2, hn, List.map_take]; exact ha'
theorem made_spec {xs : List Nat} {a : Option Addr} {l c : Nat} {w : World} (hr : NRow w a xs) (hl : l = xs.length) (hc : l ≤ c) (hs : l ≤ 1000000) :
    Calls Tryz.prog 71 #[.slice a l c] w fun e w' => ∃ a' c' o', e = .returned (.slice a' (trimmed xs).length c') ∧ OwnS .u64 34 w' a' (trimmed xs).length c' (ints (trimmed xs)) o' ∧ (∀ k, o' = some k → w.heap.size ≤ k) ∧ Below w.heap.size w w' := by
  refine calls_of_ev tysOk extsOk Tryz.func71 rfl rfl rfl ?_
  refine CallP.intro (trim_spec hr hl hc hs) ?_
  rintro e w1 ⟨a', rfl, h1, h2, hw⟩
  have hw := hw.symm
  subst hw
  refine ⟨_, rfl, ?_⟩
  have hlt : (trimmed xs).length ≤ l := by rw [trimmed_length, hl]; exact trimLen_le _ _
  refine RdP.row' h1 (by rw [ints_length]; exact Nat.mul_one _) ?_
  refine App.own (OwnS.nil w) (ints_length _).symm (by omega) (by decide) fun a2 c2 o2 w2 q1 q2 q3 => ?_
  rw [Nat.zero_add, List.nil_append] at *
  refine ⟨rfl, a2, c2, o2, rfl, q1, ?_, Chg.below (q2.mono (Nat.le_refl _) (fun k _ h => by cases h))⟩
  intro k hk
  rcases q3 with q3 | q3 <;> rw [q3] at hk <;> cases hk
  exact Nat.le_refl _
theorem ofN_spec {x : Nat} {w : World} :
    Calls Tryz.prog 47 #[.int .u64 x] w fun e w' => ∃ a' c' o', e = .returned (.slice a' (trimmed [x]).length c') ∧ OwnS .u64 34 w' a' (trimmed [x]).length c' (ints (trimmed [x])) o' ∧ (∀ k, o' = some k → w.heap.size ≤ k) ∧ Below w.heap.size w w' := by
  refine calls_of_ev tysOk extsOk Tryz.func47 rfl rfl rfl ?_
  have hB : Below w.heap.size w (w.alloc (.cells #[.int .u64 x] 34)) := (Below.refl _ _).alloc (Nat.le_refl _) _
  have hR : NRow (w.alloc (.cells #[.int .u64 x] 34)) (some ⟨w.heap.size, 0, none⟩) [x] := Row.of_blk 0 (Blk.newA w #[.int .u64 x] 34) (by
    intro i hi
    have hi0 : i = 0 := by simp [ints] at hi; omega
    subst hi0; rfl)
  refine CallP.intro (made_spec hR rfl (Nat.le_refl 1) (by decide)) ?_
  rintro e w2 ⟨a', c', o', rfl, h1, h2, h3⟩
  exact ⟨_, rfl, rfl, a', c', o', rfl, h1, fun k hk => Nat.le_trans hB.size (h2 k hk), hB.trans (h3.mono hB.size)⟩
end Go.Proofs.YthneejblcffdgaaGreatDoor

namespace Go.Proofs.YthneejblcffdgaaGreatDoor
open Go Go.Ev Go.RowKit
set_option maxRecDepth 20000
set_option linter.unusedVariables false

/-- what a row of limbs is worth. -/
def val : List Nat → Nat
  | [] => 0
  | x :: r => x + 18446744073709551616 * val r
theorem ints_append (a b : List Nat) : ints (a ++ b) = ints a ++ ints b := List.map_append
theorem ints_zeros (n : Nat) : ints (List.replicate n 0) = List.replicate n 0 := by simp [ints]
theorem val_drop {xs : List Nat} {n : Nat} (h : n < xs.length) : val (xs.drop n) = xs.getD n 0 + 18446744073709551616 * val (xs.drop (n + 1)) := by
  rw [List.drop_eq_getElem_cons h, List.getD_eq_getElem?_getD, List.getElem?_eq_getElem h]; rfl

theorem small_arith {M V d r x q t : Nat} (h : d * q + t = r * M + x) : x + M * (V * d + r) = (q + M * V) * d + t := by
  rw [Nat.mul_add, Nat.add_mul, Nat.mul_assoc M V d, Nat.mul_comm q d, Nat.mul_comm M r]
  omega
set_option maxHeartbeats 1000000 in
theorem small_spec {xs : List Nat} {a : Option Addr} {l c d : Nat} {w : World} (hr : NRow w a xs) (hL : Limbs xs) (hl : l = xs.length) (hs : l ≤ 1000000) (hd0 : 0 < d) (hd : d < 18446744073709551616) :
    Calls Tryz.prog 72 #[.slice a l c, .int .u64 d] w fun e w' => ∃ Q r a' c', e = .returned (.tuple #[.slice a' (trimmed Q).length c', .int .u64 (r : Nat)]) ∧ NRow w' a' (trimmed Q) ∧ (∀ p, a' = some p → w.heap.size ≤ p.block) ∧ Limbs Q ∧ Q.length = l ∧ r < d ∧ val xs = val Q * d + r ∧ Below w.heap.size w w' ∧ c' = l := by
  refine calls_of_ev tysOk extsOk Tryz.func72 rfl rfl rfl ?_
  have hil := ints_length xs
  refine Mk.to l l rfl rfl (Nat.le_refl _) (by omega) rfl fun w1 p1 a1 s1 => ?_
  have e0 : IntKind.i64.wrap ((l : Int) - 1) = (l : Int) - 1 := IntWalk.i64_in _ (by omega)
  refine LoopP.go (S := Nat × Nat × List Nat) 4294934912 (by kernel_rfl) (fun s => [(8, .int .i64 ((s.1 : Int) - 1)), (7, .int .u64 (s.2.1 : Nat))])
    (fun s W => s.1 ≤ l ∧ Buf .u64 34 W w.heap.size (ints (List.replicate s.1 0 ++ s.2.2)) l ∧ s.1 + s.2.2.length = l ∧ Limbs s.2.2 ∧ s.2.1 < d ∧ val (xs.drop s.1) = val s.2.2 * d + s.2.1 ∧ Below w.heap.size w W) (fun s => s.1) (l, 0, [])
    ⟨congrArg (Value.int .i64) e0, rfl, trivial⟩ ⟨Nat.le_refl _, by rw [List.append_nil, ints_zeros]; exact p1, by simp, (fun x hx => by cases hx), hd0, by rw [hl, List.drop_length]; simp [val], a1⟩ ?_
  rintro ⟨m, r, Q⟩ j W ⟨h1, h2, h3, h4, h5, h6, h7⟩
  simp only at h1 h2 h3 h4 h5 h6 h7
  refine IfP.dec (fun hge => ?_) (fun hlt => ?_)
  · obtain ⟨n, rfl⟩ : ∃ n, m = n + 1 := ⟨m - 1, by omega⟩
    have hsub : (((n + 1 : Nat) : Int) - 1) = (n : Int) := by omega
    have hrW : NRow W a xs := Row.below hr h7
    refine IdxP.ld n hsub hrW (by omega) (by omega) fun _ _ _ => ?_
    rw [ints_getD]
    have hx := hL.getD n
    refine CallP.intro (div64_spec r (xs.getD n 0) d h5 hx hd W) ?_
    rintro e w2 ⟨rfl, g1, g2⟩
    refine ⟨_, rfl, ?_⟩
    have b2 := h2.below g2
    have hlen : (ints (List.replicate (n + 1) 0 ++ Q)).length = l := by rw [ints_length]; simp; omega
    refine IdxP.toBuf n hsub b2 (by omega) hlen.symm fun w3 b3 c3 s3 => ?_
    have c3 : Chg w2.heap.size (fun k => k = w.heap.size) w2 w3 := c3
    have hq : (r * 18446744073709551616 + xs.getD n 0) / d < 18446744073709551616 := by
      rw [Nat.div_lt_iff_lt_mul hd0]
      have : (r + 1) * 18446744073709551616 ≤ d * 18446744073709551616 := Nat.mul_le_mul_right _ h5
      rw [Nat.add_mul] at this
      rw [Nat.mul_comm 18446744073709551616]
      omega
    have hset : (ints (List.replicate (n + 1) 0 ++ Q)).set n (((r * 18446744073709551616 + xs.getD n 0) / d : Nat) : Int) = ints (List.replicate n 0 ++ ((r * 18446744073709551616 + xs.getD n 0) / d) :: Q) := by
      have : List.replicate (n + 1) 0 ++ Q = List.replicate n 0 ++ 0 :: Q := by rw [List.replicate_succ']; simp
      rw [this, ints_append, ints_append]
      have := set_split (ints (List.replicate n 0)) 0 (((r * 18446744073709551616 + xs.getD n 0) / d : Nat) : Int) (ints Q)
      rw [ints_length, List.length_replicate] at this
      exact this
    rw [hset] at b3
    have enext : IntKind.i64.wrap (((n + 1 : Nat) : Int) - 1 - 1) = ((n : Int) - 1) := by rw [hsub]; exact IntWalk.i64_in _ (by omega)
    refine ⟨rfl, (n, (r * 18446744073709551616 + xs.getD n 0) % d, ((r * 18446744073709551616 + xs.getD n 0) / d) :: Q), ⟨⟨congrArg (Value.int .i64) enext, rfl, trivial⟩, by show n ≤ l; omega, b3, by simp; omega, ?_, Nat.mod_lt _ hd0, ?_, ?_⟩, by show n < n + 1; omega⟩
    · intro x hx'
      rcases List.mem_cons.1 hx' with rfl | hx'
      · exact hq
      · exact h4 x hx'
    · show val (xs.drop n) = val (_ :: Q) * d + _
      rw [val_drop (by omega), h6]
      exact small_arith (Nat.div_add_mod (r * 18446744073709551616 + xs.getD n 0) d)
    · exact Chg.below (((Chg.of_below (s := fun _ => False) h7).thenB g2 h7.size).thenC c3 (Nat.le_trans h7.size g2.size) (fun k hk e => absurd e (by omega)))
  · have hm : m = 0 := by omega
    subst hm
    rw [List.replicate_zero, List.nil_append] at h2
    have hQ : Q.length = l := by omega
    refine CallP.intro (trim_spec (xs := Q) h2.row hQ.symm (Nat.le_refl _) hs) ?_
    rintro e w4 ⟨a', rfl, q1, q2, hw⟩
    have hw := hw.symm
    subst hw
    refine ⟨_, rfl, rfl, Q, r, a', _, rfl, q1, ?_, h4, hQ, h5, by rw [List.drop_zero] at h6; exact h6, h7, rfl⟩
    intro p hp
    obtain ⟨q, e1, e2⟩ := q2 p hp
    cases e1
    exact Nat.le_of_eq e2
end Go.Proofs.YthneejblcffdgaaGreatDoor
