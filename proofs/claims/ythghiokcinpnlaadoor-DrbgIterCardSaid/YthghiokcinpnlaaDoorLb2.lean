import Derived.Test.YthghiokcinpnlaaDoorLb1
namespace Go.Proofs.YthghiokcinpnlaaDoor
open Go Go.Ev Go.RowKit
set_option maxRecDepth 20000
set_option linter.unusedVariables false

theorem u64_of (n : Nat) (h : n < 18446744073709551616) : IntKind.u64.wrap (n : Int) = n := IntWalk.u64_in _ (by omega)
theorem lz64_spec (x : Nat) (hx : x < 18446744073709551616) (h0 : 0 < x) (w : World) : Calls Tryd.prog 36 #[.int .u64 x] w fun e w' => ∃ s : Nat, e = .returned (.int .i64 s) ∧ s < 64 ∧ 9223372036854775808 ≤ x * 2 ^ s ∧ x * 2 ^ s < 18446744073709551616 ∧ w' = w := by
  refine calls_of_ev tysOk extsOk Tryd.func36 rfl rfl rfl ?_
  refine CallP.intro (len64_spec x hx _) ?_
  rintro e w1 ⟨n, rfl, ⟨h1, h2⟩, rfl⟩
  refine ⟨_, rfl, rfl, 64 - n, ?_, ?_, ?_, ?_, rfl⟩
  · have hn : n ≤ 64 := by
      rcases Nat.lt_or_ge 64 n with h | h
      · rcases h2 with h2 | h2
        · omega
        · have : 2 ^ 64 ≤ 2 ^ (n - 1) := Nat.pow_le_pow_right (by decide) (by omega)
          omega
      · exact h
    show Ending.returned (Value.int .i64 (IntKind.i64.wrap (64 - (n : Int)))) = _
    rw [show (64 : Int) - n = ((64 - n : Nat) : Int) by omega, i64_of _ (by omega)]
  · rcases Nat.eq_zero_or_pos n with rfl | h
    · rw [Nat.pow_zero] at h1; omega
    · omega
  · have hn : n ≠ 0 := by rintro rfl; rw [Nat.pow_zero] at h1; omega
    have h3 : 2 ^ (n - 1) ≤ x := by rcases h2 with h2 | h2; exact absurd h2 hn; exact h2
    have hn : n ≤ 64 := by
      rcases Nat.lt_or_ge 64 n with h | h
      · have : 2 ^ 64 ≤ 2 ^ (n - 1) := Nat.pow_le_pow_right (by decide) (by omega)
        omega
      · exact h
    have : 2 ^ (n - 1) * 2 ^ (64 - n) ≤ x * 2 ^ (64 - n) := Nat.mul_le_mul_right _ h3
    rw [← Nat.pow_add, show n - 1 + (64 - n) = 63 by omega] at this
    exact this
  · have hn : n ≤ 64 := by
      rcases Nat.lt_or_ge 64 n with h | h
      · rcases h2 with h2 | h2
        · omega
        · have : 2 ^ 64 ≤ 2 ^ (n - 1) := Nat.pow_le_pow_right (by decide) (by omega)
          omega
      · exact h
    have : x * 2 ^ (64 - n) < 2 ^ n * 2 ^ (64 - n) := Nat.mul_lt_mul_of_pos_right h1 (Nat.two_pow_pos _)
    rw [← Nat.pow_add, show n + (64 - n) = 64 by omega] at this
    exact this

set_option maxRecDepth 1000000 in
set_option maxHeartbeats 2000000 in
theorem div64_spec (hi lo y : Nat) (hhi : hi < y) (hlo : lo < 18446744073709551616) (hy : y < 18446744073709551616) (w : World) :
    Calls Tryd.prog 49 #[.int .u64 hi, .int .u64 lo, .int .u64 y] w fun e w' => e = .returned (.tuple #[.int .u64 (((hi * 18446744073709551616 + lo) / y : Nat) : Int), .int .u64 (((hi * 18446744073709551616 + lo) % y : Nat) : Int)]) ∧ w'.heap = w.heap ∧ Below w.heap.size w w' := by
  refine calls_of_ev tysOk extsOk Tryd.func49 rfl rfl rfl ?_
  refine IfP.neg (by simp; omega) ?_
  refine IfP.dneg (by omega) ?_
  refine IfP.beq (fun h0 => ?_) (fun h0 => ?_)
  · have h0' : hi = 0 := by omega
    subst h0'
    refine DrawP.still tysOk extsOk mixed (by kernel_rfl) rfl ?_
    refine ChkP.go (by omega) ?_
    refine ChkP.go (by omega) ?_
    have e1 : IntKind.u64.wrap (Int.tdiv (lo : Int) (y : Int)) = (((0 * 18446744073709551616 + lo) / y : Nat) : Int) := by
      rw [Nat.zero_mul, Nat.zero_add, ← Int.ofNat_tdiv]; exact u64_of _ (Nat.lt_of_le_of_lt (Nat.div_le_self _ _) hlo)
    have e2 : Int.tmod (lo : Int) (y : Int) = (((0 * 18446744073709551616 + lo) % y : Nat) : Int) := by
      rw [Nat.zero_mul, Nat.zero_add, ← Int.ofNat_tmod]
    refine ⟨rfl, ?_, rfl, (Below.refl _ _).drew⟩
    show Ending.returned (.tuple #[.int .u64 (IntKind.u64.wrap (Int.tdiv (lo : Int) (y : Int))), .int .u64 (Int.tmod (lo : Int) (y : Int))]) = _
    rw [e1, e2]
  · refine CallP.intro (lz64_spec y hy (by omega) _) ?_
    rintro e w1 ⟨s, rfl, hs, hY1, hY2, hw⟩
    have hw := hw.symm
    subst hw
    refine ⟨_, rfl, ?_⟩
    refine ChkP.go (wrap_u64_nonneg _) ?_
    have eY : IntKind.u64.wrap ((y : Int) * 2 ^ (min (IntKind.u64.wrap (s : Int)).toNat IntKind.u64.bits)) = ((y * 2 ^ s : Nat) : Int) := by
      rw [u64_of s (by omega)]
      have e1 : min ((s : Int)).toNat IntKind.u64.bits = s := by show min s 64 = s; omega
      rw [e1, show ((y : Int) * 2 ^ s) = ((y * 2 ^ s : Nat) : Int) by simp, u64_of _ hY2]
    rw [eY]
    generalize hYdef : y * 2 ^ s = Y at *
    have hp : 0 < 2 ^ s := Nat.two_pow_pos s
    have eY1 : ((Y : Nat) : Int).fdiv (2 ^ (min (32 : Int).toNat IntKind.u64.bits)) = ((Y / 4294967296 : Nat) : Int) := fdiv_pow Y 32
    have eY0 : Go.bits .and .u64 ((Y : Nat) : Int) 4294967295 = ((Y % 4294967296 : Nat) : Int) := by rw [and_low32 _ (by omega) (by omega)]; omega
    refine ChkP.go (by decide) ?_
    rw [eY1]
    refine ChkP.go (wrap_u64_nonneg _) ?_
    rw [eY0]
    have hhs : hi * 2 ^ s < Y := by rw [← hYdef]; exact Nat.mul_lt_mul_of_pos_right hhi hp
    have es : min (IntKind.u64.wrap (s : Int)).toNat IntKind.u64.bits = s := by rw [u64_of s (by omega)]; show min s 64 = s; omega
    have eH : IntKind.u64.wrap ((hi : Int) * 2 ^ (min (IntKind.u64.wrap (s : Int)).toNat IntKind.u64.bits)) = ((hi * 2 ^ s : Nat) : Int) := by
      rw [es, show ((hi : Int) * 2 ^ s) = ((hi * 2 ^ s : Nat) : Int) by simp, u64_of _ (by omega)]
    rw [eH]
    refine ChkP.go (wrap_u64_nonneg _) ?_
    have eL : (lo : Int).fdiv (2 ^ (min (IntKind.u64.wrap (64 - IntKind.u64.wrap (s : Int))).toNat IntKind.u64.bits)) = ((lo / 2 ^ (64 - s) : Nat) : Int) := by
      rw [u64_of s (by omega), show (64 : Int) - (s : Int) = ((64 - s : Nat) : Int) by omega, u64_of _ (by omega)]
      have : min (((64 - s : Nat) : Int)).toNat IntKind.u64.bits = 64 - s := by show min (64 - s) 64 = 64 - s; omega
      rw [this]; exact fdiv_pow lo (64 - s)
    rw [eL]
    have h264 : 2 ^ (64 - s) * 2 ^ s = 18446744073709551616 := by rw [← Nat.pow_add, show 64 - s + s = 64 by omega]
    have hcl : lo / 2 ^ (64 - s) < 2 ^ s := by rw [Nat.div_lt_iff_lt_mul (Nat.two_pow_pos _), Nat.mul_comm, h264]; exact hlo
    generalize hU : hi * 2 ^ s + lo / 2 ^ (64 - s) = U
    have hUY : U < Y := by
      have : (hi + 1) * 2 ^ s ≤ Y := by rw [← hYdef]; exact Nat.mul_le_mul_right _ hhi
      rw [Nat.add_mul] at this
      omega
    have eU : Go.bits .or .u64 ((hi * 2 ^ s : Nat) : Int) ((lo / 2 ^ (64 - s) : Nat) : Int) = ((U : Nat) : Int) := by
      rw [bits_or_u64_nat _ _ (by omega) (by omega)]
      have := Nat.two_pow_add_eq_or_of_lt hcl hi
      rw [Nat.mul_comm] at this
      rw [← this, hU]
    refine ChkP.go (wrap_u64_nonneg _) ?_
    rw [eU]
    generalize hT : lo * 2 ^ s % 18446744073709551616 = T
    have hTlt : T < 18446744073709551616 := by rw [← hT]; exact Nat.mod_lt _ (by decide)
    have eT : IntKind.u64.wrap ((lo : Int) * 2 ^ (min (IntKind.u64.wrap (s : Int)).toNat IntKind.u64.bits)) = ((T : Nat) : Int) := by
      rw [es, show ((lo : Int) * 2 ^ s) = ((lo * 2 ^ s : Nat) : Int) by simp, IntKind.wrap_u64, ← hT]; rfl
    rw [eT]
    refine ChkP.go (by decide) ?_
    have eT1 : ((T : Nat) : Int).fdiv (2 ^ (min (32 : Int).toNat IntKind.u64.bits)) = ((T / 4294967296 : Nat) : Int) := fdiv_pow T 32
    have eT0 : Go.bits .and .u64 ((T : Nat) : Int) 4294967295 = ((T % 4294967296 : Nat) : Int) := by rw [and_low32 _ (by omega) (by omega)]; omega
    rw [eT1]
    generalize hy1 : Y / 4294967296 = y1 at *
    generalize hy0 : Y % 4294967296 = y0 at *
    generalize hd1 : T / 4294967296 = d1 at *
    generalize hd0 : T % 4294967296 = d0 at *
    have hYe : Y = y1 * 4294967296 + y0 := by omega
    have by1 : 2147483648 ≤ y1 := by omega
    have by1' : y1 < 4294967296 := by omega
    have by0 : y0 < 4294967296 := by omega
    have bd1 : d1 < 4294967296 := by omega
    have bd0 : d0 < 4294967296 := by omega
    refine ChkP.go (by omega) ?_
    rw [eT0]
    obtain ⟨Q1, hQ1⟩ : ∃ v, (U * 4294967296 + d1) / Y = v := ⟨_, rfl⟩
    obtain ⟨R, hR⟩ : ∃ v, (U * 4294967296 + d1) % Y = v := ⟨_, rfl⟩
    have hRY : R < Y := by rw [← hR]; exact Nat.mod_lt _ (by omega)
    have hdm : U * 4294967296 + d1 = Q1 * Y + R := by rw [← hQ1, ← hR, Nat.mul_comm (_ / Y)]; exact (Nat.div_add_mod _ _).symm
    have eR : IntKind.u64.wrap (IntKind.u64.wrap (IntKind.u64.wrap ((U : Int) * 4294967296) + (d1 : Int)) - IntKind.u64.wrap ((Q1 : Int) * (Y : Int))) = ((R : Nat) : Int) := by
      simp only [IntKind.wrap_u64]
      rw [show ((Q1 : Int) * (Y : Int)) = ((Q1 * Y : Nat) : Int) by simp]
      omega
    obtain ⟨Q0, hQ0⟩ : ∃ v, (R * 4294967296 + d0) / Y = v := ⟨_, rfl⟩
    have hQ1B : Q1 < 4294967296 := by rw [← hQ1, hYe]; exact Go.Ev.Div.quo_lt by1 (by rw [← hYe]; exact hUY) bd1
    have hQ0B : Q0 < 4294967296 := by rw [← hQ0, hYe]; exact Go.Ev.Div.quo_lt by1 (by rw [← hYe]; exact hRY) bd0
    have hdm0 : R * 4294967296 + d0 = Q0 * Y + (R * 4294967296 + d0) % Y := by rw [← hQ0, Nat.mul_comm (_ / Y)]; exact (Nat.div_add_mod _ _).symm
    have hY0 : 0 < Y := by omega
    obtain ⟨w1, w2⟩ := Go.Ev.Div.whole (B := 4294967296) (u := U) (d1 := d1) (d0 := d0) hY0
    rw [hQ1, hR, hQ0] at w1
    rw [hR] at w2
    have hN : (U * 4294967296 + d1) * 4294967296 + d0 = (hi * 18446744073709551616 + lo) * 2 ^ s := Go.Ev.Div.moved hp h264 hU hT rfl (by omega)
    rw [hN] at w1 w2
    rw [← hYdef, Nat.mul_div_mul_right _ _ hp] at w1
    have w2' : (R * 4294967296 + d0) % Y = (hi * 18446744073709551616 + lo) % y * 2 ^ s := by rw [w2, ← hYdef, Nat.mul_mod_mul_right]
    have eA : IntKind.u64.wrap (IntKind.u64.wrap ((Q1 : Int) * 4294967296) + (Q0 : Int)) = (((hi * 18446744073709551616 + lo) / y : Nat) : Int) := by
      rw [← w1]; simp only [IntKind.wrap_u64]; omega
    have eB : (IntKind.u64.wrap (IntKind.u64.wrap (IntKind.u64.wrap ((R : Int) * 4294967296) + (d0 : Int)) - IntKind.u64.wrap ((Q0 : Int) * (Y : Int)))).fdiv (2 ^ (min (IntKind.u64.wrap (s : Int)).toNat IntKind.u64.bits)) = (((hi * 18446744073709551616 + lo) % y : Nat) : Int) := by
      have hlt : (R * 4294967296 + d0) % Y < Y := Nat.mod_lt _ hY0
      have h1 : IntKind.u64.wrap (IntKind.u64.wrap (IntKind.u64.wrap ((R : Int) * 4294967296) + (d0 : Int)) - IntKind.u64.wrap ((Q0 : Int) * (Y : Int))) = (((R * 4294967296 + d0) % Y : Nat) : Int) := by
        obtain ⟨v, hv⟩ : ∃ v, (R * 4294967296 + d0) % Y = v := ⟨_, rfl⟩
        rw [hv] at hdm0 hlt ⊢
        simp only [IntKind.wrap_u64]
        rw [show ((Q0 : Int) * (Y : Int)) = ((Q0 * Y : Nat) : Int) by simp]
        omega
      rw [h1, es, fdiv_pow, w2', Nat.mul_div_cancel _ hp]
    have hres : Ending.returned (.tuple #[.int .u64 (IntKind.u64.wrap (IntKind.u64.wrap ((Q1 : Int) * 4294967296) + (Q0 : Int))), .int .u64 ((IntKind.u64.wrap (IntKind.u64.wrap (IntKind.u64.wrap ((R : Int) * 4294967296) + (d0 : Int)) - IntKind.u64.wrap ((Q0 : Int) * (Y : Int)))).fdiv (2 ^ (min (IntKind.u64.wrap (s : Int)).toNat IntKind.u64.bits)))]) =
        Ending.returned (.tuple #[.int .u64 (((hi * 18446744073709551616 + lo) / y : Nat) : Int), .int .u64 (((hi * 18446744073709551616 + lo) % y : Nat) : Int)]) := by rw [eA, eB]
    have e15 : IntKind.u64.wrap (Int.tdiv (U : Int) (y1 : Int)) = ((U / y1 : Nat) : Int) := by rw [← Int.ofNat_tdiv]; exact u64_of _ (Nat.lt_of_le_of_lt (Nat.div_le_self _ _) (by omega))
    have e16 : IntKind.u64.wrap ((U : Int) - IntKind.u64.wrap (IntKind.u64.wrap (Int.tdiv (U : Int) (y1 : Int)) * (y1 : Int))) = ((U % y1 : Nat) : Int) := by
      have h1 := Nat.div_add_mod U y1
      rw [e15, show (((U / y1 : Nat) : Int) * (y1 : Int)) = ((U / y1 * y1 : Nat) : Int) by simp, u64_of _ (Nat.lt_of_le_of_lt (Nat.div_mul_le_self _ _) (by omega))]
      rw [Nat.mul_comm] at h1
      rw [show ((U : Int) - ((U / y1 * y1 : Nat) : Int)) = ((U % y1 : Nat) : Int) by omega]
      exact u64_of _ (Nat.lt_of_le_of_lt (Nat.mod_le _ _) (by omega))
    have hJ0 := Go.Ev.Div.start (y1 := y1) (y0 := y0) (u := U) (d := d1) by1 by1' by0 (by rw [← hYe]; exact hUY) bd1
    refine LoopP.go (S := Nat × Nat) 77371104881383677504880640 (by kernel_rfl) (fun s => [(15, .int .u64 s.1), (16, .int .u64 s.2)]) (fun s W => Go.Ev.Div.J y1 y0 U d1 s.1 s.2 ∧ W = w) (fun s => s.1) (U / y1, U % y1)
      ⟨congrArg (Value.int .u64) e15, congrArg (Value.int .u64) e16, trivial⟩ ⟨hJ0, rfl⟩ ?_
    rintro ⟨q, r⟩ j W ⟨hJ, hW⟩
    have hW := hW.symm
    subst hW
    simp only at hJ
    have hsm := Go.Ev.Div.small by0 bd1 hJ
    have hJr := hJ.r
    have hJq := hJ.q
    simp only [Go.Ev.Div.B] at hsm hJr hJq
    have eq0 : IntKind.u64.wrap ((q : Int) * (y0 : Int)) = ((q * y0 : Nat) : Int) := by rw [show ((q : Int) * (y0 : Int)) = ((q * y0 : Nat) : Int) by simp]; exact u64_of _ hsm.1
    have er0 : IntKind.u64.wrap (IntKind.u64.wrap (4294967296 * (r : Int)) + (d1 : Int)) = ((4294967296 * r + d1 : Nat) : Int) := by
      rw [show (4294967296 * (r : Int)) = ((4294967296 * r : Nat) : Int) by simp, u64_of _ (by omega), show (((4294967296 * r : Nat) : Int) + (d1 : Int)) = ((4294967296 * r + d1 : Nat) : Int) by omega]; exact u64_of _ hsm.2
    have hgo : (4294967296 ≤ q ∨ 4294967296 * r + d1 < q * y0) → 1 ≤ q ∧ IntKind.u64.wrap ((q : Int) - 1) = ((q - 1 : Nat) : Int) ∧ IntKind.u64.wrap ((r : Int) + (y1 : Int)) = ((r + y1 : Nat) : Int) ∧ (r + y1 < 4294967296 → Go.Ev.Div.J y1 y0 U d1 (q - 1) (r + y1)) ∧ (4294967296 ≤ r + y1 → Q1 + 1 = q) := by
      intro hc
      obtain ⟨g1, g2, g3⟩ := Go.Ev.Div.step by1 by0 (by rw [← hYe]; exact hUY) bd1 hJ hc
      refine ⟨g1, ?_, ?_, g2, fun h => ?_⟩
      · rw [show ((q : Int) - 1) = ((q - 1 : Nat) : Int) by omega]; exact u64_of _ (by omega)
      · rw [show ((r : Int) + (y1 : Int)) = ((r + y1 : Nat) : Int) by omega]; exact u64_of _ (by omega)
      · have := g3 h; rw [← hYe, hQ1] at this; omega
    have hstop : q * y0 ≤ 4294967296 * r + d1 → Q1 = q := by
      intro hc
      have := Go.Ev.Div.stop by1 hJ hc; rw [← hYe, hQ1] at this; exact this.symm
    rcases Nat.lt_or_ge q 4294967296 with hqB | hqB
    · iterate 8 refine IfP.pos (by simp <;> omega) ?_
      refine IfP.neg (by simp <;> omega) ?_
      refine IfP.dec (fun hc => ?_) (fun hc => ?_)
      · rw [eq0, er0] at hc
        obtain ⟨g1, g2, g3, g4, g5⟩ := hgo (.inr (by omega))
        refine IfP.dec (fun hr => ?_) (fun hr => ?_)
        · rw [g3] at hr
          have hq := g5 (by omega)
          subst hq
          refine ChkP.go (by omega) ?_
          rw [show IntKind.u64.wrap (((Q1 + 1 : Nat) : Int) - 1) = ((Q1 : Nat) : Int) from g2]
          rw [eR]
          have e15 : IntKind.u64.wrap (Int.tdiv (R : Int) (y1 : Int)) = ((R / y1 : Nat) : Int) := by rw [← Int.ofNat_tdiv]; exact u64_of _ (Nat.lt_of_le_of_lt (Nat.div_le_self _ _) (by omega))
          have e16 : IntKind.u64.wrap ((R : Int) - IntKind.u64.wrap (IntKind.u64.wrap (Int.tdiv (R : Int) (y1 : Int)) * (y1 : Int))) = ((R % y1 : Nat) : Int) := by
            have h1 := Nat.div_add_mod R y1
            rw [e15, show (((R / y1 : Nat) : Int) * (y1 : Int)) = ((R / y1 * y1 : Nat) : Int) by simp, u64_of _ (Nat.lt_of_le_of_lt (Nat.div_mul_le_self _ _) (by omega))]
            rw [Nat.mul_comm] at h1
            rw [show ((R : Int) - ((R / y1 * y1 : Nat) : Int)) = ((R % y1 : Nat) : Int) by omega]
            exact u64_of _ (Nat.lt_of_le_of_lt (Nat.mod_le _ _) (by omega))
          have hJ0 := Go.Ev.Div.start (y1 := y1) (y0 := y0) (u := R) (d := d0) by1 by1' by0 (by rw [← hYe]; exact hRY) bd0
          refine LoopP.go (S := Nat × Nat) 2658450920967430832890008133748195328 (by kernel_rfl) (fun s => [(18, .int .u64 s.1), (16, .int .u64 s.2)]) (fun s W => Go.Ev.Div.J y1 y0 R d0 s.1 s.2 ∧ W = w) (fun s => s.1) (R / y1, R % y1)
            ⟨congrArg (Value.int .u64) e15, congrArg (Value.int .u64) e16, trivial⟩ ⟨hJ0, rfl⟩ ?_
          rintro ⟨q, r⟩ j W ⟨hJ, hW⟩
          have hW := hW.symm
          subst hW
          simp only at hJ
          have hsm := Go.Ev.Div.small by0 bd0 hJ
          have hJr := hJ.r
          have hJq := hJ.q
          simp only [Go.Ev.Div.B] at hsm hJr hJq
          have eq0 : IntKind.u64.wrap ((q : Int) * (y0 : Int)) = ((q * y0 : Nat) : Int) := by rw [show ((q : Int) * (y0 : Int)) = ((q * y0 : Nat) : Int) by simp]; exact u64_of _ hsm.1
          have er0 : IntKind.u64.wrap (IntKind.u64.wrap (4294967296 * (r : Int)) + (d0 : Int)) = ((4294967296 * r + d0 : Nat) : Int) := by
            rw [show (4294967296 * (r : Int)) = ((4294967296 * r : Nat) : Int) by simp, u64_of _ (by omega), show (((4294967296 * r : Nat) : Int) + (d0 : Int)) = ((4294967296 * r + d0 : Nat) : Int) by omega]; exact u64_of _ hsm.2
          have hgo : (4294967296 ≤ q ∨ 4294967296 * r + d0 < q * y0) → 1 ≤ q ∧ IntKind.u64.wrap ((q : Int) - 1) = ((q - 1 : Nat) : Int) ∧ IntKind.u64.wrap ((r : Int) + (y1 : Int)) = ((r + y1 : Nat) : Int) ∧ (r + y1 < 4294967296 → Go.Ev.Div.J y1 y0 R d0 (q - 1) (r + y1)) ∧ (4294967296 ≤ r + y1 → Q0 + 1 = q) := by
            intro hc
            obtain ⟨g1, g2, g3⟩ := Go.Ev.Div.step by1 by0 (by rw [← hYe]; exact hRY) bd0 hJ hc
            refine ⟨g1, ?_, ?_, g2, fun h => ?_⟩
            · rw [show ((q : Int) - 1) = ((q - 1 : Nat) : Int) by omega]; exact u64_of _ (by omega)
            · rw [show ((r : Int) + (y1 : Int)) = ((r + y1 : Nat) : Int) by omega]; exact u64_of _ (by omega)
            · have := g3 h; rw [← hYe, hQ0] at this; omega
          have hstop : q * y0 ≤ 4294967296 * r + d0 → Q0 = q := by
            intro hc
            have := Go.Ev.Div.stop by1 hJ hc; rw [← hYe, hQ0] at this; exact this.symm
          rcases Nat.lt_or_ge q 4294967296 with hqB | hqB
          · iterate 8 refine IfP.pos (by simp <;> omega) ?_
            refine IfP.neg (by simp <;> omega) ?_
            refine IfP.dec (fun hc => ?_) (fun hc => ?_)
            · rw [eq0, er0] at hc
              obtain ⟨g1, g2, g3, g4, g5⟩ := hgo (.inr (by omega))
              refine IfP.dec (fun hr => ?_) (fun hr => ?_)
              · rw [g3] at hr
                have hq := g5 (by omega)
                subst hq
                refine ChkP.go (wrap_u64_nonneg _) ?_
                rw [show IntKind.u64.wrap (((Q0 + 1 : Nat) : Int) - 1) = ((Q0 : Nat) : Int) from g2]
                exact ⟨rfl, hres, rfl, Below.refl _ _⟩
              · rw [g3] at hr
                exact ⟨rfl, (q - 1, r + y1), ⟨⟨congrArg (Value.int .u64) g2, congrArg (Value.int .u64) g3, trivial⟩, g4 (by omega), rfl⟩, by show q - 1 < q; omega⟩
            · rw [eq0, er0] at hc
              have hq := hstop (by omega)
              subst hq
              refine ChkP.go (wrap_u64_nonneg _) ?_
              exact ⟨rfl, hres, rfl, Below.refl _ _⟩
          · iterate 8 refine IfP.neg (by simp <;> omega) ?_
            refine IfP.pos (by simp <;> omega) ?_
            refine IfP.yes ?_
            obtain ⟨g1, g2, g3, g4, g5⟩ := hgo (.inl hqB)
            refine IfP.dec (fun hr => ?_) (fun hr => ?_)
            · rw [g3] at hr
              have hq := g5 (by omega)
              subst hq
              refine ChkP.go (wrap_u64_nonneg _) ?_
              rw [show IntKind.u64.wrap (((Q0 + 1 : Nat) : Int) - 1) = ((Q0 : Nat) : Int) from g2]
              exact ⟨rfl, hres, rfl, Below.refl _ _⟩
            · rw [g3] at hr
              exact ⟨rfl, (q - 1, r + y1), ⟨⟨congrArg (Value.int .u64) g2, congrArg (Value.int .u64) g3, trivial⟩, g4 (by omega), rfl⟩, by show q - 1 < q; omega⟩
        · rw [g3] at hr
          exact ⟨rfl, (q - 1, r + y1), ⟨⟨congrArg (Value.int .u64) g2, congrArg (Value.int .u64) g3, trivial⟩, g4 (by omega), rfl⟩, by show q - 1 < q; omega⟩
      · rw [eq0, er0] at hc
        have hq := hstop (by omega)
        subst hq
        refine ChkP.go (by omega) ?_
        rw [eR]
        have e15 : IntKind.u64.wrap (Int.tdiv (R : Int) (y1 : Int)) = ((R / y1 : Nat) : Int) := by rw [← Int.ofNat_tdiv]; exact u64_of _ (Nat.lt_of_le_of_lt (Nat.div_le_self _ _) (by omega))
        have e16 : IntKind.u64.wrap ((R : Int) - IntKind.u64.wrap (IntKind.u64.wrap (Int.tdiv (R : Int) (y1 : Int)) * (y1 : Int))) = ((R % y1 : Nat) : Int) := by
          have h1 := Nat.div_add_mod R y1
          rw [e15, show (((R / y1 : Nat) : Int) * (y1 : Int)) = ((R / y1 * y1 : Nat) : Int) by simp, u64_of _ (Nat.lt_of_le_of_lt (Nat.div_mul_le_self _ _) (by omega))]
          rw [Nat.mul_comm] at h1
          rw [show ((R : Int) - ((R / y1 * y1 : Nat) : Int)) = ((R % y1 : Nat) : Int) by omega]
          exact u64_of _ (Nat.lt_of_le_of_lt (Nat.mod_le _ _) (by omega))
        have hJ0 := Go.Ev.Div.start (y1 := y1) (y0 := y0) (u := R) (d := d0) by1 by1' by0 (by rw [← hYe]; exact hRY) bd0
        refine LoopP.go (S := Nat × Nat) 2658450920967430832890008133748195328 (by kernel_rfl) (fun s => [(18, .int .u64 s.1), (16, .int .u64 s.2)]) (fun s W => Go.Ev.Div.J y1 y0 R d0 s.1 s.2 ∧ W = w) (fun s => s.1) (R / y1, R % y1)
          ⟨congrArg (Value.int .u64) e15, congrArg (Value.int .u64) e16, trivial⟩ ⟨hJ0, rfl⟩ ?_
        rintro ⟨q, r⟩ j W ⟨hJ, hW⟩
        have hW := hW.symm
        subst hW
        simp only at hJ
        have hsm := Go.Ev.Div.small by0 bd0 hJ
        have hJr := hJ.r
        have hJq := hJ.q
        simp only [Go.Ev.Div.B] at hsm hJr hJq
        have eq0 : IntKind.u64.wrap ((q : Int) * (y0 : Int)) = ((q * y0 : Nat) : Int) := by rw [show ((q : Int) * (y0 : Int)) = ((q * y0 : Nat) : Int) by simp]; exact u64_of _ hsm.1
        have er0 : IntKind.u64.wrap (IntKind.u64.wrap (4294967296 * (r : Int)) + (d0 : Int)) = ((4294967296 * r + d0 : Nat) : Int) := by
          rw [show (4294967296 * (r : Int)) = ((4294967296 * r : Nat) : Int) by simp, u64_of _ (by omega), show (((4294967296 * r : Nat) : Int) + (d0 : Int)) = ((4294967296 * r + d0 : Nat) : Int) by omega]; exact u64_of _ hsm.2
        have hgo : (4294967296 ≤ q ∨ 4294967296 * r + d0 < q * y0) → 1 ≤ q ∧ IntKind.u64.wrap ((q : Int) - 1) = ((q - 1 : Nat) : Int) ∧ IntKind.u64.wrap ((r : Int) + (y1 : Int)) = ((r + y1 : Nat) : Int) ∧ (r + y1 < 4294967296 → Go.Ev.Div.J y1 y0 R d0 (q - 1) (r + y1)) ∧ (4294967296 ≤ r + y1 → Q0 + 1 = q) := by
          intro hc
          obtain ⟨g1, g2, g3⟩ := Go.Ev.Div.step by1 by0 (by rw [← hYe]; exact hRY) bd0 hJ hc
          refine ⟨g1, ?_, ?_, g2, fun h => ?_⟩
          · rw [show ((q : Int) - 1) = ((q - 1 : Nat) : Int) by omega]; exact u64_of _ (by omega)
          · rw [show ((r : Int) + (y1 : Int)) = ((r + y1 : Nat) : Int) by omega]; exact u64_of _ (by omega)
          · have := g3 h; rw [← hYe, hQ0] at this; omega
        have hstop : q * y0 ≤ 4294967296 * r + d0 → Q0 = q := by
          intro hc
          have := Go.Ev.Div.stop by1 hJ hc; rw [← hYe, hQ0] at this; exact this.symm
        rcases Nat.lt_or_ge q 4294967296 with hqB | hqB
        · iterate 8 refine IfP.pos (by simp <;> omega) ?_
          refine IfP.neg (by simp <;> omega) ?_
          refine IfP.dec (fun hc => ?_) (fun hc => ?_)
          · rw [eq0, er0] at hc
            obtain ⟨g1, g2, g3, g4, g5⟩ := hgo (.inr (by omega))
            refine IfP.dec (fun hr => ?_) (fun hr => ?_)
            · rw [g3] at hr
              have hq := g5 (by omega)
              subst hq
              refine ChkP.go (wrap_u64_nonneg _) ?_
              rw [show IntKind.u64.wrap (((Q0 + 1 : Nat) : Int) - 1) = ((Q0 : Nat) : Int) from g2]
              exact ⟨rfl, hres, rfl, Below.refl _ _⟩
            · rw [g3] at hr
              exact ⟨rfl, (q - 1, r + y1), ⟨⟨congrArg (Value.int .u64) g2, congrArg (Value.int .u64) g3, trivial⟩, g4 (by omega), rfl⟩, by show q - 1 < q; omega⟩
          · rw [eq0, er0] at hc
            have hq := hstop (by omega)
            subst hq
            refine ChkP.go (wrap_u64_nonneg _) ?_
            exact ⟨rfl, hres, rfl, Below.refl _ _⟩
        · iterate 8 refine IfP.neg (by simp <;> omega) ?_
          refine IfP.pos (by simp <;> omega) ?_
          refine IfP.yes ?_
          obtain ⟨g1, g2, g3, g4, g5⟩ := hgo (.inl hqB)
          refine IfP.dec (fun hr => ?_) (fun hr => ?_)
          · rw [g3] at hr
            have hq := g5 (by omega)
            subst hq
            refine ChkP.go (wrap_u64_nonneg _) ?_
            rw [show IntKind.u64.wrap (((Q0 + 1 : Nat) : Int) - 1) = ((Q0 : Nat) : Int) from g2]
            exact ⟨rfl, hres, rfl, Below.refl _ _⟩
          · rw [g3] at hr
            exact ⟨rfl, (q - 1, r + y1), ⟨⟨congrArg (Value.int .u64) g2, congrArg (Value.int .u64) g3, trivial⟩, g4 (by omega), rfl⟩, by show q - 1 < q; omega⟩
    · iterate 8 refine IfP.neg (by simp <;> omega) ?_
      refine IfP.pos (by simp <;> omega) ?_
      refine IfP.yes ?_
      obtain ⟨g1, g2, g3, g4, g5⟩ := hgo (.inl hqB)
      refine IfP.dec (fun hr => ?_) (fun hr => ?_)
      · rw [g3] at hr
        have hq := g5 (by omega)
        subst hq
        refine ChkP.go (by omega) ?_
        rw [show IntKind.u64.wrap (((Q1 + 1 : Nat) : Int) - 1) = ((Q1 : Nat) : Int) from g2]
        rw [eR]
        have e15 : IntKind.u64.wrap (Int.tdiv (R : Int) (y1 : Int)) = ((R / y1 : Nat) : Int) := by rw [← Int.ofNat_tdiv]; exact u64_of _ (Nat.lt_of_le_of_lt (Nat.div_le_self _ _) (by omega))
        have e16 : IntKind.u64.wrap ((R : Int) - IntKind.u64.wrap (IntKind.u64.wrap (Int.tdiv (R : Int) (y1 : Int)) * (y1 : Int))) = ((R % y1 : Nat) : Int) := by
          have h1 := Nat.div_add_mod R y1
          rw [e15, show (((R / y1 : Nat) : Int) * (y1 : Int)) = ((R / y1 * y1 : Nat) : Int) by simp, u64_of _ (Nat.lt_of_le_of_lt (Nat.div_mul_le_self _ _) (by omega))]
          rw [Nat.mul_comm] at h1
          rw [show ((R : Int) - ((R / y1 * y1 : Nat) : Int)) = ((R % y1 : Nat) : Int) by omega]
          exact u64_of _ (Nat.lt_of_le_of_lt (Nat.mod_le _ _) (by omega))
        have hJ0 := Go.Ev.Div.start (y1 := y1) (y0 := y0) (u := R) (d := d0) by1 by1' by0 (by rw [← hYe]; exact hRY) bd0
        refine LoopP.go (S := Nat × Nat) 2658450920967430832890008133748195328 (by kernel_rfl) (fun s => [(18, .int .u64 s.1), (16, .int .u64 s.2)]) (fun s W => Go.Ev.Div.J y1 y0 R d0 s.1 s.2 ∧ W = w) (fun s => s.1) (R / y1, R % y1)
          ⟨congrArg (Value.int .u64) e15, congrArg (Value.int .u64) e16, trivial⟩ ⟨hJ0, rfl⟩ ?_
        rintro ⟨q, r⟩ j W ⟨hJ, hW⟩
        have hW := hW.symm
        subst hW
        simp only at hJ
        have hsm := Go.Ev.Div.small by0 bd0 hJ
        have hJr := hJ.r
        have hJq := hJ.q
        simp only [Go.Ev.Div.B] at hsm hJr hJq
        have eq0 : IntKind.u64.wrap ((q : Int) * (y0 : Int)) = ((q * y0 : Nat) : Int) := by rw [show ((q : Int) * (y0 : Int)) = ((q * y0 : Nat) : Int) by simp]; exact u64_of _ hsm.1
        have er0 : IntKind.u64.wrap (IntKind.u64.wrap (4294967296 * (r : Int)) + (d0 : Int)) = ((4294967296 * r + d0 : Nat) : Int) := by
          rw [show (4294967296 * (r : Int)) = ((4294967296 * r : Nat) : Int) by simp, u64_of _ (by omega), show (((4294967296 * r : Nat) : Int) + (d0 : Int)) = ((4294967296 * r + d0 : Nat) : Int) by omega]; exact u64_of _ hsm.2
        have hgo : (4294967296 ≤ q ∨ 4294967296 * r + d0 < q * y0) → 1 ≤ q ∧ IntKind.u64.wrap ((q : Int) - 1) = ((q - 1 : Nat) : Int) ∧ IntKind.u64.wrap ((r : Int) + (y1 : Int)) = ((r + y1 : Nat) : Int) ∧ (r + y1 < 4294967296 → Go.Ev.Div.J y1 y0 R d0 (q - 1) (r + y1)) ∧ (4294967296 ≤ r + y1 → Q0 + 1 = q) := by
          intro hc
          obtain ⟨g1, g2, g3⟩ := Go.Ev.Div.step by1 by0 (by rw [← hYe]; exact hRY) bd0 hJ hc
          refine ⟨g1, ?_, ?_, g2, fun h => ?_⟩
          · rw [show ((q : Int) - 1) = ((q - 1 : Nat) : Int) by omega]; exact u64_of _ (by omega)
          · rw [show ((r : Int) + (y1 : Int)) = ((r + y1 : Nat) : Int) by omega]; exact u64_of _ (by omega)
          · have := g3 h; rw [← hYe, hQ0] at this; omega
        have hstop : q * y0 ≤ 4294967296 * r + d0 → Q0 = q := by
          intro hc
          have := Go.Ev.Div.stop by1 hJ hc; rw [← hYe, hQ0] at this; exact this.symm
        rcases Nat.lt_or_ge q 4294967296 with hqB | hqB
        · iterate 8 refine IfP.pos (by simp <;> omega) ?_
          refine IfP.neg (by simp <;> omega) ?_
          refine IfP.dec (fun hc => ?_) (fun hc => ?_)
          · rw [eq0, er0] at hc
            obtain ⟨g1, g2, g3, g4, g5⟩ := hgo (.inr (by omega))
            refine IfP.dec (fun hr => ?_) (fun hr => ?_)
            · rw [g3] at hr
              have hq := g5 (by omega)
              subst hq
              refine ChkP.go (wrap_u64_nonneg _) ?_
              rw [show IntKind.u64.wrap (((Q0 + 1 : Nat) : Int) - 1) = ((Q0 : Nat) : Int) from g2]
              exact ⟨rfl, hres, rfl, Below.refl _ _⟩
            · rw [g3] at hr
              exact ⟨rfl, (q - 1, r + y1), ⟨⟨congrArg (Value.int .u64) g2, congrArg (Value.int .u64) g3, trivial⟩, g4 (by omega), rfl⟩, by show q - 1 < q; omega⟩
          · rw [eq0, er0] at hc
            have hq := hstop (by omega)
            subst hq
            refine ChkP.go (wrap_u64_nonneg _) ?_
            exact ⟨rfl, hres, rfl, Below.refl _ _⟩
        · iterate 8 refine IfP.neg (by simp <;> omega) ?_
          refine IfP.pos (by simp <;> omega) ?_
          refine IfP.yes ?_
          obtain ⟨g1, g2, g3, g4, g5⟩ := hgo (.inl hqB)
          refine IfP.dec (fun hr => ?_) (fun hr => ?_)
          · rw [g3] at hr
            have hq := g5 (by omega)
            subst hq
            refine ChkP.go (wrap_u64_nonneg _) ?_
            rw [show IntKind.u64.wrap (((Q0 + 1 : Nat) : Int) - 1) = ((Q0 : Nat) : Int) from g2]
            exact ⟨rfl, hres, rfl, Below.refl _ _⟩
          · rw [g3] at hr
            exact ⟨rfl, (q - 1, r + y1), ⟨⟨congrArg (Value.int .u64) g2, congrArg (Value.int .u64) g3, trivial⟩, g4 (by omega), rfl⟩, by show q - 1 < q; omega⟩
      · rw [g3] at hr
        exact ⟨rfl, (q - 1, r + y1), ⟨⟨congrArg (Value.int .u64) g2, congrArg (Value.int .u64) g3, trivial⟩, g4 (by omega), rfl⟩, by show q - 1 < q; omega⟩
end Go.Proofs.YthghiokcinpnlaaDoor
