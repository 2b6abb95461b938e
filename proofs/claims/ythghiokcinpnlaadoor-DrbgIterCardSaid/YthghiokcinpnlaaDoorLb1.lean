import Derived.Test.YthghiokcinpnlaaDoorDr4
import Derived.Test.YthghiokcinpnlaaDoorEvDiv
import Derived.Laws.BitsAllLaws
import Derived.Laws.Bits64b
namespace Go.Proofs.YthghiokcinpnlaaDoor
open Go Go.Ev Go.RowKit
set_option maxRecDepth 20000
set_option linter.unusedVariables false

/-! ### bits of words -/
def LenOk (x n : Nat) : Prop := x < 2 ^ n ∧ (n = 0 ∨ 2 ^ (n - 1) ≤ x)
theorem LenOk.up {x n k : Nat} (h : LenOk (x / 2 ^ k) n) (hx : 2 ^ k ≤ x) : LenOk x (k + n) := by
  obtain ⟨h1, h2⟩ := h
  have hp : 0 < 2 ^ k := Nat.two_pow_pos k
  refine ⟨?_, .inr ?_⟩
  · rw [Nat.pow_add]
    have := (Nat.div_lt_iff_lt_mul hp).1 h1
    rwa [Nat.mul_comm] at this
  · have h1' : 1 ≤ x / 2 ^ k := (Nat.le_div_iff_mul_le hp).2 (by omega)
    have hn : n ≠ 0 := by rintro rfl; rw [Nat.pow_zero] at h1; omega
    have h3 : 2 ^ (n - 1) ≤ x / 2 ^ k := by rcases h2 with h2 | h2; exact absurd h2 hn; exact h2
    have := (Nat.le_div_iff_mul_le hp).1 h3
    rw [← Nat.pow_add] at this
    rwa [show k + n - 1 = n - 1 + k by omega]
def chkLen (s : ByteArray) : Bool := (List.range 256).all fun z => match s[z]? with
  | some b => Nat.blt z (2 ^ b.toNat) && (Nat.beq b.toNat 0 || Nat.ble (2 ^ (b.toNat - 1)) z)
  | none => false
theorem StrP.len {s : ByteArray} {i : Int} {k : Int → Prop} (hs : chkLen s = true) (z : Nat) (hi : i = z) (hz : z < 256) (hk : ∀ n : Nat, LenOk z n → n ≤ 255 → k n) : StrP s i k := by
  subst hi
  unfold chkLen at hs
  rw [List.all_eq_true] at hs
  have := hs z (by simpa using hz)
  cases hb : s[z]? with
  | none => rw [hb] at this; cases this
  | some b =>
    rw [hb] at this
    simp only [Bool.and_eq_true, Bool.or_eq_true] at this
    refine ⟨⟨by omega, b, by simpa using hb, hk b.toNat ⟨by simpa [Nat.blt_eq] using this.1, ?_⟩ (by have := b.toNat_lt; omega)⟩⟩
    rcases this.2 with h | h
    · exact .inl (Nat.eq_of_beq_eq_true h)
    · exact .inr (by simpa [Nat.ble_eq] using h)
theorem fdiv_pow (x s : Nat) : (x : Int).fdiv (2 ^ s) = ((x / 2 ^ s : Nat) : Int) := by
  rw [show ((2 : Int) ^ s) = ((2 ^ s : Nat) : Int) by simp, Int.fdiv_eq_ediv_of_nonneg _ (Int.natCast_nonneg _)]
  exact Int.ofNat_ediv_ofNat

set_option maxHeartbeats 1000000 in
theorem len64_spec (x : Nat) (hx : x < 18446744073709551616) (w : World) : Calls Tryd.prog 31 #[.int .u64 x] w fun e w' => ∃ n : Nat, e = .returned (.int .i64 n) ∧ LenOk x n ∧ w' = w := by
  refine calls_of_ev tysOk extsOk Tryd.func31 rfl rfl rfl ?_
  refine IfP.dec (fun h0 => ?_) (fun h0 => ?_)
  · refine ChkP.go (by decide) ?_
    have hz1 : ((x : Int)).fdiv (2 ^ (min (32 : Int).toNat IntKind.u64.bits)) = ((x / 2 ^ 32 : Nat) : Int) := by exact fdiv_pow (x) 32
    have hb0 : x / 2 ^ 32 < 2 ^ 32 := (Nat.div_lt_iff_lt_mul (by decide)).2 (by omega)
    have hu0 : ∀ n, LenOk (x / 2 ^ 32) n → LenOk (x) (32 + n) := fun n hn => hn.up (by omega)
    refine IfP.dec (fun h1 => ?_) (fun h1 => ?_)
    · refine ChkP.go (by decide) ?_
      rw [hz1] at h1
      have hz2 : (((x : Int)).fdiv (2 ^ (min (32 : Int).toNat IntKind.u64.bits))).fdiv (2 ^ (min (16 : Int).toNat IntKind.u64.bits)) = (((x / 2 ^ 32) / 2 ^ 16 : Nat) : Int) := by rw [hz1]; exact fdiv_pow (x / 2 ^ 32) 16
      have hb1 : (x / 2 ^ 32) / 2 ^ 16 < 2 ^ 16 := (Nat.div_lt_iff_lt_mul (by decide)).2 (by omega)
      have hu1 : ∀ n, LenOk ((x / 2 ^ 32) / 2 ^ 16) n → LenOk (x / 2 ^ 32) (16 + n) := fun n hn => hn.up (by omega)
      refine IfP.dec (fun h2 => ?_) (fun h2 => ?_)
      · refine ChkP.go (by decide) ?_
        rw [hz2] at h2
        have hz3 : ((((x : Int)).fdiv (2 ^ (min (32 : Int).toNat IntKind.u64.bits))).fdiv (2 ^ (min (16 : Int).toNat IntKind.u64.bits))).fdiv (2 ^ (min (8 : Int).toNat IntKind.u64.bits)) = ((((x / 2 ^ 32) / 2 ^ 16) / 2 ^ 8 : Nat) : Int) := by rw [hz2]; exact fdiv_pow ((x / 2 ^ 32) / 2 ^ 16) 8
        have hb2 : ((x / 2 ^ 32) / 2 ^ 16) / 2 ^ 8 < 2 ^ 8 := (Nat.div_lt_iff_lt_mul (by decide)).2 (by omega)
        have hu2 : ∀ n, LenOk (((x / 2 ^ 32) / 2 ^ 16) / 2 ^ 8) n → LenOk ((x / 2 ^ 32) / 2 ^ 16) (8 + n) := fun n hn => hn.up (by omega)
        refine StrP.len (by kernel_rfl) (((x / 2 ^ 32) / 2 ^ 16) / 2 ^ 8) (by rw [hz3]; exact IntWalk.u8_in _ (by omega)) (by omega) (fun n hn hn2 => ?_)
        have hv : IntKind.i64.wrap (IntKind.i64.wrap (IntKind.i64.wrap (32 + 16) + 8) + IntKind.i64.wrap (n : Int)) = ((56 + n : Nat) : Int) := by
          rw [i64_of n (by omega), show (IntKind.i64.wrap (IntKind.i64.wrap (32 + 16) + 8) : Int) = 56 by decide, show ((56 : Int) + (n : Int)) = ((56 + n : Nat) : Int) by omega]; exact i64_of _ (by omega)
        refine ⟨rfl, 56 + n, congrArg (fun v => Ending.returned (Value.int .i64 v)) hv, ?_, rfl⟩
        have hx := (hu0 _ (hu1 _ (hu2 _ hn)))
        exact (congrArg (LenOk x) (by omega)).mp hx
      · have hb2 : (x / 2 ^ 32) / 2 ^ 16 < 2 ^ 8 := by rw [hz2] at h2; omega
        refine StrP.len (by kernel_rfl) ((x / 2 ^ 32) / 2 ^ 16) (by rw [hz2]; exact IntWalk.u8_in _ (by omega)) (by omega) (fun n hn hn2 => ?_)
        have hv : IntKind.i64.wrap (IntKind.i64.wrap (32 + 16) + IntKind.i64.wrap (n : Int)) = ((48 + n : Nat) : Int) := by
          rw [i64_of n (by omega), show (IntKind.i64.wrap (32 + 16) : Int) = 48 by decide, show ((48 : Int) + (n : Int)) = ((48 + n : Nat) : Int) by omega]; exact i64_of _ (by omega)
        refine ⟨rfl, 48 + n, congrArg (fun v => Ending.returned (Value.int .i64 v)) hv, ?_, rfl⟩
        have hx := (hu0 _ (hu1 _ hn))
        exact (congrArg (LenOk x) (by omega)).mp hx
    · have hb1 : x / 2 ^ 32 < 2 ^ 16 := by rw [hz1] at h1; omega
      refine IfP.dec (fun h2 => ?_) (fun h2 => ?_)
      · refine ChkP.go (by decide) ?_
        rw [hz1] at h2
        have hz2 : (((x : Int)).fdiv (2 ^ (min (32 : Int).toNat IntKind.u64.bits))).fdiv (2 ^ (min (8 : Int).toNat IntKind.u64.bits)) = (((x / 2 ^ 32) / 2 ^ 8 : Nat) : Int) := by rw [hz1]; exact fdiv_pow (x / 2 ^ 32) 8
        have hb2 : (x / 2 ^ 32) / 2 ^ 8 < 2 ^ 8 := (Nat.div_lt_iff_lt_mul (by decide)).2 (by omega)
        have hu2 : ∀ n, LenOk ((x / 2 ^ 32) / 2 ^ 8) n → LenOk (x / 2 ^ 32) (8 + n) := fun n hn => hn.up (by omega)
        refine StrP.len (by kernel_rfl) ((x / 2 ^ 32) / 2 ^ 8) (by rw [hz2]; exact IntWalk.u8_in _ (by omega)) (by omega) (fun n hn hn2 => ?_)
        have hv : IntKind.i64.wrap (IntKind.i64.wrap (32 + 8) + IntKind.i64.wrap (n : Int)) = ((40 + n : Nat) : Int) := by
          rw [i64_of n (by omega), show (IntKind.i64.wrap (32 + 8) : Int) = 40 by decide, show ((40 : Int) + (n : Int)) = ((40 + n : Nat) : Int) by omega]; exact i64_of _ (by omega)
        refine ⟨rfl, 40 + n, congrArg (fun v => Ending.returned (Value.int .i64 v)) hv, ?_, rfl⟩
        have hx := (hu0 _ (hu2 _ hn))
        exact (congrArg (LenOk x) (by omega)).mp hx
      · have hb2 : x / 2 ^ 32 < 2 ^ 8 := by rw [hz1] at h2; omega
        refine StrP.len (by kernel_rfl) (x / 2 ^ 32) (by rw [hz1]; exact IntWalk.u8_in _ (by omega)) (by omega) (fun n hn hn2 => ?_)
        have hv : IntKind.i64.wrap (32 + IntKind.i64.wrap (n : Int)) = ((32 + n : Nat) : Int) := by
          rw [i64_of n (by omega), show (32 : Int) = 32 by decide, show ((32 : Int) + (n : Int)) = ((32 + n : Nat) : Int) by omega]; exact i64_of _ (by omega)
        refine ⟨rfl, 32 + n, congrArg (fun v => Ending.returned (Value.int .i64 v)) hv, ?_, rfl⟩
        have hx := (hu0 _ hn)
        exact (congrArg (LenOk x) (by omega)).mp hx
  · have hb0 : x < 2 ^ 32 := by omega
    refine IfP.dec (fun h1 => ?_) (fun h1 => ?_)
    · refine ChkP.go (by decide) ?_
      have hz1 : ((x : Int)).fdiv (2 ^ (min (16 : Int).toNat IntKind.u64.bits)) = ((x / 2 ^ 16 : Nat) : Int) := by exact fdiv_pow (x) 16
      have hb1 : x / 2 ^ 16 < 2 ^ 16 := (Nat.div_lt_iff_lt_mul (by decide)).2 (by omega)
      have hu1 : ∀ n, LenOk (x / 2 ^ 16) n → LenOk (x) (16 + n) := fun n hn => hn.up (by omega)
      refine IfP.dec (fun h2 => ?_) (fun h2 => ?_)
      · refine ChkP.go (by decide) ?_
        rw [hz1] at h2
        have hz2 : (((x : Int)).fdiv (2 ^ (min (16 : Int).toNat IntKind.u64.bits))).fdiv (2 ^ (min (8 : Int).toNat IntKind.u64.bits)) = (((x / 2 ^ 16) / 2 ^ 8 : Nat) : Int) := by rw [hz1]; exact fdiv_pow (x / 2 ^ 16) 8
        have hb2 : (x / 2 ^ 16) / 2 ^ 8 < 2 ^ 8 := (Nat.div_lt_iff_lt_mul (by decide)).2 (by omega)
        have hu2 : ∀ n, LenOk ((x / 2 ^ 16) / 2 ^ 8) n → LenOk (x / 2 ^ 16) (8 + n) := fun n hn => hn.up (by omega)
        refine StrP.len (by kernel_rfl) ((x / 2 ^ 16) / 2 ^ 8) (by rw [hz2]; exact IntWalk.u8_in _ (by omega)) (by omega) (fun n hn hn2 => ?_)
        have hv : IntKind.i64.wrap (IntKind.i64.wrap (IntKind.i64.wrap (0 + 16) + 8) + IntKind.i64.wrap (n : Int)) = ((24 + n : Nat) : Int) := by
          rw [i64_of n (by omega), show (IntKind.i64.wrap (IntKind.i64.wrap (0 + 16) + 8) : Int) = 24 by decide, show ((24 : Int) + (n : Int)) = ((24 + n : Nat) : Int) by omega]; exact i64_of _ (by omega)
        refine ⟨rfl, 24 + n, congrArg (fun v => Ending.returned (Value.int .i64 v)) hv, ?_, rfl⟩
        have hx := (hu1 _ (hu2 _ hn))
        exact (congrArg (LenOk x) (by omega)).mp hx
      · have hb2 : x / 2 ^ 16 < 2 ^ 8 := by rw [hz1] at h2; omega
        refine StrP.len (by kernel_rfl) (x / 2 ^ 16) (by rw [hz1]; exact IntWalk.u8_in _ (by omega)) (by omega) (fun n hn hn2 => ?_)
        have hv : IntKind.i64.wrap (IntKind.i64.wrap (0 + 16) + IntKind.i64.wrap (n : Int)) = ((16 + n : Nat) : Int) := by
          rw [i64_of n (by omega), show (IntKind.i64.wrap (0 + 16) : Int) = 16 by decide, show ((16 : Int) + (n : Int)) = ((16 + n : Nat) : Int) by omega]; exact i64_of _ (by omega)
        refine ⟨rfl, 16 + n, congrArg (fun v => Ending.returned (Value.int .i64 v)) hv, ?_, rfl⟩
        have hx := (hu1 _ hn)
        exact (congrArg (LenOk x) (by omega)).mp hx
    · have hb1 : x < 2 ^ 16 := by omega
      refine IfP.dec (fun h2 => ?_) (fun h2 => ?_)
      · refine ChkP.go (by decide) ?_
        have hz1 : ((x : Int)).fdiv (2 ^ (min (8 : Int).toNat IntKind.u64.bits)) = ((x / 2 ^ 8 : Nat) : Int) := by exact fdiv_pow (x) 8
        have hb2 : x / 2 ^ 8 < 2 ^ 8 := (Nat.div_lt_iff_lt_mul (by decide)).2 (by omega)
        have hu2 : ∀ n, LenOk (x / 2 ^ 8) n → LenOk (x) (8 + n) := fun n hn => hn.up (by omega)
        refine StrP.len (by kernel_rfl) (x / 2 ^ 8) (by rw [hz1]; exact IntWalk.u8_in _ (by omega)) (by omega) (fun n hn hn2 => ?_)
        have hv : IntKind.i64.wrap (IntKind.i64.wrap (0 + 8) + IntKind.i64.wrap (n : Int)) = ((8 + n : Nat) : Int) := by
          rw [i64_of n (by omega), show (IntKind.i64.wrap (0 + 8) : Int) = 8 by decide, show ((8 : Int) + (n : Int)) = ((8 + n : Nat) : Int) by omega]; exact i64_of _ (by omega)
        refine ⟨rfl, 8 + n, congrArg (fun v => Ending.returned (Value.int .i64 v)) hv, ?_, rfl⟩
        have hx := (hu2 _ hn)
        exact (congrArg (LenOk x) (by omega)).mp hx
      · have hb2 : x < 2 ^ 8 := by omega
        refine StrP.len (by kernel_rfl) (x) (by exact IntWalk.u8_in _ (by omega)) (by omega) (fun n hn hn2 => ?_)
        have hv : IntKind.i64.wrap (0 + IntKind.i64.wrap (n : Int)) = ((0 + n : Nat) : Int) := by
          rw [i64_of n (by omega), show (0 : Int) = 0 by decide, show ((0 : Int) + (n : Int)) = ((0 + n : Nat) : Int) by omega]; exact i64_of _ (by omega)
        refine ⟨rfl, 0 + n, congrArg (fun v => Ending.returned (Value.int .i64 v)) hv, ?_, rfl⟩
        have hx := hn
        exact (congrArg (LenOk x) (by omega)).mp hx
end Go.Proofs.YthghiokcinpnlaaDoor
