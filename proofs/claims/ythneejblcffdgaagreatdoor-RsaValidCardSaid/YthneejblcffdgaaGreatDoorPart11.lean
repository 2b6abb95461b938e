/- Texts of this proof, one behind the other: Dr4 EvDiv Lb1. -/
import Derived.Test.YthneejblcffdgaaGreatDoorPart10
import Derived.Laws.BitsAllLaws
import Derived.Laws.Bits64b
namespace Go.Proofs.YthneejblcffdgaaGreatDoor
open Go Go.Ev Go.RowKit
set_option maxRecDepth 20000
set_option linter.unusedVariables false

def newKV (kt data : List Int) : List Int × List Int := updKV kt (List.replicate 32 0, List.replicate 32 1) data
theorem newD_spec {kt data : List Int} {a : Option Addr} {l c : Nat} {w : World} (hr : Row w a .u8 data) (hl : l = data.length) (h9 : l ≤ 100000000)
    (hk : Row w (some ⟨3, 0, none⟩) .u64 kt) (hkl : kt.length = 80) :
    Calls Tryz.prog 12 #[.slice a l c] w fun e w' => ∃ db, e = .returned (.pointer (some ⟨db, 0, none⟩)) ∧ DAt w' db (newKV kt data).1 (newKV kt data).2 0 ∧ w.heap.size ≤ db ∧ Below w.heap.size w w' := by
  have hkl3 : 3 < w.heap.size := by obtain ⟨b, o, h1, h2⟩ := hk 0 (by omega); cases h1; exact cell_lt h2
  refine calls_of_ev tysOk extsOk Tryz.func12 rfl rfl rfl ?_
  refine DrawP.any tysOk extsOk mixed (.alt 0 (.alt 1 (.alt 2 (.alt 3 (.alt 4 (.take 5 (.done)) (.done)) (.done)) (.done)) (.done)) (.alt 1 (.alt 0 (.alt 2 (.alt 3 (.alt 4 (.take 5 (.done)) (.done)) (.done)) (.done)) (.alt 2 (.alt 0 (.alt 3 (.alt 4 (.take 5 (.done)) (.done)) (.done)) (.done)) (.done))) (.done))) 504 (by kernel_rfl) (by kernel_rfl)
    (S := Nat) (fun s => [(3, .pointer (some ⟨s, 0, none⟩))]) (fun s W => DAt W s (List.replicate 32 0) (List.replicate 32 1) 0 ∧ w.heap.size ≤ s ∧ Below w.heap.size w W) ?_ ?_
  · have hb0 : Below w.heap.size w { w with drawn := w.drawn + 1 } := (Below.refl _ _).drew
    have hs0 : ({ w with drawn := w.drawn + 1 } : World).heap.size = w.heap.size := rfl
    generalize ({ w with drawn := w.drawn + 1 } : World) = v at hb0 hs0 ⊢
    have one : ∀ u : World, Row (u.alloc (.cells #[.int .u8 1] 5)) (some ⟨u.heap.size, 0, none⟩) .u8 [1] ∧ Below u.heap.size u (u.alloc (.cells #[.int .u8 1] 5)) := by
      intro u
      refine ⟨Row.of_blk 0 (Blk.newA u #[.int .u8 1] 5) ?_, (Below.refl _ _).alloc (Nat.le_refl _) _⟩
      intro i hi
      have hi0 : i = 0 := by simp at hi; omega
      subst hi0; rfl
    have fin : ∀ (u : World) (kb vb : Nat), Below w.heap.size w u → Buf .u8 5 u kb (List.replicate 32 0) 32 → Row u (some ⟨vb, 0, none⟩) .u8 (List.replicate 32 1) →
        DAt (u.alloc (.cells #[.slice (some ⟨kb, 0, none⟩) 32 32, .slice (some ⟨vb, 0, none⟩) 32 32, .int .i64 0] 68)) u.heap.size (List.replicate 32 0) (List.replicate 32 1) 0 ∧ w.heap.size ≤ u.heap.size ∧ Below w.heap.size w (u.alloc (.cells #[.slice (some ⟨kb, 0, none⟩) 32 32, .slice (some ⟨vb, 0, none⟩) 32 32, .int .i64 0] 68)) := by
      intro u kb vb h1 h2 h3
      have hkb := h2.lt
      have hvb : vb < u.heap.size := by obtain ⟨b, o, e1, e2⟩ := h3 0 (by simp); cases e1; exact cell_lt e2
      refine ⟨⟨_, _, _, _, Blk.newA u #[.slice (some ⟨kb, 0, none⟩) 32 32, .slice (some ⟨vb, 0, none⟩) 32 32, .int .i64 0] 68, h2.row.alloc _, h3.alloc _, by simp, by simp, ?_, ?_⟩, h1.size, h1.alloc h1.size _⟩
      · intro p hp; cases hp; exact ⟨Nat.ne_of_lt hkb, by rw [size_alloc]; exact Nat.lt_succ_of_lt hkb⟩
      · intro p hp; cases hp; exact ⟨Nat.ne_of_lt hvb, by rw [size_alloc]; exact Nat.lt_succ_of_lt hvb⟩
    refine ⟨?_, ?_, trivial⟩
    · refine Mk.to 32 32 rfl rfl (Nat.le_refl _) (by omega) rfl fun v1 p1 a1 s1 => ⟨⟨?_, trivial⟩, trivial⟩
      refine CallP.intro (repeat_spec (one v1).1) ?_
      rintro e v2 ⟨vb, rfl, b1, b2, b3, b4⟩
      have hB1 := (hb0.trans (a1.mono hb0.size))
      have hB2 := (one v1).2.trans (b4.mono (one v1).2.size)
      exact ⟨_, rfl, ⟨⟨v2.heap.size, ⟨rfl, trivial⟩, fin v2 v.heap.size vb (hB1.trans (hB2.mono hB1.size)) (p1.below hB2) b3⟩, trivial⟩, trivial⟩
    · refine ⟨?_, ?_, trivial⟩
      · refine Mk.to 32 32 rfl rfl (Nat.le_refl _) (by omega) rfl fun v1 p1 a1 s1 => ⟨?_, trivial⟩
        refine CallP.intro (repeat_spec ((one v).1.below a1)) ?_
        rintro e v2 ⟨vb, rfl, b1, b2, b3, b4⟩
        have hB1 := hb0.trans ((one v).2.mono hb0.size)
        have hB2 := hB1.trans (a1.mono hB1.size)
        exact ⟨_, rfl, ⟨⟨v2.heap.size, ⟨rfl, trivial⟩, fin v2 _ vb (hB2.trans (b4.mono hB2.size)) (p1.below b4) b3⟩, trivial⟩, trivial⟩
      · refine CallP.intro (repeat_spec (one v).1) ?_
        rintro e v2 ⟨vb, rfl, b1, b2, b3, b4⟩
        refine ⟨_, rfl, ?_, trivial⟩
        have hB1 := hb0.trans ((one v).2.mono hb0.size)
        have hB2 := hB1.trans (b4.mono hB1.size)
        refine Mk.to 32 32 rfl rfl (Nat.le_refl _) (by omega) rfl fun v3 p1 a1 s1 => ?_
        exact ⟨⟨⟨v3.heap.size, ⟨rfl, trivial⟩, fin v3 _ vb (hB2.trans (a1.mono hB2.size)) p1 (b3.below a1)⟩, trivial⟩, trivial⟩
  rintro db j W ⟨g1, g2, g3⟩
  refine CallP.intro (update_spec g1 (hr.below g3) hl h9 (hk.below g3) hkl (by omega)) ?_
  rintro e W2 ⟨rfl, h1, h2⟩
  refine ⟨_, rfl, rfl, db, rfl, h1, g2, ?_⟩
  exact Chg.below ((Chg.of_below (s := fun _ => False) g3).thenC h2 g3.size (fun k hk e => by omega))
end Go.Proofs.YthneejblcffdgaaGreatDoor

/- Plain law: division of two words by one, by half words. -/
namespace Go.Ev.Div
abbrev B : Nat := 4294967296
/-- one half step at its loop's head. -/
structure J (y1 y0 u d q r : Nat) : Prop where
  sum : u = q * y1 + r
  up : (u * B + d) / (y1 * B + y0) ≤ q
  q : q ≤ B + 1
  r : r < B

theorem y_pos {y1 y0 : Nat} (h : 2147483648 ≤ y1) : 0 < y1 * B + y0 := by unfold B; omega
theorem quo_lt {y1 y0 u d : Nat} (hy : 2147483648 ≤ y1) (hu : u < y1 * B + y0) (hd : d < B) : (u * B + d) / (y1 * B + y0) < B := by
  rw [Nat.div_lt_iff_lt_mul (y_pos hy)]
  have : (u + 1) * B ≤ (y1 * B + y0) * B := Nat.mul_le_mul_right _ hu
  rw [Nat.mul_comm B]
  rw [Nat.add_mul] at this
  omega
theorem start {y1 y0 u d : Nat} (hy : 2147483648 ≤ y1) (hy1 : y1 < B) (hy0 : y0 < B) (hu : u < y1 * B + y0) (hd : d < B) : J y1 y0 u d (u / y1) (u % y1) := by
  have hp : 0 < y1 := by omega
  refine ⟨by rw [Nat.mul_comm]; exact (Nat.div_add_mod u y1).symm, ?_, ?_, Nat.lt_trans (Nat.mod_lt _ hp) hy1⟩
  · rw [Nat.le_div_iff_mul_le hp]
    generalize hQ : (u * B + d) / (y1 * B + y0) = Q
    have h1 : Q * (y1 * B + y0) ≤ u * B + d := by rw [← hQ]; exact Nat.div_mul_le_self _ _
    rw [Nat.mul_add, ← Nat.mul_assoc] at h1
    unfold B at h1 hd
    have h2 : 0 ≤ Q * y0 := Nat.zero_le _
    omega
  · have : u / y1 < B + 2 := by
      rw [Nat.div_lt_iff_lt_mul hp, Nat.add_mul, Nat.mul_comm B]
      unfold B at *
      omega
    omega
/-- the test says 'too much'. -/
theorem step {y1 y0 u d q r : Nat} (hy : 2147483648 ≤ y1) (hy0 : y0 < B) (hu : u < y1 * B + y0) (hd : d < B) (h : J y1 y0 u d q r) (hc : B ≤ q ∨ B * r + d < q * y0) :
    1 ≤ q ∧ (r + y1 < B → J y1 y0 u d (q - 1) (r + y1)) ∧ (B ≤ r + y1 → q - 1 = (u * B + d) / (y1 * B + y0)) := by
  obtain ⟨h1, h2, h3, h4⟩ := h
  have hq : (u * B + d) / (y1 * B + y0) < q := by
    rcases hc with hc | hc
    · exact Nat.lt_of_lt_of_le (quo_lt hy hu hd) hc
    · rw [Nat.div_lt_iff_lt_mul (y_pos hy), Nat.mul_add, ← Nat.mul_assoc, h1, Nat.add_mul, Nat.mul_comm r]
      unfold B at *
      omega
  have hq1 : 1 ≤ q := Nat.lt_of_le_of_lt (Nat.zero_le _) hq
  obtain ⟨p, rfl⟩ : ∃ p, q = p + 1 := ⟨q - 1, (Nat.sub_add_cancel hq1).symm⟩
  have hqp := Nat.le_of_lt_succ hq
  have hpB : p ≤ B := Nat.le_of_succ_le_succ h3
  have hs : u = p * y1 + (r + y1) := by rw [h1, Nat.add_mul]; omega
  rw [Nat.add_sub_cancel]
  refine ⟨hq1, fun hr => ⟨hs, hqp, Nat.le_succ_of_le hpB, hr⟩, fun hr => ?_⟩
  refine Nat.le_antisymm ?_ hqp
  rw [Nat.le_div_iff_mul_le (y_pos hy), Nat.mul_add, ← Nat.mul_assoc]
  have e : u * B = p * y1 * B + (r + y1) * B := by rw [hs, Nat.add_mul]
  have h5 : p * y0 ≤ B * (B - 1) := Nat.mul_le_mul hpB (by omega)
  have h6 : B * B ≤ (r + y1) * B := Nat.mul_le_mul_right _ hr
  unfold B at *
  omega
/-- the test says 'not too much'. -/
theorem stop {y1 y0 u d q r : Nat} (hy : 2147483648 ≤ y1) (h : J y1 y0 u d q r) (hc : q * y0 ≤ B * r + d) : q = (u * B + d) / (y1 * B + y0) := by
  obtain ⟨h1, h2, h3, h4⟩ := h
  refine Nat.le_antisymm ?_ h2
  rw [Nat.le_div_iff_mul_le (y_pos hy), Nat.mul_add, ← Nat.mul_assoc]
  have e : u * B = q * y1 * B + r * B := by rw [h1, Nat.add_mul]
  rw [Nat.mul_comm B r] at hc
  omega
/-- nothing overflows in the test. -/
theorem small {y1 y0 u d q r : Nat} (hy0 : y0 < B) (hd : d < B) (h : J y1 y0 u d q r) : q * y0 < 18446744073709551616 ∧ B * r + d < 18446744073709551616 := by
  obtain ⟨h1, h2, h3, h4⟩ := h
  have h5 : q * y0 ≤ (B + 1) * (B - 1) := Nat.mul_le_mul h3 (by omega)
  have h6 : B * r ≤ B * (B - 1) := Nat.mul_le_mul_left _ (by omega)
  unfold B at *
  omega
/-- two half steps are a whole one. -/
theorem whole {B y u d1 d0 : Nat} (hy : 0 < y) : ((u * B + d1) / y) * B + (((u * B + d1) % y) * B + d0) / y = ((u * B + d1) * B + d0) / y ∧ (((u * B + d1) % y) * B + d0) % y = ((u * B + d1) * B + d0) % y := by
  generalize hN : u * B + d1 = N
  have e : N * B + d0 = (N % y * B + d0) + y * (N / y * B) := by
    have := Nat.div_add_mod N y
    have h2 : N * B = (y * (N / y) + N % y) * B := by rw [this]
    rw [h2, Nat.add_mul, Nat.mul_assoc]
    omega
  constructor
  · rw [e, Nat.add_mul_div_left _ _ hy, Nat.add_comm]
  · rw [e, Nat.add_mul_mod_self_left]
/-- the dividend, moved up. -/
theorem moved {B M hi lo p pr U T d1 d0 : Nat} (hp : 0 < p) (hM : pr * p = M) (hU : hi * p + lo / pr = U) (hT : lo * p % M = T) (hB : B * B = M) (hd : T = d1 * B + d0) : (U * B + d1) * B + d0 = (hi * M + lo) * p := by
  have h1 : lo * p / M = lo / pr := by rw [← hM]; exact Nat.mul_div_mul_right _ _ hp
  have h2 := Nat.div_add_mod (lo * p) M
  rw [h1, hT] at h2
  have h3 : (U * B + d1) * B + d0 = U * M + T := by rw [Nat.add_mul, Nat.mul_assoc, hB, hd]; omega
  rw [h3, ← hU, Nat.add_mul, Nat.add_mul, ← h2, Nat.mul_right_comm hi, Nat.mul_comm (lo / pr)]
  omega
end Go.Ev.Div

namespace Go.Proofs.YthneejblcffdgaaGreatDoor
open Go Go.Ev Go.RowKit
set_option maxRecDepth 20000
set_option linter.unusedVariables false

/-! ### bits of words -/
def LenOk (x n : Nat) : Prop := x < 2 ^ n ∧ (n = 0 ∨ 2 ^ (n - 1) ≤ x)
theorem LenOk.up {x n k : Nat} (h : LenOk (x / 2 ^ k) n) (hx : 2 ^ k ≤ x) : LenOk x (k + n) := by
  obtain ⟨h1, h2⟩ := h
  have hp : 0 < 2 ^ k := Nat.two_pow_pos k
  refine ⟨?_, .inr ?_⟩
  · rw [Nat.pow_add]
    have := (Nat.div_lt_iff_lt_mul hp).1 h1
    rwa [Nat.mul_comm] at this
  · have h1' : 1 ≤ x / 2 ^ k := (Nat.le_div_iff_mul_le hp).2 (by omega)
    have hn : n ≠ 0 := by rintro rfl; rw [Nat.pow_zero] at h1; omega
    have h3 : 2 ^ (n - 1) ≤ x / 2 ^ k := by rcases h2 with h2 | h2; exact absurd h2 hn; exact h2
    have := (Nat.le_div_iff_mul_le hp).1 h3
    rw [← Nat.pow_add] at this
    rwa [show k + n - 1 = n - 1 + k by omega]
def chkLen (s : ByteArray) : Bool := (List.range 256).all fun z => match s[z]? with
  | some b => Nat.blt z (2 ^ b.toNat) && (Nat.beq b.toNat 0 || Nat.ble (2 ^ (b.toNat - 1)) z)
  | none => false
theorem StrP.len {s : ByteArray} {i : Int} {k : Int → Prop} (hs : chkLen s = true) (z : Nat) (hi : i = z) (hz : z < 256) (hk : ∀ n : Nat, LenOk z n → n ≤ 255 → k n) : StrP s i k := by
  subst hi
  unfold chkLen at hs
  rw [List.all_eq_true] at hs
  have := hs z (by simpa using hz)
  cases hb : s[z]? with
  | none => rw [hb] at this; cases this
  | some b =>
    rw [hb] at this
    simp only [Bool.and_eq_true, Bool.or_eq_true] at this
    refine ⟨⟨by omega, b, by simpa using hb, hk b.toNat ⟨by simpa [Nat.blt_eq] using this.1, ?_⟩ (by have := b.toNat_lt; omega)⟩⟩
    rcases this.2 with h | h
    · exact .inl (Nat.eq_of_beq_eq_true h)
    · exact .inr (by simpa [Nat.ble_eq] using h)
theorem fdiv_pow (x s : Nat) : (x : Int).fdiv (2 ^ s) = ((x / 2 ^ s : Nat) : Int) := by
  rw [show ((2 : Int) ^ s) = ((2 ^ s : Nat) : Int) by simp, Int.fdiv_eq_ediv_of_nonneg _ (Int.natCast_nonneg _)]
  exact Int.ofNat_ediv_ofNat

set_option maxHeartbeats 1000000 in
theorem len64_spec (x : Nat) (hx : x < 18446744073709551616) (w : World) : Calls Tryz.prog 41 #[.int .u64 x] w fun e w' => ∃ n : Nat, e = .returned (.int .i64 n) ∧ LenOk x n ∧ w' = w := by
  refine calls_of_ev tysOk extsOk Tryz.func41 rfl rfl rfl ?_
  refine IfP.dec (fun h0 => ?_) (fun h0 => ?_)
  · refine ChkP.go (by decide) ?_
    have hz1 : ((x : Int)).fdiv (2 ^ (min (32 : Int).toNat IntKind.u64.bits)) = ((x / 2 ^ 32 : Nat) : Int) := by exact fdiv_pow (x) 32
    have hb0 : x / 2 ^ 32 < 2 ^ 32 := (Nat.div_lt_iff_lt_mul (by decide)).2 (by omega)
    have hu0 : ∀ n, LenOk (x / 2 ^ 32) n → LenOk (x) (32 + n) := fun n hn => hn.up (by omega)
    refine IfP.dec (fun h1 => ?_) (fun h1 => ?_)
    · refine ChkP.go (by decide) ?_
      rw [hz1] at h1
      have hz2 : (((x : Int)).fdiv (2 ^ (min (32 : Int).toNat IntKind.u64.bits))).fdiv (2 ^ (min (16 : Int).toNat IntKind.u64.bits)) = (((x / 2 ^ 32) / 2 ^ 16 : Nat) : Int) := by rw [hz1]; exact fdiv_pow (x / 2 ^ 32) 16
      have hb1 : (x / 2 ^ 32) / 2 ^ 16 < 2 ^ 16 := (Nat.div_lt_iff_lt_mul (by decide)).2 (by omega)
      have hu1 : ∀ n, LenOk ((x / 2 ^ 32) / 2 ^ 16) n → LenOk (x / 2 ^ 32) (16 + n) := fun n hn => hn.up (by omega)
      refine IfP.dec (fun h2 => ?_) (fun h2 => ?_)
      · refine ChkP.go (by decide) ?_
        rw [hz2] at h2
        have hz3 : ((((x : Int)).fdiv (2 ^ (min (32 : Int).toNat IntKind.u64.bits))).fdiv (2 ^ (min (16 : Int).toNat IntKind.u64.bits))).fdiv (2 ^ (min (8 : Int).toNat IntKind.u64.bits)) = ((((x / 2 ^ 32) / 2 ^ 16) / 2 ^ 8 : Nat) : Int) := by rw [hz2]; exact fdiv_pow ((x / 2 ^ 32) / 2 ^ 16) 8
        have hb2 : ((x / 2 ^ 32) / 2 ^ 16) / 2 ^ 8 < 2 ^ 8 := (Nat.div_lt_iff_lt_mul (by decide)).2 (by omega)
        have hu2 : ∀ n, LenOk (((x / 2 ^ 32) / 2 ^ 16) / 2 ^ 8) n → LenOk ((x / 2 ^ 32) / 2 ^ 16) (8 + n) := fun n hn => hn.up (by omega)
        refine StrP.len (by kernel_rfl) (((x / 2 ^ 32) / 2 ^ 16) / 2 ^ 8) (by rw [hz3]; exact IntWalk.u8_in _ (by omega)) (by omega) (fun n hn hn2 => ?_)
        have hv : IntKind.i64.wrap (IntKind.i64.wrap (IntKind.i64.wrap (32 + 16) + 8) + IntKind.i64.wrap (n : Int)) = ((56 + n : Nat) : Int) := by
          rw [i64_of n (by omega), show (IntKind.i64.wrap (IntKind.i64.wrap (32 + 16) + 8) : Int) = 56 by decide, show ((56 : Int) + (n : Int)) = ((56 + n : Nat) : Int) by omega]; exact i64_of _ (by omega)
        refine ⟨rfl, 56 + n, congrArg (fun v => Ending.returned (Value.int .i64 v)) hv, ?_, rfl⟩
        have hx := (hu0 _ (hu1 _ (hu2 _ hn)))
        exact (congrArg (LenOk x) (by omega)).mp hx
      · have hb2 : (x / 2 ^ 32) / 2 ^ 16 < 2 ^ 8 := by rw [hz2] at h2; omega
        refine StrP.len (by kernel_rfl) ((x / 2 ^ 32) / 2 ^ 16) (by rw [hz2]; exact IntWalk.u8_in _ (by omega)) (by omega) (fun n hn hn2 => ?_)
        have hv : IntKind.i64.wrap (IntKind.i64.wrap (32 + 16) + IntKind.i64.wrap (n : Int)) = ((48 + n : Nat) : Int) := by
          rw [i64_of n (by omega), show (IntKind.i64.wrap (32 + 16) : Int) = 48 by decide, show ((48 : Int) + (n : Int)) = ((48 + n : Nat) : Int) by omega]; exact i64_of _ (by omega)
        refine ⟨rfl, 48 + n, congrArg (fun v => Ending.returned (Value.int .i64 v)) hv, ?_, rfl⟩
        have hx := (hu0 _ (hu1 _ hn))
        exact (congrArg (LenOk x) (by omega)).mp hx
    · have hb1 : x / 2 ^ 32 < 2 ^ 16 := by rw [hz1] at h1; omega
      refine IfP.dec (fun h2 => ?_) (fun h2 => ?_)
      · refine ChkP.go (by decide) ?_
        rw [hz1] at h2
        have hz2 : (((x : Int)).fdiv (2 ^ (min (32 : Int).toNat IntKind.u64.bits))).fdiv (2 ^ (min (8 : Int).toNat IntKind.u64.bits)) = (((x / 2 ^ 32) / 2 ^ 8 : Nat) : Int) := by rw [hz1]; exact fdiv_pow (x / 2 ^ 32) 8
        have hb2 : (x / 2 ^ 32) / 2 ^ 8 < 2 ^ 8 := (Nat.div_lt_iff_lt_mul (by decide)).2 (by omega)
        have hu2 : ∀ n, LenOk ((x / 2 ^ 32) / 2 ^ 8) n → LenOk (x / 2 ^ 32) (8 + n) := fun n hn => hn.up (by omega)
        refine StrP.len (by kernel_rfl) ((x / 2 ^ 32) / 2 ^ 8) (by rw [hz2]; exact IntWalk.u8_in _ (by omega)) (by omega) (fun n hn hn2 => ?_)
        have hv : IntKind.i64.wrap (IntKind.i64.wrap (32 + 8) + IntKind.i64.wrap (n : Int)) = ((40 + n : Nat) : Int) := by
          rw [i64_of n (by omega), show (IntKind.i64.wrap (32 + 8) : Int) = 40 by decide, show ((40 : Int) + (n : Int)) = ((40 + n : Nat) : Int) by omega]; exact i64_of _ (by omega)
        refine ⟨rfl, 40 + n, congrArg (fun v => Ending.returned (Value.int .i64 v)) hv, ?_, rfl⟩
        have hx := (hu0 _ (hu2 _ hn))
        exact (congrArg (LenOk x) (by omega)).mp hx
      · have hb2 : x / 2 ^ 32 < 2 ^ 8 := by rw [hz1] at h2; omega
        refine StrP.len (by kernel_rfl) (x / 2 ^ 32) (by rw [hz1]; exact IntWalk.u8_in _ (by omega)) (by omega) (fun n hn hn2 => ?_)
        have hv : IntKind.i64.wrap (32 + IntKind.i64.wrap (n : Int)) = ((32 + n : Nat) : Int) := by
          rw [i64_of n (by omega), show (32 : Int) = 32 by decide, show ((32 : Int) + (n : Int)) = ((32 + n : Nat) : Int) by omega]; exact i64_of _ (by omega)
        refine ⟨rfl, 32 + n, congrArg (fun v => Ending.returned (Value.int .i64 v)) hv, ?_, rfl⟩
        have hx := (hu0 _ hn)
        exact (congrArg (LenOk x) (by omega)).mp hx
  · have hb0 : x < 2 ^ 32 := by omega
    refine IfP.dec (fun h1 => ?_) (fun h1 => ?_)
    · refine ChkP.go (by decide) ?_
      have hz1 : ((x : Int)).fdiv (2 ^ (min (16 : Int).toNat IntKind.u64.bits)) = ((x / 2 ^ 16 : Nat) : Int) := by exact fdiv_pow (x) 16
      have hb1 : x / 2 ^ 16 < 2 ^ 16 := (Nat.div_lt_iff_lt_mul (by decide)).2 (by omega)
      have hu1 : ∀ n, LenOk (x / 2 ^ 16) n → LenOk (x) (16 + n) := fun n hn => hn.up (by omega)
      refine IfP.dec (fun h2 => ?_) (fun h2 => ?_)
      · refine ChkP.go (by decide) ?_
        rw [hz1] at h2
        have hz2 : (((x : Int)).fdiv (2 ^ (min (16 : Int).toNat IntKind.u64.bits))).fdiv (2 ^ (min (8 : Int).toNat IntKind.u64.bits)) = (((x / 2 ^ 16) / 2 ^ 8 : Nat) : Int) := by rw [hz1]; exact fdiv_pow (x / 2 ^ 16) 8
        have hb2 : (x / 2 ^ 16) / 2 ^ 8 < 2 ^ 8 := (Nat.div_lt_iff_lt_mul (by decide)).2 (by omega)
        have hu2 : ∀ n, LenOk ((x / 2 ^ 16) / 2 ^ 8) n → LenOk (x / 2 ^ 16) (8 + n) := fun n hn => hn.up (by omega)
        refine StrP.len (by kernel_rfl) ((x / 2 ^ 16) / 2 ^ 8) (by rw [hz2]; exact IntWalk.u8_in _ (by omega)) (by omega) (fun n hn hn2 => ?_)
        have hv : IntKind.i64.wrap (IntKind.i64.wrap (IntKind.i64.wrap (0 + 16) + 8) + IntKind.i64.wrap (n : Int)) = ((24 + n : Nat) : Int) := by
          rw [i64_of n (by omega), show (IntKind.i64.wrap (IntKind.i64.wrap (0 + 16) + 8) : Int) = 24 by decide, show ((24 : Int) + (n : Int)) = ((24 + n : Nat) : Int) by omega]; exact i64_of _ (by omega)
        refine ⟨rfl, 24 + n, congrArg (fun v => Ending.returned (Value.int .i64 v)) hv, ?_, rfl⟩
        have hx := (hu1 _ (hu2 _ hn))
        exact (congrArg (LenOk x) (by omega)).mp hx
      · have hb2 : x / 2 ^ 16 < 2 ^ 8 := by rw [hz1] at h2; omega
        refine StrP.len (by kernel_rfl) (x / 2 ^ 16) (by rw [hz1]; exact IntWalk.u8_in _ (by omega)) (by omega) (fun n hn hn2 => ?_)
        have hv : IntKind.i64.wrap (IntKind.i64.wrap (0 + 16) + IntKind.i64.wrap (n : Int)) = ((16 + n : Nat) : Int) := by
          rw [i64_of n (by omega), show (IntKind.i64.wrap (0 + 16) : Int) = 16 by decide, show ((16 : Int) + (n : Int)) = ((16 + n : Nat) : Int) by omega]; exact i64_of _ (by omega)
        refine ⟨rfl, 16 + n, congrArg (fun v => Ending.returned (Value.int .i64 v)) hv, ?_, rfl⟩
        have hx := (hu1 _ hn)
        exact (congrArg (LenOk x) (by omega)).mp hx
    · have hb1 : x < 2 ^ 16 := by omega
      refine IfP.dec (fun h2 => ?_) (fun h2 => ?_)
      · refine ChkP.go (by decide) ?_
        have hz1 : ((x : Int)).fdiv (2 ^ (min (8 : Int).toNat IntKind.u64.bits)) = ((x / 2 ^ 8 : Nat) : Int) := by exact fdiv_pow (x) 8
        have hb2 : x / 2 ^ 8 < 2 ^ 8 := (Nat.div_lt_iff_lt_mul (by decide)).2 (by omega)
        have hu2 : ∀ n, LenOk (x / 2 ^ 8) n → LenOk (x) (8 + n) := fun n hn => hn.up (by omega)
        refine StrP.len (by kernel_rfl) (x / 2 ^ 8) (by rw [hz1]; exact IntWalk.u8_in _ (by omega)) (by omega) (fun n hn hn2 => ?_)
        have hv : IntKind.i64.wrap (IntKind.i64.wrap (0 + 8) + IntKind.i64.wrap (n : Int)) = ((8 + n : Nat) : Int) := by
          rw [i64_of n (by omega), show (IntKind.i64.wrap (0 + 8) : Int) = 8 by decide, show ((8 : Int) + (n : Int)) = ((8 + n : Nat) : Int) by omega]; exact i64_of _ (by omega)
        refine ⟨rfl, 8 + n, congrArg (fun v => Ending.returned (Value.int .i64 v)) hv, ?_, rfl⟩
        have hx := (hu2 _ hn)
        exact (congrArg (LenOk x) (by omega)).mp hx
      · have hb2 : x < 2 ^ 8 := by omega
        refine StrP.len (by kernel_rfl) (x) (by exact IntWalk.u8_in _ (by omega)) (by omega) (fun n hn hn2 => ?_)
        have hv : IntKind.i64.wrap (0 + IntKind.i64.wrap (n : Int)) = ((0 + n : Nat) : Int) := by
          rw [i64_of n (by omega), show (0 : Int) = 0 by decide, show ((0 : Int) + (n : Int)) = ((0 + n : Nat) : Int) by omega]; exact i64_of _ (by omega)
        refine ⟨rfl, 0 + n, congrArg (fun v => Ending.returned (Value.int .i64 v)) hv, ?_, rfl⟩
        have hx := hn
        exact (congrArg (LenOk x) (by omega)).mp hx
end Go.Proofs.YthneejblcffdgaaGreatDoor
