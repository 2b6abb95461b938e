/- Texts of this proof, one behind the other: Lb5 Lb6 Lb7 Nm1. -/
import Derived.Test.YthneejblcffdgaaGreatDoorPart12
namespace Go.Proofs.YthneejblcffdgaaGreatDoor
open Go Go.Ev Go.RowKit
set_option maxRecDepth 20000
set_option linter.unusedVariables false

def cmpFrom (a b : List Nat) : Nat → Int
  | 0 => 0
  | m + 1 => if a.getD m 0 = b.getD m 0 then cmpFrom a b m else if a.getD m 0 < b.getD m 0 then -1 else 1
def cmpN (a b : List Nat) : Int := if a.length = b.length then cmpFrom a b a.length else if a.length < b.length then -1 else 1

theorem cmp_spec {xs ys : List Nat} {a b : Option Addr} {l c l2 c2 : Nat} {w : World} (hx : NRow w a xs) (hl : l = xs.length) (hc : l ≤ c) (hs : l ≤ 1000000) (hy : NRow w b ys) (hl2 : l2 = ys.length) (hc2 : l2 ≤ c2) (hs2 : l2 ≤ 1000000) :
    Calls Tryz.prog 16 #[.slice a l c, .slice b l2 c2] w fun e w' => e = .returned (.int .i64 (cmpN (trimmed xs) (trimmed ys))) ∧ Below w.heap.size w w' ∧ w'.heap = w.heap := by
  refine calls_of_ev tysOk extsOk Tryz.func16 rfl rfl rfl ?_
  refine CallP.intro (trim_spec hx hl hc hs) ?_
  rintro e w1 ⟨a', rfl, h1, h2, hw⟩
  have hw := hw.symm
  subst hw
  refine ⟨_, rfl, ?_⟩
  refine CallP.intro (trim_spec hy hl2 hc2 hs2) ?_
  rintro e w1 ⟨b', rfl, g1, g2, hw⟩
  have hw := hw.symm
  subst hw
  refine ⟨_, rfl, ?_⟩
  have lx : (trimmed xs).length ≤ 1000000 := by rw [trimmed_length]; exact Nat.le_trans (trimLen_le _ _) (by omega)
  generalize hX : trimmed xs = X at *
  generalize hY : trimmed ys = Y at *
  refine IfP.bne (fun hne => ?_) (fun heq => ?_)
  · have hne' : ¬ X.length = Y.length := by omega
    refine IfP.dec (fun hlt => ?_) (fun hge => ?_)
    · refine ⟨rfl, ?_, Below.refl _ _, rfl⟩
      unfold cmpN; rw [if_neg hne', if_pos (by omega)]; rfl
    · refine ⟨rfl, ?_, Below.refl _ _, rfl⟩
      unfold cmpN; rw [if_neg hne', if_neg (by omega)]; rfl
  · have heq' : X.length = Y.length := by omega
    have hcmp : cmpN X Y = cmpFrom X Y X.length := by unfold cmpN; rw [if_pos heq']
    rw [hcmp]
    have e0 : IntKind.i64.wrap ((X.length : Int) - 1) = (X.length : Int) - 1 := IntWalk.i64_in _ (by omega)
    refine LoopP.go (S := Nat) 35184363700272 (by kernel_rfl) (fun m => [(5, .int .i64 ((m : Int) - 1))]) (fun m W => m ≤ X.length ∧ cmpFrom X Y m = cmpFrom X Y X.length ∧ W.heap = w.heap ∧ Below w.heap.size w W) (fun m => m) X.length
      ⟨congrArg (Value.int .i64) e0, trivial⟩ ⟨Nat.le_refl _, rfl, rfl, Below.refl _ _⟩ ?_
    rintro m j W ⟨k1, k2, k3, k4⟩
    refine IfP.dec (fun hge => ?_) (fun hlt => ?_)
    · obtain ⟨n, rfl⟩ : ∃ n, m = n + 1 := ⟨m - 1, by omega⟩
      have hsub : (((n + 1 : Nat) : Int) - 1) = (n : Int) := by omega
      have r1 : NRow W a' X := Row.below h1 k4
      have r2 : NRow W b' Y := Row.below g1 k4
      refine DrawP.still tysOk extsOk mixed (by kernel_rfl) rfl ?_
      refine IdxP.ld n hsub (Row.drw r1) (ints_length _).symm (by omega) fun _ _ _ => ?_
      refine IdxP.ld n hsub (Row.drw r2) (ints_length _).symm (by omega) fun _ _ _ => ?_
      rw [ints_getD, ints_getD]
      refine IfP.bne (fun hne => ?_) (fun he => ?_)
      · have hne' : ¬ X.getD n 0 = Y.getD n 0 := by omega
        refine DrawP.still tysOk extsOk mixed (by kernel_rfl) rfl ?_
        refine IdxP.ld n hsub (Row.drw (Row.drw r1)) (ints_length _).symm (by omega) fun _ _ _ => ?_
        refine IdxP.ld n hsub (Row.drw (Row.drw r2)) (ints_length _).symm (by omega) fun _ _ _ => ?_
        rw [ints_getD, ints_getD]
        refine IfP.dec (fun hlt => ?_) (fun hge => ?_)
        · refine ⟨rfl, ?_, k4.drew.drew, k3⟩
          rw [← k2]; unfold cmpFrom; rw [if_neg hne', if_pos (by omega)]; rfl
        · refine ⟨rfl, ?_, k4.drew.drew, k3⟩
          rw [← k2]; unfold cmpFrom; rw [if_neg hne', if_neg (by omega)]; rfl
      · have enext : IntKind.i64.wrap (((n + 1 : Nat) : Int) - 1 - 1) = ((n : Int) - 1) := by rw [hsub]; exact IntWalk.i64_in _ (by omega)
        refine ⟨rfl, n, ⟨⟨congrArg (Value.int .i64) enext, trivial⟩, by omega, ?_, k3, k4.drew⟩, by omega⟩
        rw [← k2]
        show cmpFrom X Y n = if X.getD n 0 = Y.getD n 0 then cmpFrom X Y n else _
        rw [if_pos (by omega)]
    · have hm : m = 0 := by omega
      subst hm
      refine ⟨rfl, ?_, k4, k3⟩
      rw [← k2]; rfl

theorem bits_spec {xs : List Nat} {a : Option Addr} {l c : Nat} {w : World} (hx : NRow w a xs) (hL : Limbs xs) (hl : l = xs.length) (hc : l ≤ c) (hs : l ≤ 1000000) :
    Calls Tryz.prog 15 #[.slice a l c] w fun e w' => ∃ k : Nat, e = .returned (.int .i64 k) ∧ ((trimmed xs = [] ∧ k = 0) ∨ (∃ n, LenOk ((trimmed xs).getD ((trimmed xs).length - 1) 0) n ∧ n ≤ 64 ∧ 0 < (trimmed xs).length ∧ k = 64 * ((trimmed xs).length - 1) + n)) ∧ w' = w := by
  refine calls_of_ev tysOk extsOk Tryz.func15 rfl rfl rfl ?_
  refine CallP.intro (trim_spec hx hl hc hs) ?_
  rintro e w1 ⟨a', rfl, h1, h2, hw⟩
  have hw := hw.symm
  subst hw
  refine ⟨_, rfl, ?_⟩
  have lx : (trimmed xs).length ≤ 1000000 := by rw [trimmed_length]; exact Nat.le_trans (trimLen_le _ _) (by omega)
  have hLt := hL.trimmed
  generalize hX : trimmed xs = X at *
  refine IfP.beq (fun h0 => ?_) (fun h0 => ?_)
  · have : X = [] := List.eq_nil_of_length_eq_zero (by omega)
    exact ⟨rfl, 0, rfl, .inl ⟨this, rfl⟩, rfl⟩
  · have e1 : IntKind.i64.wrap ((X.length : Int) - 1) = ((X.length - 1 : Nat) : Int) := by rw [show (X.length : Int) - 1 = ((X.length - 1 : Nat) : Int) by omega]; exact i64_of _ (by omega)
    refine IdxP.ld (X.length - 1) e1 h1 (ints_length _).symm (by omega) fun _ _ _ => ?_
    rw [ints_getD]
    refine CallP.intro (len64_spec _ (hLt.getD _) _) ?_
    rintro e w2 ⟨n, rfl, hn, hw⟩
    have hw := hw.symm
    subst hw
    have hn64 : n ≤ 64 := by
      rcases Nat.lt_or_ge 64 n with h | h
      · rcases hn.2 with h2 | h2
        · omega
        · have h3 : 2 ^ 64 ≤ 2 ^ (n - 1) := Nat.pow_le_pow_right (by decide) (by omega)
          have := hLt.getD (X.length - 1)
          omega
      · exact h
    refine ⟨_, rfl, rfl, 64 * (X.length - 1) + n, ?_, .inr ⟨n, hn, hn64, by omega, rfl⟩, rfl⟩
    have e2 : IntKind.i64.wrap (IntKind.i64.wrap (64 * IntKind.i64.wrap ((X.length : Int) - 1)) + (n : Int)) = ((64 * (X.length - 1) + n : Nat) : Int) := by
      rw [e1, show (64 * ((X.length - 1 : Nat) : Int)) = ((64 * (X.length - 1) : Nat) : Int) by omega, i64_of _ (by omega), show (((64 * (X.length - 1) : Nat) : Int) + (n : Int)) = ((64 * (X.length - 1) + n : Nat) : Int) by omega, i64_of _ (by omega)]
    exact congrArg (fun v => Ending.returned (Value.int .i64 v)) e2
end Go.Proofs.YthneejblcffdgaaGreatDoor

namespace Go.Proofs.YthneejblcffdgaaGreatDoor
open Go Go.Ev Go.RowKit
set_option maxRecDepth 20000
set_option linter.unusedVariables false

theorem bits_nat (op : BinOp) (a b : Int) : ∃ v : Nat, v < 18446744073709551616 ∧ Go.bits op .u64 a b = (v : Int) := by
  have h1 := bits_u64_nonneg op a b
  have h2 : Go.bits op .u64 a b < 18446744073709551616 := by
    show IntKind.u64.wrap _ < _
    rw [IntKind.wrap_u64]; omega
  exact ⟨(Go.bits op .u64 a b).toNat, by omega, by omega⟩

theorem StP.buf {K : IntKind} {T : TypeId} {w : World} {b i c : Nat} {xs : List Int} {v : Int} {k : World → Prop} (h : Buf K T w b xs c) (hi : i < xs.length)
    (hk : ∀ w', Buf K T w' b (xs.set i v) c → Chg w.heap.size (fun k => k = b) w w' → w'.heap.size = w.heap.size → k w') : StP ⟨b, i, none⟩ (.int K v) k w := by
  have h' := h
  obtain ⟨sp, hB, e⟩ := h'
  exact StP.blk hB rfl (by simp; omega) (hk _ (h.set i hi v) ((Chg.refl _ _ _).setCell _ _ (fun _ => rfl)) (size_setCell _ _ _))
theorem Limbs.set {xs : List Nat} (h : Limbs xs) (i : Nat) {v : Nat} (hv : v < 18446744073709551616) : Limbs (xs.set i v) := fun x hx => by
  rcases List.mem_or_eq_of_mem_set hx with h1 | rfl
  · exact h x h1
  · exact hv
theorem ints_set_nat (xs : List Nat) (i v : Nat) : (ints xs).set i (v : Int) = ints (xs.set i v) := by unfold ints; rw [List.map_set]; rfl
set_option maxHeartbeats 1000000 in
theorem fromBytes_spec {bs : List Int} {a : Option Addr} {l c : Nat} {w : World} (hr : Row w a .u8 bs) (hl : l = bs.length) (hs : l ≤ 1000000) :
    Calls Tryz.prog 37 #[.slice a l c] w fun e w' => ∃ xs a' c', e = .returned (.slice a' (trimmed xs).length c') ∧ NRow w' a' (trimmed xs) ∧ Limbs xs ∧ xs.length = (l + 7) / 8 ∧ (trimmed xs).length ≤ c' ∧ (∀ p, a' = some p → w.heap.size ≤ p.block) ∧ Below w.heap.size w w' := by
  refine calls_of_ev tysOk extsOk Tryz.func37 rfl rfl rfl ?_
  refine ChkP.go (by decide) ?_
  have e0 : IntKind.i64.wrap (Int.tdiv (IntKind.i64.wrap ((l : Int) + 7)) 8) = (((l + 7) / 8 : Nat) : Int) := by
    rw [show (l : Int) + 7 = ((l + 7 : Nat) : Int) by omega, i64_of _ (by omega), show (8 : Int) = ((8 : Nat) : Int) from rfl, ← Int.ofNat_tdiv, i64_of _ (by omega)]
  refine Mk.to ((l + 7) / 8) ((l + 7) / 8) e0 e0 (Nat.le_refl _) (by omega) rfl fun w1 p1 a1 s1 => ?_
  refine LoopP.go (S := Nat) 274877890672 (by kernel_rfl) (fun i => [(14, .int .i64 i)])
    (fun i W => i ≤ l ∧ (∃ xs, Buf .u64 34 W w.heap.size (ints xs) ((l + 7) / 8) ∧ Limbs xs ∧ xs.length = (l + 7) / 8) ∧ Below w.heap.size w W) (fun i => l - i) 0 ⟨rfl, trivial⟩
    ⟨by omega, ⟨List.replicate ((l + 7) / 8) 0, by rw [ints_zeros]; exact p1, (fun x hx => by rw [List.eq_of_mem_replicate hx]; decide), by simp⟩, a1⟩ ?_
  rintro i j W ⟨h1, ⟨xs, h2, h3, h4⟩, h5⟩
  refine IfP.dec (fun hlt => ?_) (fun hge => ?_)
  · have hlt' : i < l := by omega
    refine IdxP.ld i rfl (hr.below h5) hl hlt' fun _ _ _ => ?_
    have ek : IntKind.i64.wrap (IntKind.i64.wrap ((l : Int) - 1) - (i : Int)) = ((l - 1 - i : Nat) : Int) := by
      rw [show (l : Int) - 1 = ((l - 1 : Nat) : Int) by omega, i64_of _ (by omega), show ((l - 1 : Nat) : Int) - (i : Int) = ((l - 1 - i : Nat) : Int) by omega, i64_of _ (by omega)]
    obtain ⟨k, hk⟩ : ∃ k, l - 1 - i = k := ⟨_, rfl⟩
    rw [hk] at ek
    have eq8 : IntKind.i64.wrap (Int.tdiv (IntKind.i64.wrap (IntKind.i64.wrap ((l : Int) - 1) - (i : Int))) 8) = ((k / 8 : Nat) : Int) := by
      rw [ek, show (8 : Int) = ((8 : Nat) : Int) from rfl, ← Int.ofNat_tdiv, i64_of _ (by omega)]
    have er8 : IntKind.i64.wrap (Int.tmod (IntKind.i64.wrap (IntKind.i64.wrap ((l : Int) - 1) - (i : Int))) 8 * 8) = ((k % 8 * 8 : Nat) : Int) := by
      rw [ek, show (8 : Int) = ((8 : Nat) : Int) from rfl, ← Int.ofNat_tmod, show (((k % 8 : Nat) : Int) * ((8 : Nat) : Int)) = ((k % 8 * 8 : Nat) : Int) by omega, i64_of _ (by omega)]
    have hil := ints_length xs
    refine DrawP.tail tysOk extsOk mixed 13 (by kernel_rfl) rfl ?_
    refine ChkP.go (by decide) ?_
    refine IdxP.ld (k / 8) eq8 (Buf.row (Buf.drw h2)) (by omega) (by omega) fun _ _ _ => ?_
    refine ChkP.go (by decide) ?_
    refine ChkP.go (by rw [er8]; omega) ?_
    refine IdxP.at (k / 8) eq8 (by omega) ?_
    have h2d := Buf.drw h2
    have h5d := h5.drew
    have hcell : (k / 8 : Nat) < (ints xs).length := by omega
    have hnext : IntKind.i64.wrap ((i : Int) + 1) = ((i + 1 : Nat) : Int) := by rw [show (i : Int) + 1 = ((i + 1 : Nat) : Int) by omega]; exact i64_of _ (by omega)
    refine StP.buf (i := 0 + k / 8 * 1) h2d (by omega) fun w2 g1 g2 g3 => ?_
    refine ⟨rfl, i + 1, ⟨⟨congrArg (Value.int .i64) hnext, trivial⟩, by omega, ?_, ?_⟩, by omega⟩
    · obtain ⟨v, hv1, hv2⟩ := bits_nat .or ((ints xs).getD (k / 8) 0) _
      rw [hv2, show 0 + k / 8 * 1 = k / 8 by omega, ints_set_nat] at g1
      exact ⟨_, g1, h3.set _ hv1, by rw [List.length_set]; exact h4⟩
    · exact Chg.below ((Chg.of_below (s := fun _ => False) h5d).thenC g2 h5d.size (fun k hk e => absurd e (by show ¬ (k = w.heap.size); omega)))
  · have hlen : (ints xs).length = (l + 7) / 8 := by rw [ints_length, h4]
    refine CallP.intro (trim_spec (xs := xs) h2.row h4.symm (Nat.le_refl _) (by omega)) ?_
    rintro e w4 ⟨a', rfl, q1, q2, hw⟩
    have hw := hw.symm
    subst hw
    refine ⟨_, rfl, rfl, xs, a', _, rfl, q1, h3, h4, ?_, ?_, h5⟩
    · rw [trimmed_length, h4]; exact Nat.le_trans (trimLen_le _ _) (by omega)
    · intro p hp
      obtain ⟨q, e1, e2⟩ := q2 p hp
      cases e1
      exact Nat.le_of_eq e2
end Go.Proofs.YthneejblcffdgaaGreatDoor

namespace Go.Proofs.YthneejblcffdgaaGreatDoor
open Go Go.Ev Go.RowKit
set_option maxRecDepth 20000
set_option linter.unusedVariables false

theorem cmpN_neg {X Y : List Nat} (h : cmpN X Y < 0) : X.length ≤ Y.length := by
  unfold cmpN at h
  split at h
  · rename_i e; omega
  · split at h
    · omega
    · omega
theorem trimmed_le (xs : List Nat) : (trimmed xs).length ≤ xs.length := by rw [trimmed_length]; exact trimLen_le _ _
/-- division by one limb: what is left is at most one limb long. -/
theorem quo1_spec {xs ys : List Nat} {a b : Option Addr} {l c l2 c2 d : Nat} {w : World} (hx : NRow w a xs) (hL : Limbs xs) (hl : l = xs.length) (hc : l ≤ c) (hs : l ≤ 1000000) (hy : NRow w b ys) (hl2 : l2 = ys.length) (hc2 : l2 ≤ c2) (hs2 : l2 ≤ 1000000)
    (hd : trimmed ys = [d]) (hd0 : 0 < d) (hd1 : d < 18446744073709551616) :
    Calls Tryz.prog 48 #[.slice a l c, .slice b l2 c2] w fun e w' => ∃ qa ql qc ra rl rc, e = .returned (.tuple #[.slice qa ql qc, .slice ra rl rc, .bool true]) ∧ rl ≤ 1 ∧ Below w.heap.size w w' := by
  refine calls_of_ev tysOk extsOk Tryz.func48 rfl rfl rfl ?_
  refine CallP.intro (trim_spec hx hl hc hs) ?_
  rintro e w1 ⟨a', rfl, h1, h2, hw⟩
  have hw := hw.symm
  subst hw
  refine ⟨_, rfl, ?_⟩
  refine CallP.intro (trim_spec hy hl2 hc2 hs2) ?_
  rintro e w1 ⟨b', rfl, g1, g2, hw⟩
  have hw := hw.symm
  subst hw
  refine ⟨_, rfl, ?_⟩
  have tx := trimmed_le xs
  rw [hd] at g1 ⊢
  have hLt := hL.trimmed
  obtain ⟨X, hX⟩ : ∃ X, trimmed xs = X := ⟨_, rfl⟩
  rw [hX] at tx h1 hLt ⊢
  refine IfP.neg rfl ?_
  refine CallP.intro (cmp_spec h1 rfl (by omega) (by omega) g1 rfl (by show 1 ≤ c2; have := trimmed_le ys; rw [hd] at this; simp at this; omega) (by show 1 ≤ 1000000; omega)) ?_
  rintro e w2 ⟨rfl, k1, k2⟩
  refine ⟨_, rfl, ?_⟩
  refine IfP.dec (fun hlt => ?_) (fun hge => ?_)
  · refine CallP.intro (made_spec (Row.below h1 k1) rfl (by omega) (by omega)) ?_
    rintro e w3 ⟨a3, c3, o3, rfl, q1, q2, q3⟩
    refine ⟨_, rfl, rfl, none, 0, 0, a3, _, c3, rfl, ?_, k1.trans (q3.mono k1.size)⟩
    have h3 := cmpN_neg hlt
    have h4 := trimmed_le [d]
    simp at h4
    omega
  · refine IfP.pos rfl ?_
    refine IdxP.ld 0 rfl (Row.below g1 k1) rfl Nat.one_pos fun _ _ _ => ?_
    rw [ints_getD]
    refine CallP.intro (small_spec (d := d) (Row.below h1 k1) hLt rfl (by omega) hd0 hd1) ?_
    rintro e w3 ⟨Q, r, a3, c3, rfl, q1, q2, q3, q4, q5, q6, q7, _⟩
    refine ⟨_, rfl, ?_⟩
    refine CallP.intro ofN_spec ?_
    rintro e w4 ⟨a4, c4, o4, rfl, p1, p2, p3⟩
    have hB := k1.trans (q7.mono k1.size)
    refine ⟨_, rfl, rfl, _, _, _, a4, _, c4, rfl, ?_, hB.trans (p3.mono hB.size)⟩
    have h4 := trimmed_le [r]
    simpa using h4
end Go.Proofs.YthneejblcffdgaaGreatDoor

namespace Go.Proofs.YthneejblcffdgaaGreatDoor
open Go Go.Ev Go.RowKit
set_option maxRecDepth 20000
set_option linter.unusedVariables false
set_option linter.unusedSimpArgs false

/-! ### numbers as limbs: plain -/
abbrev B64 : Nat := 18446744073709551616
theorem B64_pos (k : Nat) : 0 < B64 ^ k := Nat.pow_pos (by decide)
theorem val_cons (x : Nat) (r : List Nat) : val (x :: r) = x + B64 * val r := rfl
theorem val_append : ∀ (xs ys : List Nat), val (xs ++ ys) = val xs + B64 ^ xs.length * val ys
  | [], ys => by simp [val]
  | x :: r, ys => by
    rw [List.cons_append, val_cons, val_cons, val_append r ys, List.length_cons, Nat.pow_succ, Nat.mul_add, Nat.mul_comm (B64 ^ r.length) B64, Nat.mul_assoc, Nat.add_assoc]
theorem val_zeros : ∀ n, val (List.replicate n 0) = 0
  | 0 => rfl
  | n + 1 => by rw [List.replicate_succ, val_cons, val_zeros n]; rfl
theorem val_lt : ∀ {xs : List Nat}, Limbs xs → val xs < B64 ^ xs.length
  | [], _ => by simp [val]
  | x :: r, h => by
    have h1 := h x (by simp)
    have h2 := val_lt (xs := r) fun y hy => h y (by simp [hy])
    rw [val_cons, List.length_cons, Nat.pow_succ]
    have h1 : x < B64 := h1
    have : B64 * val r + B64 ≤ B64 * B64 ^ r.length := by rw [← Nat.mul_succ]; exact Nat.mul_le_mul_left _ h2
    rw [Nat.mul_comm (B64 ^ r.length)]
    omega
theorem val_split (xs : List Nat) (i : Nat) (h : i ≤ xs.length) : val xs = val (xs.take i) + B64 ^ i * val (xs.drop i) := by
  conv => lhs; rw [← List.take_append_drop i xs]
  rw [val_append, List.length_take, Nat.min_eq_left h]
theorem val_take_succ (xs : List Nat) (i : Nat) (h : i < xs.length) : val (xs.take (i + 1)) = val (xs.take i) + B64 ^ i * xs.getD i 0 := by
  rw [List.take_succ_eq_append_getElem h, val_append, List.length_take, Nat.min_eq_left (by omega), List.getD_eq_getElem?_getD, List.getElem?_eq_getElem h]
  simp [val]
theorem val_pos : ∀ {xs : List Nat}, 0 < xs.length → xs.getD (xs.length - 1) 0 ≠ 0 → B64 ^ (xs.length - 1) ≤ val xs
  | [], h, _ => absurd h (by simp)
  | x :: r, _, h => by
    cases r with
    | nil => simp [val] at h ⊢; omega
    | cons y r =>
      have := val_pos (xs := y :: r) (by simp) (by simpa using h)
      rw [val_cons]
      simp only [List.length_cons, Nat.add_sub_cancel] at this ⊢
      rw [Nat.pow_succ, Nat.mul_comm]
      exact Nat.le_trans (Nat.mul_le_mul_left _ this) (Nat.le_add_left _ _)
/-- none at the end that is 0. -/
def Nz (xs : List Nat) : Prop := xs = [] ∨ xs.getD (xs.length - 1) 0 ≠ 0
theorem trimLen_nz (xs : List Nat) : ∀ n, trimLen xs n = 0 ∨ xs.getD (trimLen xs n - 1) 0 ≠ 0
  | 0 => .inl rfl
  | n + 1 => by
    unfold trimLen
    by_cases h : xs.getD n 0 = 0
    · rw [if_pos h]; exact trimLen_nz xs n
    · rw [if_neg h]; exact .inr h
theorem trimLen_zero (xs : List Nat) : ∀ n i, trimLen xs n ≤ i → i < n → xs.getD i 0 = 0
  | 0, _, _, h => absurd h (by omega)
  | n + 1, i, h, hi => by
    unfold trimLen at h
    by_cases hz : xs.getD n 0 = 0
    · rw [if_pos hz] at h
      rcases Nat.lt_or_ge i n with h1 | h1
      · exact trimLen_zero xs n i h h1
      · have : i = n := by omega
        subst this; exact hz
    · rw [if_neg hz] at h; omega
theorem trimmed_nz (xs : List Nat) : Nz (trimmed xs) := by
  have hl := trimmed_length xs
  rcases trimLen_nz xs xs.length with h | h
  · exact .inl (List.eq_nil_of_length_eq_zero (by omega))
  · by_cases h0 : trimLen xs xs.length = 0
    · exact .inl (List.eq_nil_of_length_eq_zero (by omega))
    · refine .inr ?_
      rw [hl, trimmed, List.getD_eq_getElem?_getD, List.getElem?_take_of_lt (by omega), ← List.getD_eq_getElem?_getD]
      exact h
theorem val_zero_of : ∀ (xs : List Nat), (∀ i, i < xs.length → xs.getD i 0 = 0) → val xs = 0
  | [], _ => rfl
  | x :: r, h => by
    have h0 : x = 0 := h 0 (by simp)
    rw [val_cons, h0, val_zero_of r fun i hi => by have := h (i + 1) (by simp; omega); simpa using this]; rfl
theorem val_trimmed (xs : List Nat) : val (trimmed xs) = val xs := by
  have hle := trimLen_le xs xs.length
  rw [val_split xs (trimLen xs xs.length) hle, val_zero_of (xs.drop (trimLen xs xs.length)), Nat.mul_zero, Nat.add_zero]; rfl
  intro i hi
  rw [List.length_drop] at hi
  have := trimLen_zero xs xs.length (trimLen xs xs.length + i) (by omega) (by omega)
  rw [List.getD_eq_getElem?_getD, List.getElem?_drop, ← List.getD_eq_getElem?_getD]
  exact this
theorem Nz.tail {x : Nat} {r : List Nat} (h : Nz (x :: r)) : Nz r := by
  rcases h with h | h
  · cases h
  · cases r with
    | nil => exact .inl rfl
    | cons y r => exact .inr (by simpa using h)
theorem val_inj : ∀ {xs ys : List Nat}, Limbs xs → Limbs ys → Nz xs → Nz ys → val xs = val ys → xs = ys
  | [], [], _, _, _, _, _ => rfl
  | [], y :: s, _, _, _, hn, h => by
    rcases hn with hn | hn
    · cases hn
    · have := val_pos (xs := y :: s) (by simp) hn
      have := B64_pos ((y :: s).length - 1)
      rw [← h] at *
      simp [val] at *
  | x :: r, [], _, _, hn, _, h => by
    rcases hn with hn | hn
    · cases hn
    · have := val_pos (xs := x :: r) (by simp) hn
      have := B64_pos ((x :: r).length - 1)
      rw [h] at *
      simp [val] at *
  | x :: r, y :: s, hx, hy, hn, hm, h => by
    rw [val_cons, val_cons] at h
    have h1 : x < B64 := hx x (by simp)
    have h2 : y < B64 := hy y (by simp)
    have e1 : x = y := by
      have := congrArg (· % B64) h
      simp only [Nat.add_mul_mod_self_left] at this
      rwa [Nat.mod_eq_of_lt h1, Nat.mod_eq_of_lt h2] at this
    subst e1
    have e2 : val r = val s := Nat.eq_of_mul_eq_mul_left (by decide : 0 < B64) (by omega)
    rw [val_inj (fun z hz => hx z (by simp [hz])) (fun z hz => hy z (by simp [hz])) hn.tail hm.tail e2]
def limbsF : Nat → Nat → List Nat
  | 0, _ => []
  | f + 1, n => if n = 0 then [] else n % B64 :: limbsF f (n / B64)
theorem limbsF_limbs : ∀ f n, Limbs (limbsF f n)
  | 0, _ => by intro x hx; cases hx
  | f + 1, n => by
    unfold limbsF
    split
    · intro x hx; cases hx
    · intro x hx
      rcases List.mem_cons.1 hx with rfl | hx
      · exact Nat.mod_lt _ (by decide)
      · exact limbsF_limbs f _ x hx
theorem limbsF_val : ∀ f n, n < B64 ^ f → val (limbsF f n) = n
  | 0, n, h => by simp at h; subst h; rfl
  | f + 1, n, h => by
    unfold limbsF
    split
    · rename_i h0; rw [h0]; rfl
    · rw [val_cons, limbsF_val f _ ((Nat.div_lt_iff_lt_mul (by decide)).2 (by rw [← Nat.pow_succ]; exact h)), Nat.mod_add_div]
theorem limbsF_nz : ∀ f n, n < B64 ^ f → Nz (limbsF f n)
  | 0, n, h => .inl rfl
  | f + 1, n, h => by
    have hd : n / B64 < B64 ^ f := (Nat.div_lt_iff_lt_mul (by decide)).2 (by rw [← Nat.pow_succ]; exact h)
    have ih := limbsF_nz f (n / B64) hd
    have iv := limbsF_val f (n / B64) hd
    unfold limbsF
    split
    · exact .inl rfl
    · rename_i h0
      refine .inr ?_
      cases hr : limbsF f (n / B64) with
      | nil =>
        rw [hr] at iv
        have : n / B64 = 0 := iv.symm
        have h1 : n < B64 := Nat.lt_of_div_eq_zero (by decide) this
        simp only [List.length_cons, List.length_nil, Nat.zero_add, Nat.sub_self, List.getD_cons_zero]
        rw [Nat.mod_eq_of_lt h1]; exact h0
      | cons y s =>
        rw [hr] at ih
        rcases ih with ih | ih
        · cases ih
        · simpa using ih
theorem lt_pow_log (n : Nat) : n < B64 ^ (n.log2 + 1) := by
  refine Nat.lt_of_lt_of_le Nat.lt_log2_self ?_
  exact Nat.pow_le_pow_left (by decide) _
/-- the limbs of a number, none at the end that is 0. -/
def limbs (n : Nat) : List Nat := limbsF (n.log2 + 1) n
theorem limbs_limbs (n : Nat) : Limbs (limbs n) := limbsF_limbs _ _
theorem val_limbs (n : Nat) : val (limbs n) = n := limbsF_val _ _ (lt_pow_log n)
theorem limbs_nz (n : Nat) : Nz (limbs n) := limbsF_nz _ _ (lt_pow_log n)
theorem limbs_eq {xs : List Nat} (h : Limbs xs) (hn : Nz xs) : xs = limbs (val xs) := val_inj h (limbs_limbs _) hn (limbs_nz _) (val_limbs _).symm
theorem trimmed_eq {xs : List Nat} (h : Limbs xs) : trimmed xs = limbs (val xs) := by rw [← val_trimmed]; exact limbs_eq h.trimmed (trimmed_nz xs)
theorem trimmed_limbs (n : Nat) : trimmed (limbs n) = limbs n := by rw [trimmed_eq (limbs_limbs n), val_limbs]
theorem limbs_zero : limbs 0 = [] := rfl
theorem limbs_len_le {n k : Nat} (h : n < B64 ^ k) : (limbs n).length ≤ k := by
  rcases limbs_nz n with h0 | h0
  · rw [h0]; simp
  · by_cases hl : (limbs n).length = 0
    · omega
    · have h1 := val_pos (by omega) h0
      rw [val_limbs] at h1
      have h2 : B64 ^ ((limbs n).length - 1) < B64 ^ k := Nat.lt_of_le_of_lt h1 h
      have := (Nat.pow_lt_pow_iff_right (by decide : 1 < B64)).1 h2
      omega
theorem lt_of_limbs (n : Nat) : n < B64 ^ (limbs n).length := by
  have := val_lt (limbs_limbs n); rwa [val_limbs] at this
theorem limbs_pos {n : Nat} (h : 0 < n) : 0 < (limbs n).length ∧ B64 ^ ((limbs n).length - 1) ≤ n := by
  rcases limbs_nz n with h0 | h0
  · have := val_limbs n; rw [h0] at this; simp [val] at this; omega
  · by_cases hl : (limbs n).length = 0
    · have := val_limbs n; rw [List.eq_nil_of_length_eq_zero hl] at this; simp [val] at this; omega
    · refine ⟨by omega, ?_⟩
      have := val_pos (by omega) h0; rwa [val_limbs] at this

/-! ### in memory -/
/-- a slice that holds a number, of at most 250 limbs. -/
def NumS (w : World) (a : Option Addr) (l c n : Nat) : Prop := ∃ xs, NRow w a xs ∧ Limbs xs ∧ l = xs.length ∧ l ≤ c ∧ l ≤ 250 ∧ val xs = n
/-- in normal form. -/
def NumN (w : World) (a : Option Addr) (l c n : Nat) : Prop := NRow w a (limbs n) ∧ l = (limbs n).length ∧ l ≤ c ∧ l ≤ 250
theorem NumN.s {w : World} {a : Option Addr} {l c n : Nat} (h : NumN w a l c n) : NumS w a l c n := ⟨_, h.1, limbs_limbs n, h.2.1, h.2.2.1, h.2.2.2, val_limbs n⟩
theorem NumS.below {w w' : World} {a : Option Addr} {l c n : Nat} (h : NumS w a l c n) (hb : Below w.heap.size w w') : NumS w' a l c n := by
  obtain ⟨xs, h1, h2⟩ := h; exact ⟨xs, Row.below h1 hb, h2⟩
theorem NumN.below {w w' : World} {a : Option Addr} {l c n : Nat} (h : NumN w a l c n) (hb : Below w.heap.size w w') : NumN w' a l c n := ⟨Row.below h.1 hb, h.2⟩
theorem NumN.lt {w : World} {a : Option Addr} {l c n : Nat} (h : NumN w a l c n) : n < B64 ^ 250 := by
  have := lt_of_limbs n
  refine Nat.lt_of_lt_of_le this (Nat.pow_le_pow_right (by decide) ?_)
  have := h.2.1; have := h.2.2.2; omega
theorem NumS.lt {w : World} {a : Option Addr} {l c n : Nat} (h : NumS w a l c n) : n < B64 ^ l := by
  obtain ⟨xs, _, h2, h3, _, _, h4⟩ := h
  rw [h3, ← h4]; exact val_lt h2
theorem NumN.nil (w : World) (a : Option Addr) (c : Nat) : NumN w a 0 c 0 := ⟨Row.nil _ _ _, rfl, Nat.zero_le _, Nat.zero_le _⟩
theorem trimN_spec {a : Option Addr} {l c n : Nat} {w : World} (h : NumS w a l c n) :
    Calls Tryz.prog 40 #[.slice a l c] w fun e w' => ∃ a', e = .returned (.slice a' (limbs n).length c) ∧ NumN w' a' (limbs n).length c n ∧ (∀ p, a' = some p → ∃ q, a = some q ∧ q.block = p.block) ∧ w' = w := by
  obtain ⟨xs, h1, h2, h3, h4, h5, h6⟩ := h
  have ht : trimmed xs = limbs n := by rw [trimmed_eq h2, h6]
  have hle := trimmed_le xs
  refine (trim_spec h1 h3 h4 (by omega)).mono ?_
  rintro e w' ⟨a', rfl, t1, t2, rfl⟩
  rw [ht] at t1 hle ⊢
  exact ⟨a', rfl, ⟨t1, rfl, by omega, by omega⟩, t2, rfl⟩
end Go.Proofs.YthneejblcffdgaaGreatDoor
