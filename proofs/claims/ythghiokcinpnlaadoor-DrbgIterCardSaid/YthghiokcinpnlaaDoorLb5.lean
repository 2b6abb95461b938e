import Derived.Test.YthghiokcinpnlaaDoorLb4
namespace Go.Proofs.YthghiokcinpnlaaDoor
open Go Go.Ev Go.RowKit
set_option maxRecDepth 20000
set_option linter.unusedVariables false

def cmpFrom (a b : List Nat) : Nat → Int
  | 0 => 0
  | m + 1 => if a.getD m 0 = b.getD m 0 then cmpFrom a b m else if a.getD m 0 < b.getD m 0 then -1 else 1
def cmpN (a b : List Nat) : Int := if a.length = b.length then cmpFrom a b a.length else if a.length < b.length then -1 else 1

theorem cmp_spec {xs ys : List Nat} {a b : Option Addr} {l c l2 c2 : Nat} {w : World} (hx : NRow w a xs) (hl : l = xs.length) (hc : l ≤ c) (hs : l ≤ 1000000) (hy : NRow w b ys) (hl2 : l2 = ys.length) (hc2 : l2 ≤ c2) (hs2 : l2 ≤ 1000000) :
    Calls Tryd.prog 32 #[.slice a l c, .slice b l2 c2] w fun e w' => e = .returned (.int .i64 (cmpN (trimmed xs) (trimmed ys))) ∧ Below w.heap.size w w' ∧ w'.heap = w.heap := by
  refine calls_of_ev tysOk extsOk Tryd.func32 rfl rfl rfl ?_
  refine CallP.intro (trim_spec hx hl hc hs) ?_
  rintro e w1 ⟨a', rfl, h1, h2, hw⟩
  have hw := hw.symm
  subst hw
  refine ⟨_, rfl, ?_⟩
  refine CallP.intro (trim_spec hy hl2 hc2 hs2) ?_
  rintro e w1 ⟨b', rfl, g1, g2, hw⟩
  have hw := hw.symm
  subst hw
  refine ⟨_, rfl, ?_⟩
  have lx : (trimmed xs).length ≤ 1000000 := by rw [trimmed_length]; exact Nat.le_trans (trimLen_le _ _) (by omega)
  generalize hX : trimmed xs = X at *
  generalize hY : trimmed ys = Y at *
  refine IfP.bne (fun hne => ?_) (fun heq => ?_)
  · have hne' : ¬ X.length = Y.length := by omega
    refine IfP.dec (fun hlt => ?_) (fun hge => ?_)
    · refine ⟨rfl, ?_, Below.refl _ _, rfl⟩
      unfold cmpN; rw [if_neg hne', if_pos (by omega)]; rfl
    · refine ⟨rfl, ?_, Below.refl _ _, rfl⟩
      unfold cmpN; rw [if_neg hne', if_neg (by omega)]; rfl
  · have heq' : X.length = Y.length := by omega
    have hcmp : cmpN X Y = cmpFrom X Y X.length := by unfold cmpN; rw [if_pos heq']
    rw [hcmp]
    have e0 : IntKind.i64.wrap ((X.length : Int) - 1) = (X.length : Int) - 1 := IntWalk.i64_in _ (by omega)
    refine LoopP.go (S := Nat) 35184363700272 (by kernel_rfl) (fun m => [(5, .int .i64 ((m : Int) - 1))]) (fun m W => m ≤ X.length ∧ cmpFrom X Y m = cmpFrom X Y X.length ∧ W.heap = w.heap ∧ Below w.heap.size w W) (fun m => m) X.length
      ⟨congrArg (Value.int .i64) e0, trivial⟩ ⟨Nat.le_refl _, rfl, rfl, Below.refl _ _⟩ ?_
    rintro m j W ⟨k1, k2, k3, k4⟩
    refine IfP.dec (fun hge => ?_) (fun hlt => ?_)
    · obtain ⟨n, rfl⟩ : ∃ n, m = n + 1 := ⟨m - 1, by omega⟩
      have hsub : (((n + 1 : Nat) : Int) - 1) = (n : Int) := by omega
      have r1 : NRow W a' X := Row.below h1 k4
      have r2 : NRow W b' Y := Row.below g1 k4
      refine DrawP.still tysOk extsOk mixed (by kernel_rfl) rfl ?_
      refine IdxP.ld n hsub (Row.drw r1) (ints_length _).symm (by omega) fun _ _ _ => ?_
      refine IdxP.ld n hsub (Row.drw r2) (ints_length _).symm (by omega) fun _ _ _ => ?_
      rw [ints_getD, ints_getD]
      refine IfP.bne (fun hne => ?_) (fun he => ?_)
      · have hne' : ¬ X.getD n 0 = Y.getD n 0 := by omega
        refine DrawP.still tysOk extsOk mixed (by kernel_rfl) rfl ?_
        refine IdxP.ld n hsub (Row.drw (Row.drw r1)) (ints_length _).symm (by omega) fun _ _ _ => ?_
        refine IdxP.ld n hsub (Row.drw (Row.drw r2)) (ints_length _).symm (by omega) fun _ _ _ => ?_
        rw [ints_getD, ints_getD]
        refine IfP.dec (fun hlt => ?_) (fun hge => ?_)
        · refine ⟨rfl, ?_, k4.drew.drew, k3⟩
          rw [← k2]; unfold cmpFrom; rw [if_neg hne', if_pos (by omega)]; rfl
        · refine ⟨rfl, ?_, k4.drew.drew, k3⟩
          rw [← k2]; unfold cmpFrom; rw [if_neg hne', if_neg (by omega)]; rfl
      · have enext : IntKind.i64.wrap (((n + 1 : Nat) : Int) - 1 - 1) = ((n : Int) - 1) := by rw [hsub]; exact IntWalk.i64_in _ (by omega)
        refine ⟨rfl, n, ⟨⟨congrArg (Value.int .i64) enext, trivial⟩, by omega, ?_, k3, k4.drew⟩, by omega⟩
        rw [← k2]
        show cmpFrom X Y n = if X.getD n 0 = Y.getD n 0 then cmpFrom X Y n else _
        rw [if_pos (by omega)]
    · have hm : m = 0 := by omega
      subst hm
      refine ⟨rfl, ?_, k4, k3⟩
      rw [← k2]; rfl

theorem bits_spec {xs : List Nat} {a : Option Addr} {l c : Nat} {w : World} (hx : NRow w a xs) (hL : Limbs xs) (hl : l = xs.length) (hc : l ≤ c) (hs : l ≤ 1000000) :
    Calls Tryd.prog 22 #[.slice a l c] w fun e w' => ∃ k : Nat, e = .returned (.int .i64 k) ∧ ((trimmed xs = [] ∧ k = 0) ∨ (∃ n, LenOk ((trimmed xs).getD ((trimmed xs).length - 1) 0) n ∧ n ≤ 64 ∧ 0 < (trimmed xs).length ∧ k = 64 * ((trimmed xs).length - 1) + n)) ∧ w' = w := by
  refine calls_of_ev tysOk extsOk Tryd.func22 rfl rfl rfl ?_
  refine CallP.intro (trim_spec hx hl hc hs) ?_
  rintro e w1 ⟨a', rfl, h1, h2, hw⟩
  have hw := hw.symm
  subst hw
  refine ⟨_, rfl, ?_⟩
  have lx : (trimmed xs).length ≤ 1000000 := by rw [trimmed_length]; exact Nat.le_trans (trimLen_le _ _) (by omega)
  have hLt := hL.trimmed
  generalize hX : trimmed xs = X at *
  refine IfP.beq (fun h0 => ?_) (fun h0 => ?_)
  · have : X = [] := List.eq_nil_of_length_eq_zero (by omega)
    exact ⟨rfl, 0, rfl, .inl ⟨this, rfl⟩, rfl⟩
  · have e1 : IntKind.i64.wrap ((X.length : Int) - 1) = ((X.length - 1 : Nat) : Int) := by rw [show (X.length : Int) - 1 = ((X.length - 1 : Nat) : Int) by omega]; exact i64_of _ (by omega)
    refine IdxP.ld (X.length - 1) e1 h1 (ints_length _).symm (by omega) fun _ _ _ => ?_
    rw [ints_getD]
    refine CallP.intro (len64_spec _ (hLt.getD _) _) ?_
    rintro e w2 ⟨n, rfl, hn, hw⟩
    have hw := hw.symm
    subst hw
    have hn64 : n ≤ 64 := by
      rcases Nat.lt_or_ge 64 n with h | h
      · rcases hn.2 with h2 | h2
        · omega
        · have h3 : 2 ^ 64 ≤ 2 ^ (n - 1) := Nat.pow_le_pow_right (by decide) (by omega)
          have := hLt.getD (X.length - 1)
          omega
      · exact h
    refine ⟨_, rfl, rfl, 64 * (X.length - 1) + n, ?_, .inr ⟨n, hn, hn64, by omega, rfl⟩, rfl⟩
    have e2 : IntKind.i64.wrap (IntKind.i64.wrap (64 * IntKind.i64.wrap ((X.length : Int) - 1)) + (n : Int)) = ((64 * (X.length - 1) + n : Nat) : Int) := by
      rw [e1, show (64 * ((X.length - 1 : Nat) : Int)) = ((64 * (X.length - 1) : Nat) : Int) by omega, i64_of _ (by omega), show (((64 * (X.length - 1) : Nat) : Int) + (n : Int)) = ((64 * (X.length - 1) + n : Nat) : Int) by omega, i64_of _ (by omega)]
    exact congrArg (fun v => Ending.returned (Value.int .i64 v)) e2
end Go.Proofs.YthghiokcinpnlaaDoor
