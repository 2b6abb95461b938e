import Derived.Test.YthghiokcinpnlaaDoorLb6
namespace Go.Proofs.YthghiokcinpnlaaDoor
open Go Go.Ev Go.RowKit
set_option maxRecDepth 20000
set_option linter.unusedVariables false

theorem cmpN_neg {X Y : List Nat} (h : cmpN X Y < 0) : X.length ≤ Y.length := by
  unfold cmpN at h
  split at h
  · rename_i e; omega
  · split at h
    · omega
    · omega
theorem trimmed_le (xs : List Nat) : (trimmed xs).length ≤ xs.length := by rw [trimmed_length]; exact trimLen_le _ _
/-- division by one limb: what is left is at most one limb long. -/
theorem quo1_spec {xs ys : List Nat} {a b : Option Addr} {l c l2 c2 d : Nat} {w : World} (hx : NRow w a xs) (hL : Limbs xs) (hl : l = xs.length) (hc : l ≤ c) (hs : l ≤ 1000000) (hy : NRow w b ys) (hl2 : l2 = ys.length) (hc2 : l2 ≤ c2) (hs2 : l2 ≤ 1000000)
    (hd : trimmed ys = [d]) (hd0 : 0 < d) (hd1 : d < 18446744073709551616) :
    Calls Tryd.prog 23 #[.slice a l c, .slice b l2 c2] w fun e w' => ∃ qa ql qc ra rl rc, e = .returned (.tuple #[.slice qa ql qc, .slice ra rl rc, .bool true]) ∧ rl ≤ 1 ∧ Below w.heap.size w w' := by
  refine calls_of_ev tysOk extsOk Tryd.func23 rfl rfl rfl ?_
  refine CallP.intro (trim_spec hx hl hc hs) ?_
  rintro e w1 ⟨a', rfl, h1, h2, hw⟩
  have hw := hw.symm
  subst hw
  refine ⟨_, rfl, ?_⟩
  refine CallP.intro (trim_spec hy hl2 hc2 hs2) ?_
  rintro e w1 ⟨b', rfl, g1, g2, hw⟩
  have hw := hw.symm
  subst hw
  refine ⟨_, rfl, ?_⟩
  have tx := trimmed_le xs
  rw [hd] at g1 ⊢
  have hLt := hL.trimmed
  obtain ⟨X, hX⟩ : ∃ X, trimmed xs = X := ⟨_, rfl⟩
  rw [hX] at tx h1 hLt ⊢
  refine IfP.neg rfl ?_
  refine CallP.intro (cmp_spec h1 rfl (by omega) (by omega) g1 rfl (by show 1 ≤ c2; have := trimmed_le ys; rw [hd] at this; simp at this; omega) (by show 1 ≤ 1000000; omega)) ?_
  rintro e w2 ⟨rfl, k1, k2⟩
  refine ⟨_, rfl, ?_⟩
  refine IfP.dec (fun hlt => ?_) (fun hge => ?_)
  · refine CallP.intro (made_spec (Row.below h1 k1) rfl (by omega) (by omega)) ?_
    rintro e w3 ⟨a3, c3, o3, rfl, q1, q2, q3⟩
    refine ⟨_, rfl, rfl, none, 0, 0, a3, _, c3, rfl, ?_, k1.trans (q3.mono k1.size)⟩
    have h3 := cmpN_neg hlt
    have h4 := trimmed_le [d]
    simp at h4
    omega
  · refine IfP.pos rfl ?_
    refine IdxP.ld 0 rfl (Row.below g1 k1) rfl Nat.one_pos fun _ _ _ => ?_
    rw [ints_getD]
    refine CallP.intro (small_spec (d := d) (Row.below h1 k1) hLt rfl (by omega) hd0 hd1) ?_
    rintro e w3 ⟨Q, r, a3, c3, rfl, q1, q2, q3, q4, q5, q6, q7⟩
    refine ⟨_, rfl, ?_⟩
    refine CallP.intro ofN_spec ?_
    rintro e w4 ⟨a4, c4, o4, rfl, p1, p2, p3⟩
    have hB := k1.trans (q7.mono k1.size)
    refine ⟨_, rfl, rfl, _, _, _, a4, _, c4, rfl, ?_, hB.trans (p3.mono hB.size)⟩
    have h4 := trimmed_le [r]
    simpa using h4
end Go.Proofs.YthghiokcinpnlaaDoor
