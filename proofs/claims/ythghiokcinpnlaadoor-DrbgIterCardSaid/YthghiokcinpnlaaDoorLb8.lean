import Derived.Test.YthghiokcinpnlaaDoorLb7
namespace Go.Proofs.YthghiokcinpnlaaDoor
open Go Go.Ev Go.RowKit
set_option maxRecDepth 20000
set_option linter.unusedVariables false

/-- Below of 10: a number of one limb at most. -/
theorem below10_spec {kt K V : List Int} {m : Int} {db : Nat} {b : Option Addr} {w : World} (hd : DAt w db K V m) (hy : NRow w b [10])
    (hb : ∀ p, b = some p → p.block ≠ db) (hk : Row w (some ⟨3, 0, none⟩) .u64 kt) (hkl : kt.length = 80) (hk0 : 3 ≠ db) :
    Calls Tryd.prog 14 #[.pointer (some ⟨db, 0, none⟩), .slice b 1 1] w fun e w' => ∃ ra rl rc, e = .returned (.tuple #[.slice ra rl rc, .bool true]) ∧ rl ≤ 1 ∧
      (∃ K' V', DAt w' db K' V' (IntKind.i64.wrap (m + 1))) ∧ Chg w.heap.size (fun k => k = db) w w' := by
  refine calls_of_ev tysOk extsOk Tryd.func14 rfl rfl rfl ?_
  have hL : Limbs [10] := by intro x hx; simp at hx; omega
  have ht : trimmed [10] = [10] := by decide
  refine CallP.intro (bits_spec hy hL rfl (Nat.le_refl _) (by decide)) ?_
  rintro e w1 ⟨k, rfl, hk4, hw⟩
  have hw := hw.symm
  subst hw
  refine ⟨_, rfl, ?_⟩
  have hk4 : k = 4 := by
    rcases hk4 with ⟨h1, _⟩ | ⟨n, h1, h2, h3, h4⟩
    · rw [ht] at h1; cases h1
    · rw [ht] at h1 h4
      obtain ⟨h5, h6⟩ := h1
      simp at h5 h6 h4
      have hn : n = 4 := by
        rcases Nat.lt_or_ge n 4 with h | h
        · have : 2 ^ n ≤ 2 ^ 3 := Nat.pow_le_pow_right (by decide) (by omega)
          omega
        · rcases Nat.lt_or_ge 4 n with h' | h'
          · have : 2 ^ 4 ≤ 2 ^ (n - 1) := Nat.pow_le_pow_right (by decide) (by omega)
            omega
          · omega
      omega
  subst hk4
  refine IfP.yes ?_
  refine IfP.yes ?_
  refine IfP.no ?_
  refine IfP.yes ?_
  refine IfP.yes ?_
  refine IfP.no ?_
  refine IfP.neg (by decide) ?_
  refine ChkP.go (by decide) ?_
  refine CallP.intro (bytes_spec (n := 9) hd (by decide) (by decide) hk hkl hk0) ?_
  rintro e w2 ⟨ob, rfl, h1, h2, h3, h4⟩
  refine ⟨_, rfl, ?_⟩
  refine CallP.intro (fromBytes_spec h1 (bytesOf_length 9).symm (by decide)) ?_
  rintro e w3 ⟨xs, a', c', rfl, g1, g2, g3, g4, g5, g6⟩
  refine ⟨_, rfl, ?_⟩
  have hy3 : NRow w3 b [10] := Row.below (Row.chg hy h4 (fun p hp => hb p hp)) g6
  have hlt := trimmed_le xs
  refine CallP.intro (quo1_spec (d := 10) g1 g2.trimmed rfl g4 (by omega) hy3 rfl (Nat.le_refl _) (by decide) ht (by decide) (by decide)) ?_
  rintro e w4 ⟨qa, ql, qc, ra, rl, rc, rfl, q1, q2⟩
  refine ⟨_, rfl, rfl, ra, rl, rc, rfl, q1, ⟨_, _, (h3.below g6).below q2⟩, ?_⟩
  exact (h4.thenB g6 h4.size).thenB q2 (Nat.le_trans h4.size g6.size)

theorem left_spec {K V : List Int} {m : Int} {db : Nat} {w : World} (hd : DAt w db K V m) : Calls Tryd.prog 15 #[.pointer (some ⟨db, 0, none⟩)] w fun e w' => e = .returned (.int .i64 m) ∧ w' = w := by
  obtain ⟨ka, kc, va, vc, h1, h2, h3, h4, h5, h6, h7⟩ := hd
  refine calls_of_ev tysOk extsOk Tryd.func15 rfl rfl rfl ?_
  refine IfP.no ?_
  refine NilP.go ?_
  refine LdI.go (h1.cell 2) ?_
  exact ⟨rfl, rfl, rfl⟩
theorem left_nil (w : World) : Calls Tryd.prog 15 #[.pointer none] w fun e w' => e = .returned (.int .i64 0) ∧ w' = w := by
  refine calls_of_ev tysOk extsOk Tryd.func15 rfl rfl rfl ?_
  refine IfP.yes ?_
  exact ⟨rfl, rfl, rfl⟩
theorem all_spec (a : Option Addr) (w : World) : Calls Tryd.prog 10 #[.pointer a] w fun e w' => e = .returned (.func (.func 19) #[] #[.pointer (some ⟨w.heap.size, 0, none⟩)]) ∧ Blk w' w.heap.size [.pointer a] 25 ∧ Below w.heap.size w w' := by
  refine calls_of_ev tysOk extsOk Tryd.func10 rfl rfl rfl ?_
  exact ⟨rfl, rfl, Blk.newA _ _ _, (Below.refl _ _).alloc (Nat.le_refl _) _⟩
end Go.Proofs.YthghiokcinpnlaaDoor
