import Derived.Test.YthghiokcinpnlaaDoorTwo
namespace Go.Proofs.YthghiokcinpnlaaDoor
open Go Go.Ev Go.RowKit
set_option maxRecDepth 20000
set_option linter.unusedVariables false

theorem reseed_nil (a : Option Addr) (l c : Nat) (w : World) : Calls Tryd.prog 13 #[.pointer none, .slice a l c] w fun e w' => e = .returned (.tuple #[]) ∧ w' = w := by
  refine calls_of_ev tysOk extsOk Tryd.func13 rfl rfl rfl ?_
  (repeat (first | refine IfP.yes ?_ | refine IfP.no ?_ | refine NilP.go ?_))
  exact ⟨rfl, rfl, rfl⟩
theorem bytes_nil (n : Int) (w : World) : Calls Tryd.prog 12 #[.pointer none, .int .i64 n] w fun e w' => e = .returned (.slice none 0 0) ∧ w' = w := by
  refine calls_of_ev tysOk extsOk Tryd.func12 rfl rfl rfl ?_
  (repeat (first | refine IfP.yes ?_ | refine IfP.no ?_ | refine NilP.go ?_))
  exact ⟨rfl, rfl, rfl⟩
theorem bytes_big (b : Addr) (n : Int) (hn : 65536 < n) (w : World) : Calls Tryd.prog 12 #[.pointer (some b), .int .i64 n] w fun e w' => e = .returned (.slice none 0 0) ∧ w' = w := by
  refine calls_of_ev tysOk extsOk Tryd.func12 rfl rfl rfl ?_
  (repeat (first | refine IfP.yes ?_ | refine IfP.no ?_ | refine NilP.go ?_))
  refine IfP.pos (by simp <;> omega) ?_
  refine IfP.pos (by simp <;> omega) ?_
  refine IfP.neg (by simp <;> omega) ?_
  refine IfP.pos (by simp <;> omega) ?_
  exact ⟨rfl, rfl, rfl⟩
theorem below_nil {xs : List Nat} {a : Option Addr} {l c : Nat} {w : World} (hx : NRow w a xs) (hL : Limbs xs) (hl : l = xs.length) (hc : l ≤ c) (hs : l ≤ 1000000) :
    Calls Tryd.prog 14 #[.pointer none, .slice a l c] w fun e w' => e = .returned (.tuple #[.slice none 0 0, .bool false]) ∧ w' = w := by
  refine calls_of_ev tysOk extsOk Tryd.func14 rfl rfl rfl ?_
  refine CallP.intro (bits_spec hx hL hl hc hs) ?_
  rintro e w1 ⟨k, rfl, _, hw⟩
  have hw := hw.symm
  subst hw
  refine ⟨_, rfl, ?_⟩
  (repeat (first | refine IfP.yes ?_ | refine IfP.no ?_ | refine NilP.go ?_))
  exact ⟨rfl, rfl, rfl⟩
theorem all1_nil {p : Nat} {T : TypeId} (y : Value) {w : World} (h : Blk w p [.pointer none] T) : Calls Tryd.prog 19 #[y, .pointer (some ⟨p, 0, none⟩)] w fun e w' => e = .returned (.tuple #[]) ∧ w' = w := by
  refine calls_of_ev tysOk extsOk Tryd.func19 rfl rfl rfl ?_
  refine LoopP.go (S := Unit) 8184 (by kernel_rfl) (fun _ => []) (fun _ W => W = w) (fun _ => 0) () trivial rfl ?_
  rintro ⟨⟩ j W rfl
  refine LdPt.go (h.cell 0) ?_
  (repeat (first | refine IfP.yes ?_ | refine IfP.no ?_ | refine NilP.go ?_))
  exact ⟨rfl, rfl, rfl⟩
theorem all_spec' (a : Option Addr) (w : World) : Calls Tryd.prog 10 #[.pointer a] w fun e w' => ∃ q, e = .returned (.func (.func 19) #[] #[.pointer (some ⟨q, 0, none⟩)]) ∧ w.heap.size ≤ q ∧ Blk w' q [.pointer a] 25 ∧ Below w.heap.size w w' :=
  (all_spec a w).mono fun e w' ⟨h1, h2, h3⟩ => ⟨_, h1, Nat.le_refl _, h2, h3⟩

set_option maxHeartbeats 1000000 in
theorem drbgNone_spec {kt : List Int} {w : World} (hk : Row w (some ⟨3, 0, none⟩) .u64 kt) (hkl : kt.length = 80) :
    Calls Tryd.prog 5 #[] w fun e w' => e = .returned (.bool true) ∧ Below w.heap.size w w' := by
  have hkl3 : 3 < w.heap.size := by obtain ⟨b, o, h1, h2⟩ := hk 0 (by omega); cases h1; exact cell_lt h2
  refine calls_of_evM tysOk extsOk Tryd.func5 rfl rfl rfl ?_
  have hA : Below w.heap.size w (w.alloc (.cells #[.int .u8 97] 5)) := (Below.refl _ _).alloc (Nat.le_refl _) _
  have hB := Blk.newA w #[.int .u8 97] 5
  refine MarkP.go hB fun w1 c1 b1 s1 => ?_
  have b01 : Below w.heap.size w w1 := hA.trans b1
  refine CallP.same (reseed_nil _ _ _ _) ?_
  have hA4 : Below w1.heap.size w1 (w1.alloc (.cells #[.int .u64 5] 39)) := (Below.refl _ _).alloc (Nat.le_refl _) _
  have hR4 : NRow (w1.alloc (.cells #[.int .u64 5] 39)) (some ⟨w1.heap.size, 0, none⟩) [5] := Row.of_blk 0 (Blk.newA w1 #[.int .u64 5] 39) (by
    intro i hi
    have hi0 : i = 0 := by simp [ints] at hi; omega
    subst hi0; rfl)
  refine CallP.same (below_nil hR4 (by intro x hx; simp at hx; omega) rfl (Nat.le_refl _) (by decide)) ?_
  have b02 := b01.trans (hA4.mono b01.size)
  refine CallP.intro (all_spec' _ _) ?_
  rintro e w3 ⟨q, rfl, q3, x3, b3⟩
  refine ⟨_, rfl, ?_⟩
  have q3 : (w1.alloc (.cells #[.int .u64 5] 39)).heap.size ≤ q := q3
  have b3 : Below (w1.alloc (.cells #[.int .u64 5] 39)).heap.size (w1.alloc (.cells #[.int .u64 5] 39)) w3 := b3
  have b03 := b02.trans (b3.mono b02.size)
  (repeat (first | refine IfP.yes ?_ | refine IfP.no ?_ | refine NilP.go ?_))
  have hA5 : Below w3.heap.size w3 (w3.alloc (.cells #[.int .i64 0] 3)) := (Below.refl _ _).alloc (Nat.le_refl _) _
  have hB5 := Blk.newA w3 #[.int .i64 0] 3
  have b05 := b03.trans (hA5.mono b03.size)
  refine StP.to 0 hB5 rfl (by decide) fun w4 x4 c4 s4 => ?_
  have b04 : Below w.heap.size w w4 := Chg.below ((Chg.of_below (s := fun _ => False) b05).thenC c4 b05.size (fun k hk e => by have := b03.size; omega))
  have x4 : Blk w4 w3.heap.size [.int .i64 0] 3 := x4
  have y4 : Blk w4 q [.pointer none] 25 := (x3.belowS hA5).chg c4 (x3.belowS hA5).lt (by have := x3.lt; omega)
  refine DrawP.rangeA tysOk extsOk rfl (by kernel_rfl) rfl rfl rfl ?_
  rintro rc d w6 hd hdm hlp hb6 hs6 hy
  refine (all1_nil _ (y4.belowS hb6)).mono ?_
  rintro e W ⟨rfl, rfl⟩
  refine ⟨_, rfl, .inl ⟨hlp, ?_⟩⟩
  have hw4 := b04.size
  have b06 : Below w.heap.size w W := b04.trans (hb6.mono hw4)
  have hc7 : Chg W.heap.size (fun k => k = d + 1) W (W.putObj (d + 1) (.loop (rc .exhausted none))) := (Chg.refl _ _ _).put _ _ (fun _ => rfl)
  generalize W.putObj (d + 1) (.loop (rc .exhausted none)) = w7 at hc7 ⊢
  have hdm7 : w7.heap[d]? = some (.deferred (some [])) := by rw [hc7.block d (by omega) (by omega)]; exact hdm
  have x7 : Blk w7 w3.heap.size [.int .i64 0] 3 := (x4.belowS hb6).chg hc7 (x4.belowS hb6).lt (by have := x4.lt; omega)
  have b07 : Below w.heap.size w w7 := Chg.below ((Chg.of_below (s := fun _ => False) b06).thenC hc7 b06.size (fun k hk e => by omega))
  have hs7 := hc7.size
  refine CallP.intro (newD_spec (Row.nil _ none .u8) rfl (by decide) (hk.below b07) hkl) ?_
  rintro e w8 ⟨db, rfl, d8, g8, b8⟩
  refine ⟨_, rfl, ?_⟩
  have b08 := b07.trans (b8.mono b07.size)
  refine CallP.same (bytes_big _ _ (by decide) _) ?_
  refine CallP.intro (begun_spec (hk.below b08) hkl) ?_
  rintro e w9 ⟨rfl, b9⟩
  refine ⟨_, rfl, ?_⟩
  have b09 := b08.trans (b9.mono b08.size)
  (repeat (first | refine IfP.yes ?_ | refine IfP.no ?_ | refine NilP.go ?_))
  refine CallP.same (bytes_nil _ _) ?_
  (repeat (first | refine IfP.yes ?_ | refine IfP.no ?_ | refine NilP.go ?_))
  refine CallP.same (left_nil _) ?_
  (repeat (first | refine IfP.yes ?_ | refine IfP.no ?_ | refine NilP.go ?_))
  refine LdI.go ((((x7.belowS b8).belowS b9)).cell 0) ?_
  (repeat (first | refine IfP.yes ?_ | refine IfP.no ?_ | refine NilP.go ?_))
  refine CallP.same (left_spec (d8.below b9)) ?_
  (repeat (first | refine IfP.yes ?_ | refine IfP.no ?_ | refine NilP.go ?_))
  have hsz8 := b8.size
  have hdm9 : w9.heap[d]? = some (.deferred (some [])) := by rw [b9.block d (by omega), b8.block d (by omega)]; exact hdm7
  refine .inr ⟨d, rfl, hdm9, rfl, ?_⟩
  exact Chg.below ((Chg.of_below (s := fun _ => False) b09).put _ _ (fun h => by omega))
end Go.Proofs.YthghiokcinpnlaaDoor
