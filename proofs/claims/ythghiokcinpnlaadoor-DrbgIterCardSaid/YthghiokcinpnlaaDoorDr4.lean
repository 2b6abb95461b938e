import Derived.Test.YthghiokcinpnlaaDoorDr3
namespace Go.Proofs.YthghiokcinpnlaaDoor
open Go Go.Ev Go.RowKit
set_option maxRecDepth 20000
set_option linter.unusedVariables false

def newKV (kt data : List Int) : List Int × List Int := updKV kt (List.replicate 32 0, List.replicate 32 1) data
theorem newD_spec {kt data : List Int} {a : Option Addr} {l c : Nat} {w : World} (hr : Row w a .u8 data) (hl : l = data.length) (h9 : l ≤ 100000000)
    (hk : Row w (some ⟨3, 0, none⟩) .u64 kt) (hkl : kt.length = 80) :
    Calls Tryd.prog 8 #[.slice a l c] w fun e w' => ∃ db, e = .returned (.pointer (some ⟨db, 0, none⟩)) ∧ DAt w' db (newKV kt data).1 (newKV kt data).2 0 ∧ w.heap.size ≤ db ∧ Below w.heap.size w w' := by
  have hkl3 : 3 < w.heap.size := by obtain ⟨b, o, h1, h2⟩ := hk 0 (by omega); cases h1; exact cell_lt h2
  refine calls_of_ev tysOk extsOk Tryd.func8 rfl rfl rfl ?_
  refine DrawP.any tysOk extsOk mixed (.alt 0 (.alt 1 (.alt 2 (.alt 3 (.alt 4 (.take 5 (.done)) (.done)) (.done)) (.done)) (.done)) (.alt 1 (.alt 0 (.alt 2 (.alt 3 (.alt 4 (.take 5 (.done)) (.done)) (.done)) (.done)) (.alt 2 (.alt 0 (.alt 3 (.alt 4 (.take 5 (.done)) (.done)) (.done)) (.done)) (.done))) (.done))) 504 (by kernel_rfl) (by kernel_rfl)
    (S := Nat) (fun s => [(3, .pointer (some ⟨s, 0, none⟩))]) (fun s W => DAt W s (List.replicate 32 0) (List.replicate 32 1) 0 ∧ w.heap.size ≤ s ∧ Below w.heap.size w W) ?_ ?_
  · have hb0 : Below w.heap.size w { w with drawn := w.drawn + 1 } := (Below.refl _ _).drew
    have hs0 : ({ w with drawn := w.drawn + 1 } : World).heap.size = w.heap.size := rfl
    generalize ({ w with drawn := w.drawn + 1 } : World) = v at hb0 hs0 ⊢
    have one : ∀ u : World, Row (u.alloc (.cells #[.int .u8 1] 5)) (some ⟨u.heap.size, 0, none⟩) .u8 [1] ∧ Below u.heap.size u (u.alloc (.cells #[.int .u8 1] 5)) := by
      intro u
      refine ⟨Row.of_blk 0 (Blk.newA u #[.int .u8 1] 5) ?_, (Below.refl _ _).alloc (Nat.le_refl _) _⟩
      intro i hi
      have hi0 : i = 0 := by simp at hi; omega
      subst hi0; rfl
    have fin : ∀ (u : World) (kb vb : Nat), Below w.heap.size w u → Buf .u8 5 u kb (List.replicate 32 0) 32 → Row u (some ⟨vb, 0, none⟩) .u8 (List.replicate 32 1) →
        DAt (u.alloc (.cells #[.slice (some ⟨kb, 0, none⟩) 32 32, .slice (some ⟨vb, 0, none⟩) 32 32, .int .i64 0] 42)) u.heap.size (List.replicate 32 0) (List.replicate 32 1) 0 ∧ w.heap.size ≤ u.heap.size ∧ Below w.heap.size w (u.alloc (.cells #[.slice (some ⟨kb, 0, none⟩) 32 32, .slice (some ⟨vb, 0, none⟩) 32 32, .int .i64 0] 42)) := by
      intro u kb vb h1 h2 h3
      have hkb := h2.lt
      have hvb : vb < u.heap.size := by obtain ⟨b, o, e1, e2⟩ := h3 0 (by simp); cases e1; exact cell_lt e2
      refine ⟨⟨_, _, _, _, Blk.newA u #[.slice (some ⟨kb, 0, none⟩) 32 32, .slice (some ⟨vb, 0, none⟩) 32 32, .int .i64 0] 42, h2.row.alloc _, h3.alloc _, by simp, by simp, ?_, ?_⟩, h1.size, h1.alloc h1.size _⟩
      · intro p hp; cases hp; exact ⟨Nat.ne_of_lt hkb, by rw [size_alloc]; exact Nat.lt_succ_of_lt hkb⟩
      · intro p hp; cases hp; exact ⟨Nat.ne_of_lt hvb, by rw [size_alloc]; exact Nat.lt_succ_of_lt hvb⟩
    refine ⟨?_, ?_, trivial⟩
    · refine Mk.to 32 32 rfl rfl (Nat.le_refl _) (by omega) rfl fun v1 p1 a1 s1 => ⟨⟨?_, trivial⟩, trivial⟩
      refine CallP.intro (repeat_spec (one v1).1) ?_
      rintro e v2 ⟨vb, rfl, b1, b2, b3, b4⟩
      have hB1 := (hb0.trans (a1.mono hb0.size))
      have hB2 := (one v1).2.trans (b4.mono (one v1).2.size)
      exact ⟨_, rfl, ⟨⟨v2.heap.size, ⟨rfl, trivial⟩, fin v2 v.heap.size vb (hB1.trans (hB2.mono hB1.size)) (p1.below hB2) b3⟩, trivial⟩, trivial⟩
    · refine ⟨?_, ?_, trivial⟩
      · refine Mk.to 32 32 rfl rfl (Nat.le_refl _) (by omega) rfl fun v1 p1 a1 s1 => ⟨?_, trivial⟩
        refine CallP.intro (repeat_spec ((one v).1.below a1)) ?_
        rintro e v2 ⟨vb, rfl, b1, b2, b3, b4⟩
        have hB1 := hb0.trans ((one v).2.mono hb0.size)
        have hB2 := hB1.trans (a1.mono hB1.size)
        exact ⟨_, rfl, ⟨⟨v2.heap.size, ⟨rfl, trivial⟩, fin v2 _ vb (hB2.trans (b4.mono hB2.size)) (p1.below b4) b3⟩, trivial⟩, trivial⟩
      · refine CallP.intro (repeat_spec (one v).1) ?_
        rintro e v2 ⟨vb, rfl, b1, b2, b3, b4⟩
        refine ⟨_, rfl, ?_, trivial⟩
        have hB1 := hb0.trans ((one v).2.mono hb0.size)
        have hB2 := hB1.trans (b4.mono hB1.size)
        refine Mk.to 32 32 rfl rfl (Nat.le_refl _) (by omega) rfl fun v3 p1 a1 s1 => ?_
        exact ⟨⟨⟨v3.heap.size, ⟨rfl, trivial⟩, fin v3 _ vb (hB2.trans (a1.mono hB2.size)) p1 (b3.below a1)⟩, trivial⟩, trivial⟩
  rintro db j W ⟨g1, g2, g3⟩
  refine CallP.intro (update_spec g1 (hr.below g3) hl h9 (hk.below g3) hkl (by omega)) ?_
  rintro e W2 ⟨rfl, h1, h2⟩
  refine ⟨_, rfl, rfl, db, rfl, h1, g2, ?_⟩
  exact Chg.below ((Chg.of_below (s := fun _ => False) g3).thenC h2 g3.size (fun k hk e => by omega))
end Go.Proofs.YthghiokcinpnlaaDoor
