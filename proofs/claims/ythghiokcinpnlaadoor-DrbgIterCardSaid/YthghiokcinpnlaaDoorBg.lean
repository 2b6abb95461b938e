import Derived.Test.YthghiokcinpnlaaDoorLb8
namespace Go.Proofs.YthghiokcinpnlaaDoor
open Go Go.Ev Go.RowKit
set_option maxRecDepth 20000
set_option linter.unusedVariables false

theorem MarkP.go {w : World} {b o : Nat} {cs : List Value} {T : TypeId} {k : World → Prop} (h : Blk w b cs T) (hk : ∀ w', (∀ q v, w.cell? q = some v → w'.cell? q = some v) → Below b w w' → w'.heap.size = w.heap.size → k w') : MarkP ⟨b, o, none⟩ k w := by
  refine ⟨⟨_, _, _, h, hk _ ?_ ?_ ?_⟩⟩
  · intro q v hq
    rw [← hq]
    unfold World.freeze
    rw [if_neg (by decide)]
    simp only [World.cell?, Array.getElem?_modify]
    by_cases hb : b = q.block
    · rw [if_pos hb]
      cases hx : w.heap[q.block]? with
      | none => rfl
      | some ob => cases ob <;> rfl
    · rw [if_neg hb]
  · refine ⟨rfl, rfl, rfl, ?_, fun k hk => ?_⟩
    · unfold World.freeze; rw [if_neg (by decide)]; simp
    · unfold World.freeze; rw [if_neg (by decide)]; simp only [Array.getElem?_modify]
      rw [if_neg (by show ¬ b = k; omega)]
  · unfold World.freeze; rw [if_neg (by decide)]; simp

theorem begun_spec {kt : List Int} {w : World} (hk : Row w (some ⟨3, 0, none⟩) .u64 kt) (hkl : kt.length = 80) :
    Calls Tryd.prog 6 #[] w fun e w' => e = .returned (.bool true) ∧ Below w.heap.size w w' := by
  have hkl3 : 3 < w.heap.size := by obtain ⟨b, o, h1, h2⟩ := hk 0 (by omega); cases h1; exact cell_lt h2
  refine calls_of_ev tysOk extsOk Tryd.func6 rfl rfl rfl ?_
  have hA : Below w.heap.size w (w.alloc (.cells #[.int .u8 116, .int .u8 97, .int .u8 112, .int .u8 101] 5)) := (Below.refl _ _).alloc (Nat.le_refl _) _
  have hB := Blk.newA w #[.int .u8 116, .int .u8 97, .int .u8 112, .int .u8 101] 5
  refine MarkP.go hB fun w1 c1 b1 s1 => ?_
  have b01 : Below w.heap.size w w1 := hA.trans b1
  have hR : Row w1 (some ⟨w.heap.size, 0, none⟩) .u8 [116, 97, 112, 101] := (Row.of_blk 0 hB (by
    intro i hi
    rcases i with _ | _ | _ | _ | i
    · rfl
    · rfl
    · rfl
    · rfl
    · exact absurd hi (by simp))).cells c1
  have hs1 : w.heap.size < w1.heap.size := by rw [s1, size_alloc]; omega
  refine CallP.intro (newD_spec hR rfl (by decide) (hk.below b01) hkl) ?_
  rintro e w2 ⟨db, rfl, d2, g2, b2⟩
  refine ⟨_, rfl, ?_⟩
  have b02 := b01.trans (b2.mono b01.size)
  have hdb : w.heap.size < db := Nat.lt_of_lt_of_le hs1 g2
  refine IfP.no ?_
  refine CallP.intro (bytes_spec (n := 5) d2 (by decide) (by decide) (hk.below b02) hkl (by omega)) ?_
  rintro e w3 ⟨ob, rfl, h1, h2, d3, c3⟩
  refine ⟨_, rfl, ?_⟩
  have b03 : Below w.heap.size w w3 := Chg.below ((Chg.of_below (s := fun _ => False) b02).thenC c3 b02.size (fun k hk e => by omega))
  have hA4 : Below w3.heap.size w3 (w3.alloc (.cells #[.int .u64 10] 39)) := (Below.refl _ _).alloc (Nat.le_refl _) _
  have hR4 : NRow (w3.alloc (.cells #[.int .u64 10] 39)) (some ⟨w3.heap.size, 0, none⟩) [10] := Row.of_blk 0 (Blk.newA w3 #[.int .u64 10] 39) (by
    intro i hi
    have hi0 : i = 0 := by simp [ints] at hi; omega
    subst hi0; rfl)
  have hdb3 := d3.lt
  refine CallP.intro (below10_spec (d3.below hA4) hR4 (by intro p hp; cases hp; show w3.heap.size ≠ db; omega) ((hk.below b03).below hA4) hkl (by omega)) ?_
  rintro e w5 ⟨ra, rl, rc, rfl, hrl, ⟨K5, V5, d5⟩, c5⟩
  refine ⟨_, rfl, ?_⟩
  have b04 := b03.trans (hA4.mono b03.size)
  have b05 : Below w.heap.size w w5 := Chg.below ((Chg.of_below (s := fun _ => False) b04).thenC c5 b04.size (fun k hk e => by omega))
  refine CallP.intro (all_spec _ _) ?_
  rintro e w6 ⟨rfl, x6, b6⟩
  refine ⟨_, rfl, ?_⟩
  have d6 := d5.below b6
  have b06 := b05.trans (b6.mono b05.size)
  iterate 4 refine IfP.yes ?_
  iterate 2 refine IfP.pos rfl ?_
  iterate 4 refine IfP.yes ?_
  refine IfP.pos (decide_eq_true (by omega)) ?_
  refine IfP.yes ?_
  refine CallP.same (left_spec d6) ?_
  iterate 2 refine IfP.yes ?_
  exact ⟨rfl, by rfl, b06⟩
end Go.Proofs.YthghiokcinpnlaaDoor
