/- Texts of this proof, one behind the other: Hc3 EvAny Hc4. -/
import Derived.Test.YthneejblcffdgaaGreatDoorPart7
import Derived.Test.YthneejblcffdgaaGreatDoorPart6
import Derived.Orders
namespace Go.Proofs.YthneejblcffdgaaGreatDoor
open Go Go.Ev Go.RowKit
set_option maxRecDepth 20000
set_option linter.unusedVariables false

/-- the blocks of a message, one after another. -/
def absorb (kt hs all : List Int) : Nat → List Int
  | 0 => hs
  | i + 1 => compress kt (absorb kt hs all i) ((all.drop (64 * i)).take 64)
theorem absorb_length (kt hs all : List Int) (h : hs.length = 8) : ∀ i, (absorb kt hs all i).length = 8
  | 0 => h
  | i + 1 => by rw [absorb, compress_length, absorb_length kt hs all h i]
def mixH (kt hs all : List Int) : List Int := absorb kt hs all (all.length / 64)
def mixR (all : List Int) : List Int := all.drop (64 * (all.length / 64))
theorem mixR_length (all : List Int) : (mixR all).length < 64 := by simp [mixR]; omega

/-- a hash lies at hb: its words, what waits, its count; the block of what waits is wo. -/
def HashAt (w : World) (hb : Nat) (hs rest : List Int) (n : Int) (wo : Option Nat) : Prop :=
  ∃ a l c, Blk w hb (hcells 3 hs (.slice a l c) n) 135 ∧ OwnS .u8 5 w a l c rest wo ∧ hs.length = 8 ∧ wo ≠ some hb
theorem HashAt.lt {w : World} {hb : Nat} {hs rest : List Int} {n : Int} {wo : Option Nat} (h : HashAt w hb hs rest n wo) : hb < w.heap.size := by obtain ⟨a, l, c, h, _⟩ := h; exact h.lt
theorem HashAt.wlt {w : World} {hb : Nat} {hs rest : List Int} {n : Int} {wo : Option Nat} (h : HashAt w hb hs rest n wo) : ∀ b, wo = some b → b < w.heap.size := by obtain ⟨a, l, c, _, h, _⟩ := h; exact h.lt
theorem HashAt.chg {w w' : World} {B hb : Nat} {s : Nat → Prop} {hs rest : List Int} {n : Int} {wo : Option Nat} (h : HashAt w hb hs rest n wo) (hc : Chg B s w w') (hB : hb < B) (hw : ∀ b, wo = some b → b < B) (h1 : ¬ s hb) (h2 : ∀ b, wo = some b → ¬ s b) : HashAt w' hb hs rest n wo := by
  obtain ⟨a, l, c, g1, g2, g3, g4⟩ := h
  exact ⟨a, l, c, g1.chg hc hB h1, g2.chg hc hw h2, g3, g4⟩
theorem HashAt.below {w w' : World} {hb : Nat} {hs rest : List Int} {n : Int} {wo : Option Nat} (h : HashAt w hb hs rest n wo) (hc : Below w.heap.size w w') : HashAt w' hb hs rest n wo := by
  obtain ⟨a, l, c, g1, g2, g3, g4⟩ := h
  exact ⟨a, l, c, g1.belowS hc, g2.below hc, g3, g4⟩

theorem write_spec {kt : List Int} {hb : Nat} {hs rest bs : List Int} {n : Int} {wo : Option Nat} {a : Option Addr} {l c : Nat} {w : World} (h : HashAt w hb hs rest n wo) (hr : Row w a .u8 bs) (hl : l = bs.length) (hsz : rest.length + l ≤ 1000000000)
    (hoff : 0 < bs.length → ∀ p, a = some p → p.block ≠ hb ∧ wo ≠ some p.block) (hk : Row w (some ⟨3, 0, none⟩) .u64 kt) (hkl : kt.length = 80) (hk0 : 3 ≠ hb) (hk1 : wo ≠ some 3) :
    Calls Tryz.prog 99 #[.pointer (some ⟨hb, 0, none⟩), .slice a l c] w fun e w' => e = .returned (.tuple #[]) ∧ ∃ wo', HashAt w' hb (mixH kt hs (rest ++ bs)) (mixR (rest ++ bs)) (IntKind.u64.wrap (n + IntKind.u64.wrap l)) wo' ∧ (∀ k, wo' = some k → w.heap.size ≤ k) ∧ Chg w.heap.size (fun k => k = hb ∨ wo = some k) w w' := by
  obtain ⟨wa, wl, wc, hB, hO, hs8, hwo⟩ := h
  have hbl := hB.lt
  refine calls_of_evM tysOk extsOk Tryz.func99 rfl rfl rfl ?_
  -- the receiver's box
  have hx0 : Blk (w.alloc (.cells (#[.pointer (some ⟨hb, 0, none⟩)] : Array Value) 122)) w.heap.size [.pointer (some ⟨hb, 0, none⟩)] 122 := Blk.newA _ _ _
  have hA0 : Below w.heap.size w (w.alloc (.cells (#[.pointer (some ⟨hb, 0, none⟩)] : Array Value) 122)) := (Below.refl _ _).alloc (Nat.le_refl _) _
  refine LdPt.go (hx0.cell 0) ?_
  refine IfP.no ?_
  refine LdPt.go (hx0.cell 0) ?_
  refine NilP.go ?_
  have hB0 := hB.belowS hA0
  have hc10 : ∀ m v, (hcells 3 hs v m)[10]? = some (.int .u64 m) := by intro m v; simp [hcells, hs8]
  have hc9 : ∀ m v, (hcells 3 hs v m)[9]? = some v := by intro m v; simp [hcells, hs8]
  refine LdI.go ((hB0.cell 10).trans (hc10 _ _)) ?_
  refine NilP.go ?_
  have hset : ∀ v m m', (hcells 3 hs v m).set 10 (.int .u64 m') = hcells 3 hs v m' := by
    intro v m m'
    obtain ⟨x0, x1, x2, x3, x4, x5, x6, x7, rfl⟩ : ∃ a b c d e f g h, hs = [a, b, c, d, e, f, g, h] := by
      match hs, hs8 with
      | [a, b, c, d, e, f, g, h], _ => exact ⟨a, b, c, d, e, f, g, h, rfl⟩
    rfl
  have hset9 : ∀ v v' m, (hcells 3 hs v m).set 9 v' = hcells 3 hs v' m := by
    intro v v' m
    obtain ⟨x0, x1, x2, x3, x4, x5, x6, x7, rfl⟩ : ∃ a b c d e f g h, hs = [a, b, c, d, e, f, g, h] := by
      match hs, hs8 with
      | [a, b, c, d, e, f, g, h], _ => exact ⟨a, b, c, d, e, f, g, h, rfl⟩
    rfl
  refine StP.to 10 hB0 rfl (by simp [hcells, hs8]) fun w1 hB1 hC1 _ => ?_
  have hn' : ∃ n', IntKind.u64.wrap (n + IntKind.u64.wrap l) = n' := ⟨_, rfl⟩
  obtain ⟨n', hn'⟩ := hn'
  rw [hset, hn'] at hB1
  rw [hn']
  have hx1 := hx0.chg hC1 hx0.lt (Nat.ne_of_gt hbl)
  have hC1 : Chg w.heap.size (fun k => k = hb) w w1 := (Chg.of_below hA0).trans (hC1.mono hA0.size (fun _ _ h => h))
  have hO1 := hO.chg hC1 hO.lt (fun b hb' e => hwo (by rw [hb', e]))
  have hr1 := hr.chg0 hC1 (fun h0 p hp => (hoff h0 p hp).1)
  refine LdPt.go (hx1.cell 0) ?_
  refine NilP.go ?_
  refine LdSl.go ((hB1.cell 9).trans (hc9 _ _)) ?_
  refine RdP.row' hr1 (by rw [hl]; exact Nat.mul_one _) ?_
  have hwl := hO.len
  refine App.own hO1 hl (by omega) (by decide) fun al ca oa w2 hO2 hC2 ho2 => ?_
  generalize hall : rest ++ bs = all at *
  have hal := hO2.len
  have hB2 := hB1.chg hC2 hB1.lt hwo
  have hx2 := hx1.chg hC2 hx1.lt (fun e => Nat.lt_irrefl _ (hO.lt _ e))
  have hoa : ∀ b, oa = some b → b ≠ hb ∧ b ≠ w.heap.size ∧ b ≠ 3 ∧ b < w2.heap.size := by
    intro b hb'
    refine ⟨?_, ?_, ?_, hO2.lt b hb'⟩
    all_goals rcases ho2 with rfl | rfl
    · intro e; exact hwo (by rw [hb', e])
    · cases hb'; exact Nat.ne_of_gt (Nat.lt_of_lt_of_le hbl hC1.size)
    · intro e; exact Nat.lt_irrefl _ (hO.lt _ (by rw [hb', e]))
    · cases hb'; exact Nat.ne_of_gt hx1.lt
    · intro e; exact hk1 (by rw [hb', e])
    · cases hb'
      obtain ⟨b', o', e1, e2⟩ := hk 0 (by omega)
      cases e1
      exact Nat.ne_of_gt (Nat.lt_of_lt_of_le (cell_lt e2) hC1.size)
  refine LdPt.go (hx2.cell 0) ?_
  refine NilP.go ?_
  refine StP.to 9 hB2 rfl (by simp [hcells, hs8]) fun w3 hB3 hC3 _ => ?_
  rw [hset9] at hB3
  have hx3 := hx2.chg hC3 hx2.lt (Nat.ne_of_gt hbl)
  have hO3 := hO2.chg hC3 hO2.lt (fun b h e => (hoa b h).1 e)
  have hC3 : Chg w.heap.size (fun k => k = hb ∨ wo = some k) w w3 :=
    ((hC1.mono (Nat.le_refl _) (fun k _ h => .inl h)).trans (hC2.mono hC1.size (fun k _ h => .inr h))).trans (hC3.mono (Nat.le_trans hC1.size hC2.size) (fun k _ h => .inl h))
  refine LdPt.go (hx3.cell 0) ?_
  refine NilP.go ?_
  refine LdI.go (hB3.cell 0) ?_
  refine CallP.same (block_spec _) ?_
  refine CallP.intro (chunks_spec al _ ca w3) ?_
  rintro e w4 ⟨nb, bb, rfl, g1, g2, g3, g4, g5⟩
  refine ⟨_, rfl, ?_⟩
  refine DrawP.rangeA tysOk extsOk rfl (by kernel_rfl) rfl rfl rfl ?_
  rintro rc d w6 hd hdm hlp hb6 hs6 hy
  have hC4 : Chg w.heap.size (fun k => k = hb ∨ wo = some k) w w4 := hC3.thenB g5 hC3.size
  have hB4 := hB3.belowS g5
  have hx4 := hx3.belowS g5
  have hO4 := hO3.below g5
  have hk4 : Row w4 (some ⟨3, 0, none⟩) .u64 kt := hk.chg hC4 (by intro p hp; cases hp; rintro (h | h); exact hk0 h; exact hk1 h)
  have hC6 : Chg w.heap.size (fun k => k = hb ∨ wo = some k) w w6 := hC4.thenB hb6 hC4.size
  have hbb : bb < w4.heap.size := g4.lt
  have hwb : w.heap.size < bb := Nat.lt_of_lt_of_le hx3.lt g1
  have hkl3 : 3 < w.heap.size := by obtain ⟨b, o, h1, h2⟩ := hk 0 (by omega); cases h1; exact cell_lt h2
  have hbl4 : hb < w4.heap.size := hB4.lt
  have hoa4 : ∀ b, oa = some b → b < w3.heap.size := hO3.lt
  have hall64 := hO4.len
  have hnd : nb < d := by rw [hd]; exact g3.lt
  refine (chunks1_spec (nb := nb) (bb := bb) (lp := d + 1) (all := all) (a0 := al) (l0 := wl + l) (c0 := ca) (w := w6)
    (I := fun i W => W.heap[d + 1]? = some (.loop (rc .ready none)) ∧ Blk W hb (hcells 3 (absorb kt hs all i) (.slice none 0 0) n') 135 ∧ 64 * i ≤ all.length ∧ Chg w6.heap.size (fun k => k = hb ∨ k = d + 1 ∨ k = bb) w6 W)
    (J := fun W => W.heap[d + 1]? = some (.loop (rc .done (some .ret))) ∧ (∃ p cp, Blk W hb (hcells 3 (mixH kt hs all) (.slice (some ⟨p, 0, none⟩) (mixR all).length cp) n') 135 ∧ w6.heap.size ≤ p ∧ Buf .u8 5 W p (mixR all) cp) ∧ Chg w6.heap.size (fun k => k = hb ∨ k = d + 1 ∨ k = bb) w6 W)
    (S := fun k => k = hb ∨ k = d + 1) ?_ (g3.belowS hb6) (g4.belowS hb6) (hO4.row.below hb6) hO4.len hO4.le (by omega) ?_ ?_ ?_ (Nat.ne_of_gt g2) ?_ ?_).mono ?_
  · rintro i W W' ⟨h1, h2, h3, h4⟩ hc
    refine ⟨?_, h2.chg hc h2.lt (by omega), h3, h4.trans (hc.mono h4.size (fun k _ h => .inr (.inr h)))⟩
    rw [hc.block _ (heap_lt h1) (by omega)]; exact h1
  · omega
  · omega
  · intro p hp
    have := hO4.at p hp
    have h1 := hoa _ this
    have h2 := hoa4 _ this
    refine ⟨by omega, by omega⟩
  · exact ⟨hlp, hB4.belowS hb6, by omega, Chg.refl _ _ _⟩
  · rintro i W p cp hlt ⟨h1, h2, h3, h4⟩ hp hbf
    refine hy [.int .i64 i, .slice (some ⟨p, 0, none⟩) (min 64 (wl + l - 64 * i)) cp] W _ h1 rfl ?_
    refine ⟨h1, ?_⟩
    have hlpW : d + 1 < W.heap.size := heap_lt h1
    have hpW := hbf.lt
    have hxW : Blk W w.heap.size [.pointer (some ⟨hb, 0, none⟩)] 122 := (hx4.belowS hb6).chg h4 (by have := hx4.lt; omega) (by have := hx4.lt; omega)
    have hkW : Row W (some ⟨3, 0, none⟩) .u64 kt := (hk4.below hb6).chg h4 (by intro p hp; cases hp; show ¬ (3 = hb ∨ 3 = d + 1 ∨ 3 = bb); omega)
    have hput : ∀ W' o, Chg w6.heap.size (fun k => k = hb ∨ k = d + 1 ∨ k = bb) w6 W' → Chg w6.heap.size (fun k => k = hb ∨ k = d + 1 ∨ k = bb) w6 (W'.putObj (d + 1) o) := fun W' o h => h.put _ _ (fun _ => .inr (.inl rfl))
    generalize hW1 : W.putObj (d + 1) (.loop (rc .busy none)) = W1
    have hc1 : Chg W.heap.size (fun k => k = d + 1) W W1 := by rw [← hW1]; exact (Chg.refl _ _ _).put _ _ (fun _ => rfl)
    have hl1 : W1.heap[d + 1]? = some (.loop (rc .busy none)) := by rw [← hW1]; exact put_same hlpW
    have h41 : Chg w6.heap.size (fun k => k = hb ∨ k = d + 1 ∨ k = bb) w6 W1 := by rw [← hW1]; exact hput _ _ h4
    have hx1 := hxW.chg hc1 hxW.lt (by have := hx4.lt; omega)
    have hB1 := h2.chg hc1 h2.lt (by omega)
    have hk1 := hkW.chg hc1 (by intro p hp; cases hp; show ¬ (3 = d + 1); omega)
    have hf1 := hbf.chg hc1 hpW (by omega)
    have hal8 := absorb_length kt hs all hs8 i
    have hdl : ((all.drop (64 * i)).take 64).length = min 64 (wl + l - 64 * i) := by simp [hall64]
    refine LdPt.go (hx1.cell 0) ?_
    refine NilP.go ?_
    refine LdI.go (hB1.cell 0) ?_
    refine CallP.same (block_spec _) ?_
    refine IfP.dec (fun hsm => ?_) (fun hbig => ?_)
    · refine LdPt.go (hx1.cell 0) ?_
      refine NilP.go ?_
      refine StP.to 9 hB1 rfl (by simp [hcells, hal8]) fun W2 hB2 hc2 hs2 => ?_
      have hc2 : Chg W1.heap.size (fun k => k = hb) W1 W2 := hc2
      have hl2 : W2.heap[d + 1]? = some (.loop (rc .busy none)) := (hc2.block _ (heap_lt hl1) (by show ¬ (d + 1 = hb); omega)).trans hl1
      refine ⟨hl2, .inr ⟨rfl, put_same (heap_lt hl2), ⟨p, cp, ?_, hp, ?_⟩, hput _ _ (h41.thenC hc2 h41.size (fun k _ h => .inl h))⟩⟩
      · have hi : all.length / 64 = i := by omega
        have hcl : ∀ v v' m, (hcells 3 (absorb kt hs all i) v m).set 9 v' = hcells 3 (absorb kt hs all i) v' m := by
          intro v v' m
          obtain ⟨x0, x1, x2, x3, x4, x5, x6, x7, e⟩ : ∃ a b c d e f g h, absorb kt hs all i = [a, b, c, d, e, f, g, h] := by
            match absorb kt hs all i, hal8 with
            | [a, b, c, d, e, f, g, h], _ => exact ⟨a, b, c, d, e, f, g, h, rfl⟩
          rw [e]; rfl
        rw [hcl] at hB2
        have hm : (mixR all).length = min 64 (wl + l - 64 * i) := by rw [mixR, hi, List.length_drop]; omega
        rw [hm, mixH, hi]
        exact hB2.put _ _ (by show hb ≠ d + 1; omega)
      · have hi : all.length / 64 = i := by omega
        have hm : mixR all = (all.drop (64 * i)).take 64 := by rw [mixR, hi, List.take_of_length_le (by rw [List.length_drop]; omega)]
        rw [hm]
        have := hf1.chg hc2 hf1.lt (by show ¬ (p = hb); omega)
        exact this.chg ((Chg.refl W2.heap.size (fun k => k = d + 1) W2).put (d + 1) _ (fun _ => rfl)) this.lt (by omega)
    · have hfull : min 64 (wl + l - 64 * i) = 64 := by omega
      refine LdPt.go (hx1.cell 0) ?_
      refine CallP.intro (take_spec hb _ _ _ n' (.slice none 0 0) (absorb kt hs all i) ((all.drop (64 * i)).take 64) kt W1 hB1 hal8 hf1.row hdl.symm (by omega) (by have := hf1.le; omega) ?_ hk1 hkl hk0) ?_
      · intro q hq; cases hq; show p ≠ hb; omega
      rintro e W2 ⟨rfl, hB2, hc2⟩
      refine ⟨_, rfl, ?_⟩
      have hl2 : W2.heap[d + 1]? = some (.loop (rc .busy none)) := (hc2.block _ (heap_lt hl1) (by show ¬ (d + 1 = hb); omega)).trans hl1
      refine ⟨hl2, .inl ⟨rfl, ⟨put_same (heap_lt hl2), hB2.put _ _ (by omega), by omega, hput _ _ (h41.thenC hc2 h41.size (fun k _ h => .inl h))⟩, ?_⟩⟩
      refine Chg.put (Chg.thenC (hc1.mono (Nat.le_refl _) (fun k _ h => .inr h)) hc2 hc1.size (fun k _ h => .inl h)) _ _ (fun _ => .inr rfl)
  · rintro e W ⟨rfl, hJ⟩
    refine ⟨_, rfl, ?_⟩
    have hfin : ∀ o1 o2, Chg w6.heap.size (fun k => k = hb ∨ k = d + 1 ∨ k = bb) w6 W → Chg w.heap.size (fun k => k = hb ∨ wo = some k) w ((W.putObj (d + 1) o1).putObj d o2) := by
      intro o1 o2 h
      refine ((hC6.thenC h hC6.size ?_).put _ _ ?_).put _ _ ?_
      · rintro k hk (h | h | h)
        · exact .inl h
        · omega
        · omega
      · intro _; omega
      · intro _; omega
    have hmark : ∀ o1, Chg w6.heap.size (fun k => k = hb ∨ k = d + 1 ∨ k = bb) w6 W → (W.putObj (d + 1) o1).heap[d]? = some (.deferred (some [])) := by
      intro o1 h
      rw [World.putObj_heap_other (by omega), h.block d (by omega) (by omega)]
      exact hdm
    rcases hJ with ⟨h1, ⟨p, cp, h2, h3, h4⟩, h5⟩ | ⟨i, hi, h1, h2, h3, h4⟩
    · refine .inr ⟨.ret, rfl, rfl, h1, ?_⟩
      refine .inr ⟨d, rfl, hmark _ h5, rfl, some p, ⟨some ⟨p, 0, none⟩, _, cp, (h2.put _ _ ?_).put _ _ ?_, ⟨rfl, rfl, ?_⟩, ?_, ?_⟩, ?_, hfin _ _ h5⟩
      · omega
      · omega
      · have h6 := h4.chg ((Chg.refl W.heap.size (fun k => k = d + 1) W).put (d + 1) (.loop (rc .exhausted (some .ret))) (fun _ => rfl)) h4.lt (by omega)
        exact h6.chg ((Chg.refl _ (fun k => k = d) _).put d (.deferred none) (fun _ => rfl)) h6.lt (by omega)
      · exact absorb_length _ _ _ hs8 _
      · intro e; cases e; omega
      · intro k hk; cases hk; omega
    · have hi' : all.length / 64 = i := by omega
      have hm : mixR all = [] := by rw [mixR, hi', List.drop_of_length_le (by omega)]
      refine .inl ⟨h1, ?_⟩
      refine .inr ⟨d, rfl, hmark _ h4, rfl, none, ⟨none, 0, 0, ?_, ⟨rfl, rfl, rfl, hm⟩, ?_, ?_⟩, ?_, hfin _ _ h4⟩
      · rw [mixH, hi']
        exact (h2.put _ _ (by omega)).put _ _ (by omega)
      · exact absorb_length _ _ _ hs8 _
      · intro e; cases e
      · intro k hk; cases hk
end Go.Proofs.YthneejblcffdgaaGreatDoor

/- The walk by evaluation, part 9: regions that draw their order, all orders looked at. -/
set_option linter.unusedSimpArgs false
set_option linter.unusedVariables false
namespace Go.Ev
open Go Go.RowKit

/-- the orders of a region: an operation that touches no memory is taken first; else each that may come next is looked at. -/
inductive Sch where
  | done
  | take (i : Nat) (r : Sch)
  | alt (i : Nat) (r : Sch) (l : Sch)
def evSch (T : Tab) (P : Program) (ext : Nat → Bool) (ops : List Oper) : Sch → Env → (Env → World → Prop) → World → Prop
  | .done, e, K, w => K e w
  | .take i r, e, K, w => match ops[i]? with
    | some o => match o.dst with
      | some d => match o.guard with
        | none => evS T o e (fun v => evSch T P ext ops r (upd e d v) K w) w
        | some (j, want) => match (ops[j]?).bind (·.dst) with
          | some g => asBool (e g) fun c => IfP (bif want then c else !c) (evS T o (upd e g (.bool want)) (fun v => evSch T P ext ops r (upd (upd e g (.bool want)) d v) K w) w)
              (evSch T P ext ops r (upd (upd e g (.bool !want)) d undef) K w)
          | none => False
      | none => False
    | none => False
  | .alt i r l, e, K, w => (match ops[i]? with
    | some o => match o.guard with
      | none => match o.dst with
        | some d => evOp T P ext (some 0) o e (fun v w => evSch T P ext ops r (upd e d v) K w) w
        | none => evOp T P ext (some 0) o e (fun v w => evSch T P ext ops r e K w) w
      | some (j, want) => match (ops[j]?).bind (·.dst) with
        | some g => asBool (e g) fun c => match o.dst with
          | some d => IfP (bif want then c else !c) (evOp T P ext (some 0) o (upd e g (.bool want)) (fun v w => evSch T P ext ops r (upd (upd e g (.bool want)) d v) K w) w)
              (evSch T P ext ops r (upd (upd e g (.bool !want)) d undef) K w)
          | none => IfP (bif want then c else !c) (evOp T P ext (some 0) o (upd e g (.bool want)) (fun v w => evSch T P ext ops r (upd e g (.bool want)) K w) w)
              (evSch T P ext ops r (upd e g (.bool !want)) K w)
        | none => False
    | none => False) ∧ (match l with | .alt i' r' l' => evSch T P ext ops (.alt i' r' l') e K w | _ => True)
def Sch.heads : Sch → List Nat
  | .alt i _ l => i :: heads l
  | _ => []
def Sch.depth : Sch → Nat
  | .done => 0
  | .take _ r => r.depth + 1
  | .alt _ r l => max (r.depth + 1) l.depth
def takeB (ops : Array Oper) (i : Nat) : Bool := match ops[i]? with
  | some o => match o.op with
    | .move _ => true
    | .assign _ => true
    | .nilCheck _ => true
    | .fieldAddr _ _ _ => true
    | _ => false
  | none => false
def okSch (ops : Array Oper) : Sch → Bool → Array Bool → Bool
  | .done, _, L => (Region.ready .any ops L).isEmpty
  | .take i r, _, L => (Region.ready .any ops L).contains i && Region.free .any ops L i && takeB ops i && okSch ops r true (L.setIfInBounds i true)
  | .alt i r l, top, L => (!top || (Region.ready .any ops L).all fun j => (Sch.alt i r l).heads.contains j) && !(Region.ready .any ops L).isEmpty && okSch ops r true (L.setIfInBounds i true) &&
      (match l with | .alt i' r' l' => okSch ops (.alt i' r' l') false L | _ => true)
def plainB (ops : Array Oper) (n : Nat) : Bool := ops.all fun o => (match o.dst with | some d => Nat.blt d n | none => true) && (match o.op with | .defer _ => false | _ => true)

section
variable {P : Program} {T : Tab}
theorem evS_take (hT : TabOk T P) {o : Oper} {e : Env} {k : Value → Prop} {w : World} (hop : (match o.op with | .move _ => true | .assign _ => true | .nilCheck _ => true | .fieldAddr _ _ _ => true | _ => false) = true) (h : evS T o e k w) :
    ∃ v, k v ∧ ∀ w', (execOp (get e) o).run P w' = .ok (.value v) w' := by
  cases ho : o.op <;> rw [ho] at hop <;> try exact Bool.noConfusion hop
  case move x => unfold evS at h; simp only [ho] at h; rw [force_eq] at h; exact ⟨_, h, fun w' => by unfold execOp; simp [ho]⟩
  case assign x => unfold evS at h; simp only [ho] at h; rw [force_eq] at h; exact ⟨_, h, fun w' => by unfold execOp; simp [ho]⟩
  case nilCheck x =>
    unfold evS at h; simp only [ho] at h
    split at h <;> try exact h.elim
    · rename_i a hx
      obtain ⟨b, rfl, hk⟩ := h.out
      exact ⟨_, hk, fun w' => by unfold execOp; simp [ho, hx]⟩
    · rename_i hx; exact ⟨_, h, fun w' => by unfold execOp; simp [ho, hx]⟩
    · rename_i hx; exact ⟨_, h, fun w' => by unfold execOp; simp [ho, hx]⟩
    · rename_i hx; exact ⟨_, h, fun w' => by unfold execOp; simp [ho, hx]⟩
  case fieldAddr s x f =>
    unfold evS at h; simp only [ho] at h
    unfold fieldOf at h
    split at h <;> try exact h.elim
    rename_i fs n b z hi
    obtain ⟨F, hu, hF⟩ := (hT _ _ hi).ty
    split at h <;> try exact h.elim
    rename_i off u hf
    split at h <;> try exact h.elim
    rename_i i hu'
    cases hz : Nat.beq i.size 0 with
    | true => rw [hz] at h; exact h.elim
    | false =>
      rw [hz] at h
      obtain ⟨p, hp, h1⟩ := asAddr_out h
      have hF' : ∃ g : Field, F[f]? = some g ∧ g.offset = off ∧ g.type = u := by
        rw [← hF] at hf
        simp only [List.getElem?_map, Option.map_eq_some_iff, Prod.mk.injEq] at hf
        obtain ⟨g, h1, h2, h3⟩ := hf
        exact ⟨g, by simpa using h1, h2, h3⟩
      obtain ⟨g, hg, rfl, rfl⟩ := hF'
      have hne : ¬ i.size = 0 := by intro h; rw [h] at hz; cases hz
      refine ⟨_, h1, fun w' => ?_⟩
      unfold execOp
      simp [ho, Instr.fieldAt, underlying, hu, hg, Instr.sureAddr, hp, fieldPlace, (hT _ _ hu').run_size, hne]

theorem asgOps_mem {ops : List Oper} {o : Oper} {d t : Nat} (ho : o ∈ ops) (hd : o.dst = some d) (h : Nat.testBit (asgOps ops) t = false) : t ≠ d := by
  induction ops with
  | nil => cases ho
  | cons x r ih =>
    obtain ⟨h1, h2⟩ := testBit_or h
    rcases List.mem_cons.1 ho with rfl | ho
    · rw [hd] at h1; exact testBit_one_shl h1
    · exact ih ho h2

/-- what holds of the temporaries on the way through a region. -/
def OnWay (ops : Array Oper) (a0 a : Act) : Prop := a.tmps.size = a0.tmps.size ∧ a.defers = a0.defers ∧ ∀ t, Nat.testBit (asgOps ops.toList) t = false → actEnv a t = actEnv a0 t
def QAny (ops : Array Oper) (a0 : Act) (K : Env → World → Prop) : Exit → Act → World → Prop := fun x a w => match x with
  | .normal => OnWay ops a0 a ∧ K (actEnv a) w
  | _ => False

theorem OnWay.put {ops : Array Oper} {a0 a : Act} {i : Nat} {o : Oper} (h : OnWay ops a0 a) (hi : ops[i]? = some o) (hpl : plainB ops a0.tmps.size = true) (v : Value) : OnWay ops a0 (a.put o.dst v) ∧ actEnv (a.put o.dst v) = updO (actEnv a) o.dst v := by
  obtain ⟨h1, h2, h3⟩ := h
  have hmem : o ∈ ops.toList := by
    have := Array.getElem?_eq_some_iff.1 hi
    obtain ⟨hlt, rfl⟩ := this
    exact Array.getElem_mem_toList hlt
  have hp : ((match o.dst with | some d => Nat.blt d a0.tmps.size | none => true) && (match o.op with | .defer _ => false | _ => true)) = true := by
    unfold plainB at hpl
    rw [Array.all_eq_true_iff_forall_mem] at hpl
    exact hpl o (by simpa using hmem)
  simp only [Bool.and_eq_true] at hp
  have hlt : ∀ t, o.dst = some t → t < a.tmps.size := by
    intro t ht; have := hp.1; rw [ht] at this; rw [h1]; simpa [Nat.blt_eq] using this
  have he := actEnv_put a o.dst v hlt
  refine ⟨⟨(put_size _ _ _).trans h1, (put_defers _ _ _).trans h2, fun t ht => ?_⟩, he⟩
  rw [he]
  cases hd : o.dst with
  | none => exact h3 t ht
  | some d =>
    have hne := asgOps_mem hmem hd ht
    show (bif Nat.beq t d then v else actEnv a t) = _
    have : Nat.beq t d = false := by
      cases hb : Nat.beq t d with
      | false => rfl
      | true => exact absurd (Nat.eq_of_beq_eq_true hb) hne
    rw [this]
    exact h3 t ht

theorem evSch_any (hT : TabOk T P) {ext : Nat → Bool} (hX : ExtOk P ext) {ops : Array Oper} {a0 : Act} {K : Env → World → Prop} (hpl : plainB ops a0.tmps.size = true) (hs : Region.noSelect ops = true) :
    ∀ (s : Sch), (∀ (L : Array Bool) (a : Act) (w : World) (fuel : Nat), okSch ops s true L = true → s.depth ≤ fuel → OnWay ops a0 a → evSch T P ext ops.toList s (actEnv a) K w → wpAny P .any ops (QAny ops a0 K) fuel L a w) ∧
      (∀ (top : Bool) (L : Array Bool) (a : Act) (w : World) (fuel : Nat), okSch ops s top L = true → s.depth ≤ fuel + 1 → OnWay ops a0 a → evSch T P ext ops.toList s (actEnv a) K w → ∀ i ∈ s.heads, wpOp P ops (QAny ops a0 K) i (wpAny P .any ops (QAny ops a0 K) fuel (L.setIfInBounds i true)) a w)
  | .done => by
    refine ⟨fun L a w fuel hok _ hon h => ?_, fun _ _ _ _ _ _ _ _ _ i hi => by cases hi⟩
    simp only [okSch, List.isEmpty_iff] at hok
    exact wpAny_done hok ⟨hon, h⟩ fuel
  | .take i r => by
    refine ⟨fun L a w fuel hok hd hon h => ?_, fun _ _ _ _ _ _ _ _ _ i hi => by cases hi⟩
    simp only [okSch, Bool.and_eq_true] at hok
    obtain ⟨⟨⟨h1, h2⟩, h3⟩, h4⟩ := hok
    obtain ⟨fuel, rfl⟩ : ∃ f, fuel = f + 1 := ⟨fuel - 1, by simp only [Sch.depth] at hd; omega⟩
    simp only [Sch.depth, Nat.add_le_add_iff_right] at hd
    unfold evSch at h
    split at h <;> try exact h.elim
    rename_i o ho
    split at h <;> try exact h.elim
    rename_i d hdst
    have ho' : ops[i]? = some o := by simpa using ho
    unfold takeB at h3
    rw [ho'] at h3
    have hy : ∃ v, Yields P ops o v a ∧ evSch T P ext ops.toList r (upd (actEnv a) d v) K w := by
      cases hg : o.guard with
      | none =>
        simp only [hg] at h
        obtain ⟨v, hk, hrun⟩ := evS_take hT h3 h
        exact ⟨v, .inl ⟨by simp [Region.wanted, hg], fun w' => by rw [eval_get]; exact hrun w'⟩, hk⟩
      | some jw =>
        obtain ⟨j, want⟩ := jw
        simp only [hg] at h
        split at h <;> try exact h.elim
        rename_i g hjd
        obtain ⟨c, hc, h5⟩ := asBool_out h
        have hw := guard_wanted hg hjd hc
        by_cases hcw : c = want
        · subst hcw
          have h6 := h5.t (by cases c <;> rfl)
          rw [upd_self hc] at h6
          obtain ⟨v, hk, hrun⟩ := evS_take hT h3 h6
          exact ⟨v, .inl ⟨by rw [hw]; simp, fun w' => by rw [eval_get]; exact hrun w'⟩, hk⟩
        · have hcn : c = !want := by cases c <;> cases want <;> simp at hcw ⊢
          have h6 := h5.f (by subst hcn; cases want <;> rfl)
          have hself : upd (actEnv a) g (.bool !want) = actEnv a := upd_self (by rw [hc, hcn])
          rw [hself] at h6
          exact ⟨undef, .inr ⟨by rw [hw]; simpa using hcw, rfl⟩, h6⟩
    obtain ⟨v, hy, hk⟩ := hy
    obtain ⟨g1, g2⟩ := hon.put ho' hpl v
    refine wpAny_take ho' hs h2 h1 (fun c a w h => h.elim) (v := v) hy ?_
    refine (evSch_any hT hX hpl hs r).1 _ _ _ _ h4 hd g1 ?_
    rw [g2, hdst]; exact hk
  | .alt i r l => by
    have key : ∀ (top : Bool) (L : Array Bool) (a : Act) (w : World) (fuel : Nat), okSch ops (.alt i r l) top L = true → (Sch.alt i r l).depth ≤ fuel + 1 → OnWay ops a0 a → evSch T P ext ops.toList (.alt i r l) (actEnv a) K w → ∀ j ∈ (Sch.alt i r l).heads, wpOp P ops (QAny ops a0 K) j (wpAny P .any ops (QAny ops a0 K) fuel (L.setIfInBounds j true)) a w := by
      intro top L a w fuel hok hd hon h j hj
      unfold okSch at hok
      simp only [Bool.and_eq_true] at hok
      obtain ⟨⟨⟨h1, h2⟩, h3⟩, h4⟩ := hok
      have hd1 : r.depth + 1 ≤ fuel + 1 := Nat.le_trans (Nat.le_max_left _ _) hd
      have hd2 : l.depth ≤ fuel + 1 := Nat.le_trans (Nat.le_max_right _ _) hd
      unfold evSch at h
      obtain ⟨hA, hB⟩ := h
      rcases List.mem_cons.1 hj with rfl | hj
      · split at hA <;> try exact hA.elim
        rename_i o ho
        have ho' : ops[j]? = some o := by simpa using ho
        have next : ∀ v w', evSch T P ext ops.toList r (updO (actEnv a) o.dst v) K w' → wpAny P .any ops (QAny ops a0 K) fuel (L.setIfInBounds j true) (a.put o.dst v) w' := by
          intro v w' hk
          obtain ⟨g1, g2⟩ := hon.put ho' hpl v
          refine (evSch_any hT hX hpl hs r).1 _ _ _ _ h3 (by omega) g1 ?_
          rw [g2]; exact hk
        unfold wpOp
        simp only [ho']
        cases hg : o.guard with
        | none =>
          simp only [hg] at hA
          have hA' : evOp T P ext (some 0) o (actEnv a) (fun v w => evSch T P ext ops.toList r (updO (actEnv a) o.dst v) K w) w := by
            cases hdst : o.dst with
            | none => rw [hdst] at hA; exact hA
            | some d => rw [hdst] at hA; exact hA
          rw [if_pos (by simp [Region.wanted, hg])]
          exact .inl (evOp_wp hT hX hA' next)
        | some jw =>
          obtain ⟨jg, want⟩ := jw
          simp only [hg] at hA
          split at hA <;> try exact hA.elim
          rename_i g hjd
          obtain ⟨c, hc, h5⟩ := asBool_out hA
          rw [guard_wanted hg hjd hc]
          have h5' : IfP (bif want then c else !c) (evOp T P ext (some 0) o (upd (actEnv a) g (.bool want)) (fun v w => evSch T P ext ops.toList r (updO (upd (actEnv a) g (.bool want)) o.dst v) K w) w)
              (evSch T P ext ops.toList r (updO (upd (actEnv a) g (.bool !want)) o.dst undef) K w) := by
            cases hdst : o.dst with
            | none => rw [hdst] at h5; exact h5
            | some d => rw [hdst] at h5; exact h5
          by_cases hcw : c = want
          · subst hcw
            have h6 := h5'.t (by cases c <;> rfl)
            rw [upd_self hc] at h6
            rw [if_pos (by simp)]
            exact .inl (evOp_wp hT hX h6 next)
          · have hcn : c = !want := by cases c <;> cases want <;> simp at hcw ⊢
            have h6 := h5'.f (by subst hcn; cases want <;> rfl)
            have hself : upd (actEnv a) g (.bool !want) = actEnv a := upd_self (by rw [hc, hcn])
            rw [hself] at h6
            rw [if_neg (by simp [hcw])]
            exact next undef w h6
      · cases l with
        | done => cases hj
        | take i' r' => cases hj
        | alt i' r' l' => exact (evSch_any hT hX hpl hs (.alt i' r' l')).2 false L a w fuel h4 (by omega) hon hB j hj
    refine ⟨fun L a w fuel hok hd hon h => ?_, key⟩
    have hok' := hok
    unfold okSch at hok'
    simp only [Bool.and_eq_true] at hok'
    obtain ⟨⟨⟨h1, h2⟩, h3⟩, h4⟩ := hok'
    have hd1 : r.depth + 1 ≤ fuel := Nat.le_trans (Nat.le_max_left _ _) hd
    obtain ⟨fuel, rfl⟩ : ∃ f, fuel = f + 1 := ⟨fuel - 1, by omega⟩
    refine wpAny_all rfl ?_ fun j hj => key true L a w fuel hok hd hon h j ?_
    · intro e; rw [e] at h2; simp at h2
    · simp only [Bool.not_true, Bool.false_or, List.all_eq_true] at h1
      simpa using h1 j hj

theorem DrawP.any {S : Type} (hT : TabOk T P) {ext : Nat → Bool} (hX : ExtOk P ext) (hm : P.follows .mixedOrders = true) {n id : Nat} {ops : Array Oper} {D : List Deferred} {e : Env} {Q : Post} {w : World} (s : Sch) (m : Nat) (hmask : asgOps ops.toList = m)
    (hchk : (okSch ops s true (Array.replicate ops.size false) && Nat.ble s.depth ops.size && plainB ops n && Region.noSelect ops) = true)
    (V : S → List (Nat × Value)) (I : S → World → Prop)
    (h : evSch T P ext ops.toList s e (fun e' w' => ∃ s, Slots e' (V s) ∧ I s w') { w with drawn := w.drawn + 1 })
    (hk : ∀ s j w', I s w' → Q .normal D (upds (over e m j) (V s)) w') : DrawP P none n (.region id ops true) D e Q w := by
  refine ⟨rfl, ?_⟩
  rintro a hn rfl rfl
  subst hmask
  simp only [Bool.and_eq_true] at hchk
  obtain ⟨⟨⟨hok, hd⟩, hpl⟩, hs⟩ := hchk
  refine wp_mono (wp_region_any hm ((evSch_any (a0 := a) hT hX (by rw [hn]; exact hpl) hs s).1 _ a _ _ hok (by rwa [Nat.ble_eq] at hd) ⟨rfl, rfl, fun _ _ => rfl⟩ h)) ?_
  rintro x a' w' hq
  cases x with
  | normal =>
    obtain ⟨⟨h1, h2, h3⟩, s, h4, h5⟩ := hq
    refine ⟨h1, h3, ?_⟩
    have he : actEnv a' = upds (over (actEnv a) (asgOps ops.toList) (actEnv a')) (V s) := by
      have : over (actEnv a) (asgOps ops.toList) (actEnv a') = actEnv a' := by
        funext t
        unfold over
        cases hb : Nat.testBit (asgOps ops.toList) t with
        | true => rfl
        | false => exact (h3 t hb).symm
      rw [this, upds_self h4]
    rw [h2, he]
    exact hk s (actEnv a') w' h5
  | _ => exact hq.elim
end
end Go.Ev

namespace Go.Proofs.YthneejblcffdgaaGreatDoor
open Go Go.Ev Go.RowKit
set_option maxRecDepth 20000
set_option linter.unusedVariables false

/-! ### numbers as bytes -/
def b8 (K : IntKind) (x : Int) (s : Int) : Int := IntKind.u8.wrap (x.fdiv (2 ^ (min s.toNat K.bits)))
def be32 (x : Int) : List Int := [b8 .u32 x 24, b8 .u32 x 16, b8 .u32 x 8, IntKind.u8.wrap x]
theorem app32_spec {a : Option Addr} {l c : Nat} {xs : List Int} {o : Option Nat} {x : Int} {w : World} (h : OwnS .u8 5 w a l c xs o) (hs : l ≤ 1000000) :
    Calls Tryz.prog 107 #[.slice a l c, .int .u32 x] w fun e w' => ∃ a' c' o', e = .returned (.slice a' (l + 4) c') ∧ OwnS .u8 5 w' a' (l + 4) c' (xs ++ be32 x) o' ∧ Chg w.heap.size (fun k => o = some k) w w' ∧ (o' = o ∨ ∃ b, o' = some b ∧ w.heap.size ≤ b) := by
  refine calls_of_ev tysOk extsOk Tryz.func107 rfl rfl rfl ?_
  refine ChkP.go (by decide) ?_
  refine ChkP.go (by decide) ?_
  refine ChkP.go (by decide) ?_
  have hb : Below w.heap.size w (w.alloc (.cells ((be32 x).map (Value.int .u8)).toArray 5)) := (Below.refl _ _).alloc (Nat.le_refl _) _
  have hB := Blk.new w ((be32 x).map (Value.int .u8)) 5
  refine RdP.row' (K := .u8) (xs := be32 x) (Row.of_blk 0 hB ?_) rfl ?_
  · intro i hi; rw [Nat.zero_add, List.getElem?_map, List.getElem?_eq_getElem hi]; rfl
  refine App.own (h.below hb) rfl (by omega) (by decide) fun a' c' o' w' h1 h2 h3 => ?_
  refine ⟨rfl, a', c', o', rfl, h1, ?_, ?_⟩
  · exact (Chg.of_below hb).thenC h2 hb.size (fun _ _ h => h)
  · rcases h3 with h3 | h3
    · exact .inl h3
    · exact .inr ⟨_, h3, hb.size⟩
def be64 (x : Int) : List Int := [b8 .u64 x 56, b8 .u64 x 48, b8 .u64 x 40, b8 .u64 x 32, b8 .u64 x 24, b8 .u64 x 16, b8 .u64 x 8, IntKind.u8.wrap x]
theorem app64_spec {a : Option Addr} {l c : Nat} {xs : List Int} {o : Option Nat} {x : Int} {w : World} (h : OwnS .u8 5 w a l c xs o) (hs : l ≤ 1000000) :
    Calls Tryz.prog 108 #[.slice a l c, .int .u64 x] w fun e w' => ∃ a' c' o', e = .returned (.slice a' (l + 8) c') ∧ OwnS .u8 5 w' a' (l + 8) c' (xs ++ be64 x) o' ∧ Chg w.heap.size (fun k => o = some k) w w' ∧ (o' = o ∨ ∃ b, o' = some b ∧ w.heap.size ≤ b) := by
  refine calls_of_ev tysOk extsOk Tryz.func108 rfl rfl rfl ?_
  refine ChkP.go (by decide) ?_
  refine ChkP.go (by decide) ?_
  refine ChkP.go (by decide) ?_
  refine ChkP.go (by decide) ?_
  refine ChkP.go (by decide) ?_
  refine ChkP.go (by decide) ?_
  refine ChkP.go (by decide) ?_
  have hb : Below w.heap.size w (w.alloc (.cells ((be64 x).map (Value.int .u8)).toArray 5)) := (Below.refl _ _).alloc (Nat.le_refl _) _
  have hB := Blk.new w ((be64 x).map (Value.int .u8)) 5
  refine RdP.row' (K := .u8) (xs := be64 x) (Row.of_blk 0 hB ?_) rfl ?_
  · intro i hi; rw [Nat.zero_add, List.getElem?_map, List.getElem?_eq_getElem hi]; rfl
  refine App.own (h.below hb) rfl (by omega) (by decide) fun a' c' o' w' h1 h2 h3 => ?_
  refine ⟨rfl, a', c', o', rfl, h1, ?_, ?_⟩
  · exact (Chg.of_below hb).thenC h2 hb.size (fun _ _ h => h)
  · rcases h3 with h3 | h3
    · exact .inl h3
    · exact .inr ⟨_, h3, hb.size⟩
theorem put64_spec {b l c : Nat} {xs : List Int} {x : Int} {w : World} (h : Buf .u8 5 w b xs c) (hl : l = xs.length) (h8 : 8 ≤ l) :
    Calls Tryz.prog 106 #[.slice (some ⟨b, 0, none⟩) l c, .int .u64 x] w fun e w' => e = .returned (.tuple #[]) ∧ Buf .u8 5 w' b (be64 x ++ xs.drop 8) c ∧ Chg w.heap.size (fun k => k = b) w w' := by
  refine calls_of_ev tysOk extsOk Tryz.func106 rfl rfl rfl ?_
  have hle := h.le
  have hB0 := Buf.drw h
  have hC0 := (Chg.refl w.heap.size (fun k => k = b) w).drw
  generalize hw0 : ({ w with drawn := w.drawn + 1 } : World) = w0 at hB0 hC0
  refine DrawP.any tysOk extsOk mixed (.take 0 (.take 2 (.alt 1 (.alt 3 (.alt 4 (.done) (.done)) (.done)) (.alt 3 (.alt 1 (.alt 4 (.done) (.done)) (.done)) (.done))))) 496 (by kernel_rfl) (by kernel_rfl)
    (S := Unit) (fun _ => []) (fun _ w' => Buf .u8 5 w' b (be64 x ++ xs.drop 8) c ∧ Chg w.heap.size (fun k => k = b) w w') ?_ ?_
  · rw [hw0]
    have hend : ∀ (a' : Option Addr) (c' : Nat) (o' : Option Nat) (w1 : World), OwnS .u8 5 w1 a' (0 + 8) c' ([] ++ be64 x) o' → Chg w0.heap.size (fun k => none = some k) w0 w1 →
        RdP a' ((0 + 8) * 1) (fun vs => StsP ⟨b, 0, none⟩ vs (fun w' => ∃ s : Unit, True ∧ Buf .u8 5 w' b (be64 x ++ xs.drop 8) c ∧ Chg w.heap.size (fun k => k = b) w w') w1) w1 := by
      intro a' c' o' w1 h1 h2
      have hb1 := h2.mono (Nat.le_refl _) (s' := fun _ => False) (fun k _ h => by cases h)
      refine RdP.row' h1.row rfl ?_
      refine StsP.buf (ys := be64 x) 0 (hB0.chg hb1 hB0.lt id) (by show 0 + 8 ≤ _; omega) fun w2 h4 h5 _ => ?_
      rw [List.take_zero, List.nil_append, Nat.zero_add] at h4
      refine ⟨(), trivial, h4, ?_⟩
      exact (hC0.thenC hb1 hC0.size (fun _ _ h => h.elim)).thenC h5 (Nat.le_trans hC0.size hb1.size) (fun _ _ h => h)
    refine ⟨?_, ?_, trivial⟩
    · refine SlcP.first 8 c rfl rfl (by omega) (Nat.le_refl _) ?_
      refine ⟨CallP.intro (app64_spec (OwnS.nil _) (by omega)) ?_, trivial⟩
      rintro e w1 ⟨a', c', o', rfl, h1, h2, h3⟩
      exact ⟨_, rfl, hend a' c' o' w1 h1 h2, trivial⟩
    · refine CallP.intro (app64_spec (OwnS.nil _) (by omega)) ?_
      rintro e w1 ⟨a', c', o', rfl, h1, h2, h3⟩
      refine ⟨_, rfl, ?_, trivial⟩
      refine SlcP.first 8 c rfl rfl (by omega) (Nat.le_refl _) ?_
      exact ⟨hend a' c' o' w1 h1 h2, trivial⟩
  · rintro ⟨⟩ j w' ⟨h1, h2⟩
    exact ⟨rfl, rfl, h1, h2⟩
theorem clone_own {a : Option Addr} {l c : Nat} {xs : List Int} {o : Option Nat} {w : World} (h : OwnS .u8 5 w a l c xs o) (hs : l ≤ 1000000000) :
    Calls Tryz.prog 105 #[.slice a l c] w fun e w' => ∃ a' c' o', e = .returned (.slice a' l c') ∧ OwnS .u8 5 w' a' l c' xs o' ∧ (∀ k, o' = some k → w.heap.size ≤ k) ∧ Below w.heap.size w w' := by
  refine calls_of_ev tysOk extsOk Tryz.func105 rfl rfl rfl ?_
  cases o with
  | none =>
    obtain ⟨rfl, rfl, rfl, rfl⟩ := h
    refine IfP.yes ?_
    exact ⟨rfl, none, 0, none, rfl, OwnS.nil _, (by intro k hk; cases hk), Below.refl _ _⟩
  | some b =>
    obtain ⟨rfl, hl, hB⟩ := h
    refine IfP.no ?_
    have hb1 : Below w.heap.size w (w.alloc (.cells (#[] : Array Value) 5)) := (Below.refl _ _).alloc (Nat.le_refl _) _
    have hE : OwnS .u8 5 (w.alloc (.cells (#[] : Array Value) 5)) (some ⟨w.heap.size, 0, none⟩) 0 0 [] (some w.heap.size) := ⟨rfl, rfl, [], Blk.newA _ _ _, rfl⟩
    refine RdP.row' ((hB.below hb1).row) (by rw [hl]; exact Nat.mul_one _) ?_
    refine App.own hE hl (by omega) (by decide) fun a' c' o' w' h1 h2 h3 => ?_
    rw [Nat.zero_add, List.nil_append] at *
    refine ⟨rfl, a', c', o', rfl, h1, ?_, ?_⟩
    · intro k hk
      rcases h3 with h3 | h3 <;> rw [h3] at hk <;> cases hk
      · exact Nat.le_refl _
      · exact hb1.size
    · exact Chg.below ((Chg.of_below hb1).thenC h2 hb1.size (fun k hk h => by cases h; exact Nat.lt_irrefl _ hk))
theorem hcells_len {hs : List Int} (h : hs.length = 8) (v : Value) (n : Int) : (hcells 3 hs v n).length = 11 := by simp [hcells, h]
theorem hcells_9 {hs : List Int} (h : hs.length = 8) (v : Value) (n : Int) : (hcells 3 hs v n)[9]? = some v := by simp [hcells, h]
theorem hcells_10 {hs : List Int} (h : hs.length = 8) (v : Value) (n : Int) : (hcells 3 hs v n)[10]? = some (.int .u64 n) := by simp [hcells, h]
theorem hcells_set9 {hs : List Int} (h : hs.length = 8) (v v' : Value) (n : Int) : (hcells 3 hs v n).set 9 v' = hcells 3 hs v' n := by
  obtain ⟨x0, x1, x2, x3, x4, x5, x6, x7, rfl⟩ : ∃ a b c d e f g h, hs = [a, b, c, d, e, f, g, h] := by
    match hs, h with
    | [a, b, c, d, e, f, g, h], _ => exact ⟨a, b, c, d, e, f, g, h, rfl⟩
  rfl
theorem hcells_one {hs : List Int} (v : Value) (hv : Value.oneCell' v = true) (n : Int) : ∀ x ∈ hcells 3 hs v n, Value.oneCell' x = true := by
  intro x hx
  simp only [hcells, List.mem_cons, List.mem_append, List.mem_map, List.not_mem_nil, or_false] at hx
  rcases hx with rfl | ⟨_, _, rfl⟩ | rfl | rfl
  · rfl
  · rfl
  · exact hv
  · rfl
theorem copy_spec {hb : Nat} {hs rest : List Int} {n : Int} {wo : Option Nat} {w : World} (h : HashAt w hb hs rest n wo) (hsz : rest.length ≤ 1000000000) :
    Calls Tryz.prog 100 #[.pointer (some ⟨hb, 0, none⟩)] w fun e w' => ∃ cb wo', e = .returned (.pointer (some ⟨cb, 0, none⟩)) ∧ HashAt w' cb hs rest n wo' ∧ w.heap.size ≤ cb ∧ (∀ k, wo' = some k → w.heap.size ≤ k) ∧ Below w.heap.size w w' := by
  obtain ⟨a, l, c, hB, hO, hs8, hwo⟩ := h
  refine calls_of_ev tysOk extsOk Tryz.func100 rfl rfl rfl ?_
  refine IfP.no ?_
  refine NilP.go ?_
  have hlen := hcells_len hs8 (.slice a l c) n
  refine LdAgg.go (o := 0) (n := 11) hB (by omega) ?_
  rw [List.drop_zero, List.take_of_length_le (by omega)]
  refine ChkP.go (by simp [hlen]) ?_
  have hb1 : Below w.heap.size w (w.alloc (.cells inf135.zero.cells 135)) := (Below.refl _ _).alloc (Nat.le_refl _) _
  refine StsP.to (Blk.newA w inf135.zero.cells 135) (hcells_one _ rfl _) (by rw [hlen]; rfl) fun w1 h1 h2 _ => ?_
  have hb2 : Below w.heap.size w w1 := Chg.below ((Chg.of_below hb1).thenC h2 hb1.size (fun k hk e => by cases e; exact Nat.lt_irrefl _ hk))
  refine NilP.go ?_
  refine LdSl.go ((hB.belowS hb2).cell 9 |>.trans (hcells_9 hs8 _ _)) ?_
  refine CallP.intro (clone_own (hO.below hb2) (by rw [hO.len]; omega)) ?_
  rintro e w2 ⟨a', c', o', rfl, h3, h4, h5⟩
  refine ⟨_, rfl, ?_⟩
  have h1 : Blk w1 w.heap.size (hcells 3 hs (.slice a l c) n) 135 := h1
  have h1l := h1.lt
  refine StP.to 9 (h1.belowS h5) rfl (by omega) fun w3 h6 h7 h8 => ?_
  have h7 : Chg w2.heap.size (fun k => k = w.heap.size) w2 w3 := h7
  rw [hcells_set9 hs8] at h6
  have hne : ∀ b, o' = some b → b ≠ w.heap.size := fun b hb e => by have := h4 b hb; omega
  refine ⟨rfl, w.heap.size, o', rfl, ⟨a', l, c', h6, h3.chg h7 h3.lt hne, hs8, fun e => hne _ e rfl⟩, Nat.le_refl _, fun k hk => Nat.le_trans (Nat.le_of_lt h1l) (h4 k hk), ?_⟩
  exact Chg.below (((Chg.of_below (s := fun _ => False) hb2).thenB h5 hb2.size).thenC h7 (Nat.le_trans hb2.size h5.size) (fun k hk e => by cases e; exact Nat.lt_irrefl _ hk))
end Go.Proofs.YthneejblcffdgaaGreatDoor
