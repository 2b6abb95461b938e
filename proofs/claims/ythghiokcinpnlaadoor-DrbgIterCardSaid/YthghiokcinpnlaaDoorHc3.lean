import Derived.Test.YthghiokcinpnlaaDoorHc2
namespace Go.Proofs.YthghiokcinpnlaaDoor
open Go Go.Ev Go.RowKit
set_option maxRecDepth 20000
set_option linter.unusedVariables false

/-- the blocks of a message, one after another. -/
def absorb (kt hs all : List Int) : Nat → List Int
  | 0 => hs
  | i + 1 => compress kt (absorb kt hs all i) ((all.drop (64 * i)).take 64)
theorem absorb_length (kt hs all : List Int) (h : hs.length = 8) : ∀ i, (absorb kt hs all i).length = 8
  | 0 => h
  | i + 1 => by rw [absorb, compress_length, absorb_length kt hs all h i]
def mixH (kt hs all : List Int) : List Int := absorb kt hs all (all.length / 64)
def mixR (all : List Int) : List Int := all.drop (64 * (all.length / 64))
theorem mixR_length (all : List Int) : (mixR all).length < 64 := by simp [mixR]; omega

/-- a hash lies at hb: its words, what waits, its count; the block of what waits is wo. -/
def HashAt (w : World) (hb : Nat) (hs rest : List Int) (n : Int) (wo : Option Nat) : Prop :=
  ∃ a l c, Blk w hb (hcells 3 hs (.slice a l c) n) 101 ∧ OwnS .u8 5 w a l c rest wo ∧ hs.length = 8 ∧ wo ≠ some hb
theorem HashAt.lt {w : World} {hb : Nat} {hs rest : List Int} {n : Int} {wo : Option Nat} (h : HashAt w hb hs rest n wo) : hb < w.heap.size := by obtain ⟨a, l, c, h, _⟩ := h; exact h.lt
theorem HashAt.wlt {w : World} {hb : Nat} {hs rest : List Int} {n : Int} {wo : Option Nat} (h : HashAt w hb hs rest n wo) : ∀ b, wo = some b → b < w.heap.size := by obtain ⟨a, l, c, _, h, _⟩ := h; exact h.lt
theorem HashAt.chg {w w' : World} {B hb : Nat} {s : Nat → Prop} {hs rest : List Int} {n : Int} {wo : Option Nat} (h : HashAt w hb hs rest n wo) (hc : Chg B s w w') (hB : hb < B) (hw : ∀ b, wo = some b → b < B) (h1 : ¬ s hb) (h2 : ∀ b, wo = some b → ¬ s b) : HashAt w' hb hs rest n wo := by
  obtain ⟨a, l, c, g1, g2, g3, g4⟩ := h
  exact ⟨a, l, c, g1.chg hc hB h1, g2.chg hc hw h2, g3, g4⟩
theorem HashAt.below {w w' : World} {hb : Nat} {hs rest : List Int} {n : Int} {wo : Option Nat} (h : HashAt w hb hs rest n wo) (hc : Below w.heap.size w w') : HashAt w' hb hs rest n wo := by
  obtain ⟨a, l, c, g1, g2, g3, g4⟩ := h
  exact ⟨a, l, c, g1.belowS hc, g2.below hc, g3, g4⟩

theorem write_spec {kt : List Int} {hb : Nat} {hs rest bs : List Int} {n : Int} {wo : Option Nat} {a : Option Addr} {l c : Nat} {w : World} (h : HashAt w hb hs rest n wo) (hr : Row w a .u8 bs) (hl : l = bs.length) (hsz : rest.length + l ≤ 1000000000)
    (hoff : 0 < bs.length → ∀ p, a = some p → p.block ≠ hb ∧ wo ≠ some p.block) (hk : Row w (some ⟨3, 0, none⟩) .u64 kt) (hkl : kt.length = 80) (hk0 : 3 ≠ hb) (hk1 : wo ≠ some 3) :
    Calls Tryd.prog 58 #[.pointer (some ⟨hb, 0, none⟩), .slice a l c] w fun e w' => e = .returned (.tuple #[]) ∧ ∃ wo', HashAt w' hb (mixH kt hs (rest ++ bs)) (mixR (rest ++ bs)) (IntKind.u64.wrap (n + IntKind.u64.wrap l)) wo' ∧ (∀ k, wo' = some k → w.heap.size ≤ k) ∧ Chg w.heap.size (fun k => k = hb ∨ wo = some k) w w' := by
  obtain ⟨wa, wl, wc, hB, hO, hs8, hwo⟩ := h
  have hbl := hB.lt
  refine calls_of_evM tysOk extsOk Tryd.func58 rfl rfl rfl ?_
  -- the receiver's box
  have hx0 : Blk (w.alloc (.cells (#[.pointer (some ⟨hb, 0, none⟩)] : Array Value) 76)) w.heap.size [.pointer (some ⟨hb, 0, none⟩)] 76 := Blk.newA _ _ _
  have hA0 : Below w.heap.size w (w.alloc (.cells (#[.pointer (some ⟨hb, 0, none⟩)] : Array Value) 76)) := (Below.refl _ _).alloc (Nat.le_refl _) _
  refine LdPt.go (hx0.cell 0) ?_
  refine IfP.no ?_
  refine LdPt.go (hx0.cell 0) ?_
  refine NilP.go ?_
  have hB0 := hB.belowS hA0
  have hc10 : ∀ m v, (hcells 3 hs v m)[10]? = some (.int .u64 m) := by intro m v; simp [hcells, hs8]
  have hc9 : ∀ m v, (hcells 3 hs v m)[9]? = some v := by intro m v; simp [hcells, hs8]
  refine LdI.go ((hB0.cell 10).trans (hc10 _ _)) ?_
  refine NilP.go ?_
  have hset : ∀ v m m', (hcells 3 hs v m).set 10 (.int .u64 m') = hcells 3 hs v m' := by
    intro v m m'
    obtain ⟨x0, x1, x2, x3, x4, x5, x6, x7, rfl⟩ : ∃ a b c d e f g h, hs = [a, b, c, d, e, f, g, h] := by
      match hs, hs8 with
      | [a, b, c, d, e, f, g, h], _ => exact ⟨a, b, c, d, e, f, g, h, rfl⟩
    rfl
  have hset9 : ∀ v v' m, (hcells 3 hs v m).set 9 v' = hcells 3 hs v' m := by
    intro v v' m
    obtain ⟨x0, x1, x2, x3, x4, x5, x6, x7, rfl⟩ : ∃ a b c d e f g h, hs = [a, b, c, d, e, f, g, h] := by
      match hs, hs8 with
      | [a, b, c, d, e, f, g, h], _ => exact ⟨a, b, c, d, e, f, g, h, rfl⟩
    rfl
  refine StP.to 10 hB0 rfl (by simp [hcells, hs8]) fun w1 hB1 hC1 _ => ?_
  have hn' : ∃ n', IntKind.u64.wrap (n + IntKind.u64.wrap l) = n' := ⟨_, rfl⟩
  obtain ⟨n', hn'⟩ := hn'
  rw [hset, hn'] at hB1
  rw [hn']
  have hx1 := hx0.chg hC1 hx0.lt (Nat.ne_of_gt hbl)
  have hC1 : Chg w.heap.size (fun k => k = hb) w w1 := (Chg.of_below hA0).trans (hC1.mono hA0.size (fun _ _ h => h))
  have hO1 := hO.chg hC1 hO.lt (fun b hb' e => hwo (by rw [hb', e]))
  have hr1 := hr.chg0 hC1 (fun h0 p hp => (hoff h0 p hp).1)
  refine LdPt.go (hx1.cell 0) ?_
  refine NilP.go ?_
  refine LdSl.go ((hB1.cell 9).trans (hc9 _ _)) ?_
  refine RdP.row' hr1 (by rw [hl]; exact Nat.mul_one _) ?_
  have hwl := hO.len
  refine App.own hO1 hl (by omega) (by decide) fun al ca oa w2 hO2 hC2 ho2 => ?_
  generalize hall : rest ++ bs = all at *
  have hal := hO2.len
  have hB2 := hB1.chg hC2 hB1.lt hwo
  have hx2 := hx1.chg hC2 hx1.lt (fun e => Nat.lt_irrefl _ (hO.lt _ e))
  have hoa : ∀ b, oa = some b → b ≠ hb ∧ b ≠ w.heap.size ∧ b ≠ 3 ∧ b < w2.heap.size := by
    intro b hb'
    refine ⟨?_, ?_, ?_, hO2.lt b hb'⟩
    all_goals rcases ho2 with rfl | rfl
    · intro e; exact hwo (by rw [hb', e])
    · cases hb'; exact Nat.ne_of_gt (Nat.lt_of_lt_of_le hbl hC1.size)
    · intro e; exact Nat.lt_irrefl _ (hO.lt _ (by rw [hb', e]))
    · cases hb'; exact Nat.ne_of_gt hx1.lt
    · intro e; exact hk1 (by rw [hb', e])
    · cases hb'
      obtain ⟨b', o', e1, e2⟩ := hk 0 (by omega)
      cases e1
      exact Nat.ne_of_gt (Nat.lt_of_lt_of_le (cell_lt e2) hC1.size)
  refine LdPt.go (hx2.cell 0) ?_
  refine NilP.go ?_
  refine StP.to 9 hB2 rfl (by simp [hcells, hs8]) fun w3 hB3 hC3 _ => ?_
  rw [hset9] at hB3
  have hx3 := hx2.chg hC3 hx2.lt (Nat.ne_of_gt hbl)
  have hO3 := hO2.chg hC3 hO2.lt (fun b h e => (hoa b h).1 e)
  have hC3 : Chg w.heap.size (fun k => k = hb ∨ wo = some k) w w3 :=
    ((hC1.mono (Nat.le_refl _) (fun k _ h => .inl h)).trans (hC2.mono hC1.size (fun k _ h => .inr h))).trans (hC3.mono (Nat.le_trans hC1.size hC2.size) (fun k _ h => .inl h))
  refine LdPt.go (hx3.cell 0) ?_
  refine NilP.go ?_
  refine LdI.go (hB3.cell 0) ?_
  refine CallP.same (block_spec _) ?_
  refine CallP.intro (chunks_spec al _ ca w3) ?_
  rintro e w4 ⟨nb, bb, rfl, g1, g2, g3, g4, g5⟩
  refine ⟨_, rfl, ?_⟩
  refine DrawP.rangeA tysOk extsOk rfl (by kernel_rfl) rfl rfl rfl ?_
  rintro rc d w6 hd hdm hlp hb6 hs6 hy
  have hC4 : Chg w.heap.size (fun k => k = hb ∨ wo = some k) w w4 := hC3.thenB g5 hC3.size
  have hB4 := hB3.belowS g5
  have hx4 := hx3.belowS g5
  have hO4 := hO3.below g5
  have hk4 : Row w4 (some ⟨3, 0, none⟩) .u64 kt := hk.chg hC4 (by intro p hp; cases hp; rintro (h | h); exact hk0 h; exact hk1 h)
  have hC6 : Chg w.heap.size (fun k => k = hb ∨ wo = some k) w w6 := hC4.thenB hb6 hC4.size
  have hbb : bb < w4.heap.size := g4.lt
  have hwb : w.heap.size < bb := Nat.lt_of_lt_of_le hx3.lt g1
  have hkl3 : 3 < w.heap.size := by obtain ⟨b, o, h1, h2⟩ := hk 0 (by omega); cases h1; exact cell_lt h2
  have hbl4 : hb < w4.heap.size := hB4.lt
  have hoa4 : ∀ b, oa = some b → b < w3.heap.size := hO3.lt
  have hall64 := hO4.len
  have hnd : nb < d := by rw [hd]; exact g3.lt
  refine (chunks1_spec (nb := nb) (bb := bb) (lp := d + 1) (all := all) (a0 := al) (l0 := wl + l) (c0 := ca) (w := w6)
    (I := fun i W => W.heap[d + 1]? = some (.loop (rc .ready none)) ∧ Blk W hb (hcells 3 (absorb kt hs all i) (.slice none 0 0) n') 101 ∧ 64 * i ≤ all.length ∧ Chg w6.heap.size (fun k => k = hb ∨ k = d + 1 ∨ k = bb) w6 W)
    (J := fun W => W.heap[d + 1]? = some (.loop (rc .done (some .ret))) ∧ (∃ p cp, Blk W hb (hcells 3 (mixH kt hs all) (.slice (some ⟨p, 0, none⟩) (mixR all).length cp) n') 101 ∧ w6.heap.size ≤ p ∧ Buf .u8 5 W p (mixR all) cp) ∧ Chg w6.heap.size (fun k => k = hb ∨ k = d + 1 ∨ k = bb) w6 W)
    (S := fun k => k = hb ∨ k = d + 1) ?_ (g3.belowS hb6) (g4.belowS hb6) (hO4.row.below hb6) hO4.len hO4.le (by omega) ?_ ?_ ?_ (Nat.ne_of_gt g2) ?_ ?_).mono ?_
  · rintro i W W' ⟨h1, h2, h3, h4⟩ hc
    refine ⟨?_, h2.chg hc h2.lt (by omega), h3, h4.trans (hc.mono h4.size (fun k _ h => .inr (.inr h)))⟩
    rw [hc.block _ (heap_lt h1) (by omega)]; exact h1
  · omega
  · omega
  · intro p hp
    have := hO4.at p hp
    have h1 := hoa _ this
    have h2 := hoa4 _ this
    refine ⟨by omega, by omega⟩
  · exact ⟨hlp, hB4.belowS hb6, by omega, Chg.refl _ _ _⟩
  · rintro i W p cp hlt ⟨h1, h2, h3, h4⟩ hp hbf
    refine hy [.int .i64 i, .slice (some ⟨p, 0, none⟩) (min 64 (wl + l - 64 * i)) cp] W _ h1 rfl ?_
    refine ⟨h1, ?_⟩
    have hlpW : d + 1 < W.heap.size := heap_lt h1
    have hpW := hbf.lt
    have hxW : Blk W w.heap.size [.pointer (some ⟨hb, 0, none⟩)] 76 := (hx4.belowS hb6).chg h4 (by have := hx4.lt; omega) (by have := hx4.lt; omega)
    have hkW : Row W (some ⟨3, 0, none⟩) .u64 kt := (hk4.below hb6).chg h4 (by intro p hp; cases hp; show ¬ (3 = hb ∨ 3 = d + 1 ∨ 3 = bb); omega)
    have hput : ∀ W' o, Chg w6.heap.size (fun k => k = hb ∨ k = d + 1 ∨ k = bb) w6 W' → Chg w6.heap.size (fun k => k = hb ∨ k = d + 1 ∨ k = bb) w6 (W'.putObj (d + 1) o) := fun W' o h => h.put _ _ (fun _ => .inr (.inl rfl))
    generalize hW1 : W.putObj (d + 1) (.loop (rc .busy none)) = W1
    have hc1 : Chg W.heap.size (fun k => k = d + 1) W W1 := by rw [← hW1]; exact (Chg.refl _ _ _).put _ _ (fun _ => rfl)
    have hl1 : W1.heap[d + 1]? = some (.loop (rc .busy none)) := by rw [← hW1]; exact put_same hlpW
    have h41 : Chg w6.heap.size (fun k => k = hb ∨ k = d + 1 ∨ k = bb) w6 W1 := by rw [← hW1]; exact hput _ _ h4
    have hx1 := hxW.chg hc1 hxW.lt (by have := hx4.lt; omega)
    have hB1 := h2.chg hc1 h2.lt (by omega)
    have hk1 := hkW.chg hc1 (by intro p hp; cases hp; show ¬ (3 = d + 1); omega)
    have hf1 := hbf.chg hc1 hpW (by omega)
    have hal8 := absorb_length kt hs all hs8 i
    have hdl : ((all.drop (64 * i)).take 64).length = min 64 (wl + l - 64 * i) := by simp [hall64]
    refine LdPt.go (hx1.cell 0) ?_
    refine NilP.go ?_
    refine LdI.go (hB1.cell 0) ?_
    refine CallP.same (block_spec _) ?_
    refine IfP.dec (fun hsm => ?_) (fun hbig => ?_)
    · refine LdPt.go (hx1.cell 0) ?_
      refine NilP.go ?_
      refine StP.to 9 hB1 rfl (by simp [hcells, hal8]) fun W2 hB2 hc2 hs2 => ?_
      have hc2 : Chg W1.heap.size (fun k => k = hb) W1 W2 := hc2
      have hl2 : W2.heap[d + 1]? = some (.loop (rc .busy none)) := (hc2.block _ (heap_lt hl1) (by show ¬ (d + 1 = hb); omega)).trans hl1
      refine ⟨hl2, .inr ⟨rfl, put_same (heap_lt hl2), ⟨p, cp, ?_, hp, ?_⟩, hput _ _ (h41.thenC hc2 h41.size (fun k _ h => .inl h))⟩⟩
      · have hi : all.length / 64 = i := by omega
        have hcl : ∀ v v' m, (hcells 3 (absorb kt hs all i) v m).set 9 v' = hcells 3 (absorb kt hs all i) v' m := by
          intro v v' m
          obtain ⟨x0, x1, x2, x3, x4, x5, x6, x7, e⟩ : ∃ a b c d e f g h, absorb kt hs all i = [a, b, c, d, e, f, g, h] := by
            match absorb kt hs all i, hal8 with
            | [a, b, c, d, e, f, g, h], _ => exact ⟨a, b, c, d, e, f, g, h, rfl⟩
          rw [e]; rfl
        rw [hcl] at hB2
        have hm : (mixR all).length = min 64 (wl + l - 64 * i) := by rw [mixR, hi, List.length_drop]; omega
        rw [hm, mixH, hi]
        exact hB2.put _ _ (by show hb ≠ d + 1; omega)
      · have hi : all.length / 64 = i := by omega
        have hm : mixR all = (all.drop (64 * i)).take 64 := by rw [mixR, hi, List.take_of_length_le (by rw [List.length_drop]; omega)]
        rw [hm]
        have := hf1.chg hc2 hf1.lt (by show ¬ (p = hb); omega)
        exact this.chg ((Chg.refl W2.heap.size (fun k => k = d + 1) W2).put (d + 1) _ (fun _ => rfl)) this.lt (by omega)
    · have hfull : min 64 (wl + l - 64 * i) = 64 := by omega
      refine LdPt.go (hx1.cell 0) ?_
      refine CallP.intro (take_spec hb _ _ _ n' (.slice none 0 0) (absorb kt hs all i) ((all.drop (64 * i)).take 64) kt W1 hB1 hal8 hf1.row hdl.symm (by omega) (by have := hf1.le; omega) ?_ hk1 hkl hk0) ?_
      · intro q hq; cases hq; show p ≠ hb; omega
      rintro e W2 ⟨rfl, hB2, hc2⟩
      refine ⟨_, rfl, ?_⟩
      have hl2 : W2.heap[d + 1]? = some (.loop (rc .busy none)) := (hc2.block _ (heap_lt hl1) (by show ¬ (d + 1 = hb); omega)).trans hl1
      refine ⟨hl2, .inl ⟨rfl, ⟨put_same (heap_lt hl2), hB2.put _ _ (by omega), by omega, hput _ _ (h41.thenC hc2 h41.size (fun k _ h => .inl h))⟩, ?_⟩⟩
      refine Chg.put (Chg.thenC (hc1.mono (Nat.le_refl _) (fun k _ h => .inr h)) hc2 hc1.size (fun k _ h => .inl h)) _ _ (fun _ => .inr rfl)
  · rintro e W ⟨rfl, hJ⟩
    refine ⟨_, rfl, ?_⟩
    have hfin : ∀ o1 o2, Chg w6.heap.size (fun k => k = hb ∨ k = d + 1 ∨ k = bb) w6 W → Chg w.heap.size (fun k => k = hb ∨ wo = some k) w ((W.putObj (d + 1) o1).putObj d o2) := by
      intro o1 o2 h
      refine ((hC6.thenC h hC6.size ?_).put _ _ ?_).put _ _ ?_
      · rintro k hk (h | h | h)
        · exact .inl h
        · omega
        · omega
      · intro _; omega
      · intro _; omega
    have hmark : ∀ o1, Chg w6.heap.size (fun k => k = hb ∨ k = d + 1 ∨ k = bb) w6 W → (W.putObj (d + 1) o1).heap[d]? = some (.deferred (some [])) := by
      intro o1 h
      rw [World.putObj_heap_other (by omega), h.block d (by omega) (by omega)]
      exact hdm
    rcases hJ with ⟨h1, ⟨p, cp, h2, h3, h4⟩, h5⟩ | ⟨i, hi, h1, h2, h3, h4⟩
    · refine .inr ⟨.ret, rfl, rfl, h1, ?_⟩
      refine .inr ⟨d, rfl, hmark _ h5, rfl, some p, ⟨some ⟨p, 0, none⟩, _, cp, (h2.put _ _ ?_).put _ _ ?_, ⟨rfl, rfl, ?_⟩, ?_, ?_⟩, ?_, hfin _ _ h5⟩
      · omega
      · omega
      · have h6 := h4.chg ((Chg.refl W.heap.size (fun k => k = d + 1) W).put (d + 1) (.loop (rc .exhausted (some .ret))) (fun _ => rfl)) h4.lt (by omega)
        exact h6.chg ((Chg.refl _ (fun k => k = d) _).put d (.deferred none) (fun _ => rfl)) h6.lt (by omega)
      · exact absorb_length _ _ _ hs8 _
      · intro e; cases e; omega
      · intro k hk; cases hk; omega
    · have hi' : all.length / 64 = i := by omega
      have hm : mixR all = [] := by rw [mixR, hi', List.drop_of_length_le (by omega)]
      refine .inl ⟨h1, ?_⟩
      refine .inr ⟨d, rfl, hmark _ h4, rfl, none, ⟨none, 0, 0, ?_, ⟨rfl, rfl, rfl, hm⟩, ?_, ?_⟩, ?_, hfin _ _ h4⟩
      · rw [mixH, hi']
        exact (h2.put _ _ (by omega)).put _ _ (by omega)
      · exact absorb_length _ _ _ hs8 _
      · intro e; cases e
      · intro k hk; cases hk
end Go.Proofs.YthghiokcinpnlaaDoor
