import Derived.Test.YthghiokcinpnlaaDoorHc7
namespace Go.Proofs.YthghiokcinpnlaaDoor
open Go Go.Ev Go.RowKit
set_option maxRecDepth 20000
set_option linter.unusedVariables false

/-! ### the generator -/
/-- a state: key, value, count. -/
def DAt (w : World) (db : Nat) (K V : List Int) (n : Int) : Prop :=
  ∃ ka kc va vc, Blk w db [.slice ka 32 kc, .slice va 32 vc, .int .i64 n] 42 ∧ Row w ka .u8 K ∧ Row w va .u8 V ∧ K.length = 32 ∧ V.length = 32 ∧ (∀ p, ka = some p → p.block ≠ db ∧ p.block < w.heap.size) ∧ (∀ p, va = some p → p.block ≠ db ∧ p.block < w.heap.size)
theorem DAt.lt {w : World} {db : Nat} {K V : List Int} {n : Int} (h : DAt w db K V n) : db < w.heap.size := by obtain ⟨ka, kc, va, vc, h, _⟩ := h; exact h.lt
theorem DAt.below {w w' : World} {db : Nat} {K V : List Int} {n : Int} (h : DAt w db K V n) (hb : Below w.heap.size w w') : DAt w' db K V n := by
  obtain ⟨ka, kc, va, vc, h1, h2, h3, h4, h5, h6, h7⟩ := h
  exact ⟨ka, kc, va, vc, h1.belowS hb, h2.below hb, h3.below hb, h4, h5, fun p hp => ⟨(h6 p hp).1, Nat.lt_of_lt_of_le (h6 p hp).2 hb.size⟩, fun p hp => ⟨(h7 p hp).1, Nat.lt_of_lt_of_le (h7 p hp).2 hb.size⟩⟩

theorem DAt.row_off {w : World} {db : Nat} {K V xs : List Int} {n : Int} {a : Option Addr} (h : DAt w db K V n) (hr : Row w a .u8 xs) (hx : 0 < xs.length) : ∀ p, a = some p → p.block ≠ db := by
  obtain ⟨ka, kc, va, vc, h1, _⟩ := h
  obtain ⟨b, o, e1, e2⟩ := hr 0 hx
  intro p hp
  rw [hp] at e1
  cases e1
  intro e
  have e : b = db := e
  subst e
  rw [h1.cell] at e2
  rcases o with _ | _ | _ | o
  · cases e2
  · cases e2
  · cases e2
  · cases e2
theorem DAt.ldV {w : World} {db : Nat} {K V : List Int} {n : Int} {k : Option Addr → Nat → Nat → Prop} (h : DAt w db K V n) (hk : ∀ a c, Row w a .u8 V → V.length = 32 → (∀ p, a = some p → p.block ≠ db ∧ p.block < w.heap.size) → k a 32 c) : LdSl ⟨db, 1, none⟩ k w := by
  obtain ⟨ka, kc, va, vc, h1, h2, h3, h4, h5, h6, h7⟩ := h
  exact LdSl.go (h1.cell 1) (hk va vc h3 h5 h7)
theorem DAt.stK {w : World} {db : Nat} {K V K' : List Int} {n : Int} {a : Option Addr} {c : Nat} {o : Option Nat} {k : World → Prop} (h : DAt w db K V n) (hO : OwnS .u8 5 w a 32 c K' o) (ho : o ≠ some db)
    (hk : ∀ w', DAt w' db K' V n → Chg w.heap.size (fun k => k = db) w w' → k w') : StP ⟨db, 0, none⟩ (.slice a 32 c) k w := by
  obtain ⟨ka, kc, va, vc, h1, h2, h3, h4, h5, h6, h7⟩ := h
  refine StP.to 0 h1 rfl (Nat.succ_pos _) fun w' g1 g2 g3 => hk w' ⟨a, c, va, vc, g1, ?_, ?_, hO.len.symm, h5, ?_, ?_⟩ g2
  · exact hO.row.chg g2 (fun p hp e => ho (by rw [hO.at p hp]; exact congrArg some e))
  · exact h3.chg g2 (fun p hp => (h7 p hp).1)
  · intro p hp
    have := hO.at p hp
    exact ⟨fun e => ho (by rw [this, e]), by rw [g3]; exact hO.lt _ this⟩
  · intro p hp; rw [g3]; exact h7 p hp
theorem DAt.stV {w : World} {db : Nat} {K V V' : List Int} {n : Int} {a : Option Addr} {c : Nat} {o : Option Nat} {k : World → Prop} (h : DAt w db K V n) (hO : OwnS .u8 5 w a 32 c V' o) (ho : o ≠ some db)
    (hk : ∀ w', DAt w' db K V' n → Chg w.heap.size (fun k => k = db) w w' → k w') : StP ⟨db, 1, none⟩ (.slice a 32 c) k w := by
  obtain ⟨ka, kc, va, vc, h1, h2, h3, h4, h5, h6, h7⟩ := h
  refine StP.to 1 h1 rfl (Nat.succ_lt_succ (Nat.succ_pos _)) fun w' g1 g2 g3 => hk w' ⟨ka, kc, a, c, g1, ?_, ?_, h4, hO.len.symm, ?_, ?_⟩ g2
  · exact h2.chg g2 (fun p hp => (h6 p hp).1)
  · exact hO.row.chg g2 (fun p hp e => ho (by rw [hO.at p hp]; exact congrArg some e))
  · intro p hp; rw [g3]; exact h6 p hp
  · intro p hp
    have := hO.at p hp
    exact ⟨fun e => ho (by rw [this, e]), by rw [g3]; exact hO.lt _ this⟩

theorem mac_spec {kt K V : List Int} {n : Int} {parts : List (List Int)} {db : Nat} {pa : Option Addr} {pl pc : Nat} {w : World} (hd : DAt w db K V n)
    (hp : Parts w pa parts) (hpl : pl = parts.length) (hp9 : pl ≤ 1000) (hk : Row w (some ⟨3, 0, none⟩) .u64 kt) (hkl : kt.length = 80) :
    Calls Tryd.prog 21 #[.pointer (some ⟨db, 0, none⟩), .slice pa pl pc] w fun e w' => ∃ a' c' o', e = .returned (.slice a' 32 c') ∧ OwnS .u8 5 w' a' 32 c' (hmac kt K parts) o' ∧ (∀ k, o' = some k → w.heap.size ≤ k) ∧ Below w.heap.size w w' := by
  obtain ⟨ka, kc, va, vc, h1, h2, h3, h4, h5, h6, h7⟩ := hd
  refine calls_of_ev tysOk extsOk Tryd.func21 rfl rfl rfl ?_
  refine NilP.go ?_
  refine LdSl.go (h1.cell 0) ?_
  refine CallP.intro (hmac_spec h2 h4.symm (by omega) hp hpl hp9 hk hkl) ?_
  rintro e w1 ⟨a', c', o', rfl, b1, b2, b3⟩
  exact ⟨_, rfl, rfl, a', c', o', rfl, b1, b2, b3⟩

def updKV (kt : List Int) (s : List Int × List Int) (data : List Int) : List Int × List Int :=
  let K1 := hmac kt s.1 [s.2, [0], data]
  let V1 := hmac kt K1 [s.2]
  if 0 < data.length then
    let K2 := hmac kt K1 [V1, [1], data]
    (K2, hmac kt K2 [V1])
  else (K1, V1)
theorem Parts.one {w : World} {b : Nat} {a : Option Addr} {l c : Nat} {T : TypeId} {xs : List Int} (h : Blk w b [.slice a l c] T) (hr : Row w a .u8 xs) (hl : l = xs.length) (h9 : l ≤ 100000000) : Parts w (some ⟨b, 0, none⟩) [xs] := by
  intro i hi
  have hi0 : i = 0 := by simp at hi; omega
  subst hi0
  exact ⟨b, 0, a, l, c, rfl, h.cell 0, hr, hl, h9⟩
theorem Parts.three {w : World} {b : Nat} {a1 a2 a3 : Option Addr} {l1 c1 l2 c2 l3 c3 : Nat} {T : TypeId} {x1 x2 x3 : List Int} (h : Blk w b [.slice a1 l1 c1, .slice a2 l2 c2, .slice a3 l3 c3] T)
    (r1 : Row w a1 .u8 x1) (e1 : l1 = x1.length) (s1 : l1 ≤ 100000000)
    (r2 : Row w a2 .u8 x2) (e2 : l2 = x2.length) (s2 : l2 ≤ 100000000)
    (r3 : Row w a3 .u8 x3) (e3 : l3 = x3.length) (s3 : l3 ≤ 100000000) : Parts w (some ⟨b, 0, none⟩) [x1, x2, x3] := by
  intro i hi
  rcases i with _ | _ | _ | i
  · exact ⟨b, 0, a1, l1, c1, rfl, h.cell 0, r1, e1, s1⟩
  · exact ⟨b, 0, a2, l2, c2, rfl, h.cell 1, r2, e2, s2⟩
  · exact ⟨b, 0, a3, l3, c3, rfl, h.cell 2, r3, e3, s3⟩
  · exact absurd hi (by simp)

theorem three_parts (w : World) {V data : List Int} {va a : Option Addr} {vc l c : Nat} (x : Int) (hV : Row w va .u8 V) (hV32 : V.length = 32) (hr : Row w a .u8 data) (hl : l = data.length) (h9 : l ≤ 100000000) :
    Parts ((w.alloc (.cells #[.int .u8 x] 5)).alloc (.cells #[.slice va 32 vc, .slice (some ⟨w.heap.size, 0, none⟩) 1 1, .slice a l c] 22)) (some ⟨(w.alloc (.cells #[.int .u8 x] 5)).heap.size, 0, none⟩) [V, [x], data] ∧
    Below w.heap.size w ((w.alloc (.cells #[.int .u8 x] 5)).alloc (.cells #[.slice va 32 vc, .slice (some ⟨w.heap.size, 0, none⟩) 1 1, .slice a l c] 22)) := by
  have b1 : Below w.heap.size w (w.alloc (.cells #[.int .u8 x] 5)) := (Below.refl _ _).alloc (Nat.le_refl _) _
  have x1 : Row (w.alloc (.cells #[.int .u8 x] 5)) (some ⟨w.heap.size, 0, none⟩) .u8 [x] := Row.of_blk 0 (Blk.newA w #[.int .u8 x] 5) (by
    intro i hi
    have hi0 : i = 0 := by simp at hi; omega
    subst hi0; rfl)
  have hsz : w.heap.size < (w.alloc (.cells #[.int .u8 x] 5)).heap.size := by rw [size_alloc]; omega
  have b2 := b1.alloc b1.size (.cells #[.slice va 32 vc, .slice (some ⟨w.heap.size, 0, none⟩) 1 1, .slice a l c] 22)
  refine ⟨?_, b2⟩
  have hB := Blk.newA (w.alloc (.cells #[.int .u8 x] 5)) #[.slice va 32 vc, .slice (some ⟨w.heap.size, 0, none⟩) 1 1, .slice a l c] 22
  have hs2 := b2.size
  have hs3 : (w.alloc (.cells #[.int .u8 x] 5)).heap.size < ((w.alloc (.cells #[.int .u8 x] 5)).alloc (.cells #[.slice va 32 vc, .slice (some ⟨w.heap.size, 0, none⟩) 1 1, .slice a l c] 22)).heap.size := by rw [size_alloc (w.alloc _)]; omega
  exact Parts.three hB (hV.below b2) hV32.symm (by omega) (x1.alloc _) rfl (by show 1 ≤ 100000000; omega) (hr.below b2) hl h9
theorem one_part (w : World) {V : List Int} {va : Option Addr} {vc : Nat} (hV : Row w va .u8 V) (hV32 : V.length = 32) :
    Parts (w.alloc (.cells #[.slice va 32 vc] 22)) (some ⟨w.heap.size, 0, none⟩) [V] ∧ Below w.heap.size w (w.alloc (.cells #[.slice va 32 vc] 22)) := by
  have b1 : Below w.heap.size w (w.alloc (.cells #[.slice va 32 vc] 22)) := (Below.refl _ _).alloc (Nat.le_refl _) _
  have hs2 := b1.size
  exact ⟨Parts.one (Blk.newA w #[.slice va 32 vc] 22) (hV.below b1) hV32.symm (by omega), b1⟩

theorem update_spec {kt K V data : List Int} {n : Int} {db : Nat} {a : Option Addr} {l c : Nat} {w : World} (hd : DAt w db K V n)
    (hr : Row w a .u8 data) (hl : l = data.length) (h9 : l ≤ 100000000) (hk : Row w (some ⟨3, 0, none⟩) .u64 kt) (hkl : kt.length = 80) (hk0 : 3 ≠ db) :
    Calls Tryd.prog 17 #[.pointer (some ⟨db, 0, none⟩), .slice a l c] w fun e w' => e = .returned (.tuple #[]) ∧ DAt w' db (updKV kt (K, V) data).1 (updKV kt (K, V) data).2 n ∧ Chg w.heap.size (fun k => k = db) w w' := by
  refine calls_of_ev tysOk extsOk Tryd.func17 rfl rfl rfl ?_
  have C := Chg.refl w.heap.size (fun k => k = db) w
  refine NilP.go ?_
  refine hd.ldV fun va1 vc1 hv1 hv321 hva1 => ?_
  have P1 := three_parts w (vc := vc1) (c := c) 0 hv1 hv321 hr hl h9
  refine CallP.intro (mac_spec (hd.below P1.2) P1.1 rfl (by decide) (hk.below P1.2) hkl) ?_
  rintro e w1m ⟨a1, c1, o1, rfl, x1, y1, z1⟩
  refine ⟨_, rfl, ?_⟩
  have hB1 : Below w.heap.size w w1m := P1.2.trans (z1.mono P1.2.size)
  have y1 : ∀ k, o1 = some k → w.heap.size ≤ k := fun k hk => Nat.le_trans P1.2.size (y1 k hk)
  refine NilP.go ?_
  refine (hd.below hB1).stK x1 (fun e => by have := y1 _ e; have := hd.lt; omega) fun w1 hd1 hc1 => ?_
  have C1 : Chg w.heap.size (fun k => k = db) w w1 := (C.thenB hB1 C.size).thenC hc1 (Nat.le_trans C.size hB1.size) (fun _ _ h => h)
  have hr1 := hr.chg0 C1 (fun h0 => hd.row_off hr h0)
  have hk1 := hk.chg C1 (by intro p hp; cases hp; exact hk0)
  refine NilP.go ?_
  refine hd1.ldV fun va2 vc2 hv2 hv322 hva2 => ?_
  have P2 := one_part w1 (vc := vc2) hv2 hv322
  refine CallP.intro (mac_spec (hd1.below P2.2) P2.1 rfl (by decide) (hk1.below P2.2) hkl) ?_
  rintro e w2m ⟨a2, c2, o2, rfl, x2, y2, z2⟩
  refine ⟨_, rfl, ?_⟩
  have hB2 : Below w1.heap.size w1 w2m := P2.2.trans (z2.mono P2.2.size)
  have y2 : ∀ k, o2 = some k → w1.heap.size ≤ k := fun k hk => Nat.le_trans P2.2.size (y2 k hk)
  refine NilP.go ?_
  refine (hd1.below hB2).stV x2 (fun e => by have := y2 _ e; have := hd1.lt; omega) fun w2 hd2 hc2 => ?_
  have C2 : Chg w.heap.size (fun k => k = db) w w2 := (C1.thenB hB2 C1.size).thenC hc2 (Nat.le_trans C1.size hB2.size) (fun _ _ h => h)
  have hr2 := hr.chg0 C2 (fun h0 => hd.row_off hr h0)
  have hk2 := hk.chg C2 (by intro p hp; cases hp; exact hk0)
  refine IfP.dec (fun hlt => ?_) (fun hge => ?_)
  · refine NilP.go ?_
    refine hd2.ldV fun va3 vc3 hv3 hv323 hva3 => ?_
    have P3 := three_parts w2 (vc := vc3) (c := c) 1 hv3 hv323 hr2 hl h9
    refine CallP.intro (mac_spec (hd2.below P3.2) P3.1 rfl (by decide) (hk2.below P3.2) hkl) ?_
    rintro e w3m ⟨a3, c3, o3, rfl, x3, y3, z3⟩
    refine ⟨_, rfl, ?_⟩
    have hB3 : Below w2.heap.size w2 w3m := P3.2.trans (z3.mono P3.2.size)
    have y3 : ∀ k, o3 = some k → w2.heap.size ≤ k := fun k hk => Nat.le_trans P3.2.size (y3 k hk)
    refine NilP.go ?_
    refine (hd2.below hB3).stK x3 (fun e => by have := y3 _ e; have := hd2.lt; omega) fun w3 hd3 hc3 => ?_
    have C3 : Chg w.heap.size (fun k => k = db) w w3 := (C2.thenB hB3 C2.size).thenC hc3 (Nat.le_trans C2.size hB3.size) (fun _ _ h => h)
    have hr3 := hr.chg0 C3 (fun h0 => hd.row_off hr h0)
    have hk3 := hk.chg C3 (by intro p hp; cases hp; exact hk0)
    refine NilP.go ?_
    refine hd3.ldV fun va4 vc4 hv4 hv324 hva4 => ?_
    have P4 := one_part w3 (vc := vc4) hv4 hv324
    refine CallP.intro (mac_spec (hd3.below P4.2) P4.1 rfl (by decide) (hk3.below P4.2) hkl) ?_
    rintro e w4m ⟨a4, c4, o4, rfl, x4, y4, z4⟩
    refine ⟨_, rfl, ?_⟩
    have hB4 : Below w3.heap.size w3 w4m := P4.2.trans (z4.mono P4.2.size)
    have y4 : ∀ k, o4 = some k → w3.heap.size ≤ k := fun k hk => Nat.le_trans P4.2.size (y4 k hk)
    refine NilP.go ?_
    refine (hd3.below hB4).stV x4 (fun e => by have := y4 _ e; have := hd3.lt; omega) fun w4 hd4 hc4 => ?_
    have C4 : Chg w.heap.size (fun k => k = db) w w4 := (C3.thenB hB4 C3.size).thenC hc4 (Nat.le_trans C3.size hB4.size) (fun _ _ h => h)
    have hr4 := hr.chg0 C4 (fun h0 => hd.row_off hr h0)
    have hk4 := hk.chg C4 (by intro p hp; cases hp; exact hk0)
    have hpos : 0 < data.length := by omega
    refine ⟨rfl, rfl, ?_, C4⟩
    simp only [updKV, if_pos hpos]
    exact hd4
  · have hpos : ¬ 0 < data.length := by omega
    refine ⟨rfl, rfl, ?_, C2⟩
    simp only [updKV, if_neg hpos]
    exact hd2
end Go.Proofs.YthghiokcinpnlaaDoor
