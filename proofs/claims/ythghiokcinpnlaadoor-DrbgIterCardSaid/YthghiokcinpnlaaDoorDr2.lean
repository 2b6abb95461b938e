import Derived.Test.YthghiokcinpnlaaDoorDr1
namespace Go.Proofs.YthghiokcinpnlaaDoor
open Go Go.Ev Go.RowKit
set_option maxRecDepth 20000
set_option linter.unusedVariables false

def vIt (kt K V : List Int) : Nat → List Int
  | 0 => V
  | i + 1 => hmac kt K [vIt kt K V i]
theorem vIt_length {kt K V : List Int} (h : V.length = 32) : ∀ i, (vIt kt K V i).length = 32
  | 0 => h
  | i + 1 => hmac_length
def outIt (kt K V : List Int) : Nat → List Int
  | 0 => []
  | i + 1 => outIt kt K V i ++ vIt kt K V (i + 1)
theorem outIt_length {kt K V : List Int} : ∀ i, (outIt kt K V i).length = 32 * i
  | 0 => rfl
  | i + 1 => by rw [outIt, List.length_append, outIt_length i, vIt, hmac_length]; omega
/-- what n bytes are, and the state behind them. -/
def bytesOf (kt K V : List Int) (n : Nat) : List Int := (outIt kt K V ((n + 31) / 32)).take n
def bytesSt (kt K V : List Int) (n : Nat) : List Int × List Int := updKV kt (K, vIt kt K V ((n + 31) / 32)) []
theorem bytesOf_length {kt K V : List Int} (n : Nat) : (bytesOf kt K V n).length = n := by unfold bytesOf; rw [List.length_take, outIt_length]; omega

set_option maxHeartbeats 1000000 in
theorem bytes_spec {kt K V : List Int} {m : Int} {db n : Nat} {w : World} (hd : DAt w db K V m) (hn1 : 1 ≤ n) (hn2 : n ≤ 65536)
    (hk : Row w (some ⟨3, 0, none⟩) .u64 kt) (hkl : kt.length = 80) (hk0 : 3 ≠ db) :
    Calls Tryd.prog 12 #[.pointer (some ⟨db, 0, none⟩), .int .i64 n] w fun e w' => ∃ ob, e = .returned (.slice (some ⟨ob, 0, none⟩) n n) ∧ Row w' (some ⟨ob, 0, none⟩) .u8 (bytesOf kt K V n) ∧ w.heap.size ≤ ob ∧
      DAt w' db (bytesSt kt K V n).1 (bytesSt kt K V n).2 (IntKind.i64.wrap (m + 1)) ∧ Chg w.heap.size (fun k => k = db) w w' := by
  have hdl := hd.lt
  have hkl3 : 3 < w.heap.size := by obtain ⟨b, o, h1, h2⟩ := hk 0 (by omega); cases h1; exact cell_lt h2
  obtain ⟨ka, kc, va0, vc0, hB, hK, hV, hK32, hV32, hka, hva⟩ := hd
  refine calls_of_ev tysOk extsOk Tryd.func12 rfl rfl rfl ?_
  refine IfP.yes ?_
  refine IfP.yes ?_
  refine IfP.no ?_
  refine IfP.pos (by simp <;> omega) ?_
  refine IfP.pos (by simp <;> omega) ?_
  refine IfP.neg (by simp <;> omega) ?_
  refine IfP.neg (by simp <;> omega) ?_
  refine LoopP.go (S := Nat × Option Addr × Nat × Option Nat) 68719411232 (by kernel_rfl) (fun s => [(5, .slice s.2.1 (32 * s.1) s.2.2.1)])
    (fun s W => 32 * s.1 < n + 32 ∧ (∃ va vc, Blk W db [.slice ka 32 kc, .slice va 32 vc, .int .i64 m] 42 ∧ Row W va .u8 (vIt kt K V s.1) ∧ (∀ p, va = some p → p.block ≠ db ∧ p.block < W.heap.size)) ∧ OwnS .u8 5 W s.2.1 (32 * s.1) s.2.2.1 (outIt kt K V s.1) s.2.2.2 ∧ (∀ k, s.2.2.2 = some k → w.heap.size ≤ k) ∧ Chg w.heap.size (fun k => k = db) w W)
    (fun s => n + 32 - 32 * s.1) (0, none, 0, none) ⟨rfl, trivial⟩
    ⟨by show 0 < _; omega, ⟨va0, vc0, hB, hV, hva⟩, OwnS.nil _, (fun k hk => by cases hk), Chg.refl _ _ _⟩ ?_
  rintro ⟨i, oa, oc, oo⟩ j W ⟨k1, ⟨va, vc, k2, k3, k4⟩, k5, k6, k7⟩
  simp only at k1 k2 k3 k5 k6
  have hszW := k7.size
  have hKW := hK.chg k7 (fun p hp => (hka p hp).1)
  have hkaW : ∀ p, ka = some p → p.block ≠ db ∧ p.block < W.heap.size := fun p hp => ⟨(hka p hp).1, by have := (hka p hp).2; omega⟩
  have hkW := hk.chg k7 (by intro p hp; cases hp; exact hk0)
  have hvl := vIt_length (kt := kt) (K := K) hV32 i
  have hdW : DAt W db K (vIt kt K V i) m := ⟨ka, kc, va, vc, k2, hKW, k3, hK32, hvl, hkaW, k4⟩
  have hk5l := k5.len
  refine IfP.dec (fun hlt => ?_) (fun hge => ?_)
  · have hlt' : 32 * i < n := by omega
    refine NilP.go ?_
    refine LdSl.go (k2.cell 1) ?_
    have P1 := one_part W (vc := vc) k3 hvl
    refine CallP.intro (mac_spec (hdW.below P1.2) P1.1 rfl (by decide) (hkW.below P1.2) hkl) ?_
    rintro e w1 ⟨a1, c1, o1, rfl, x1, y1, z1⟩
    refine ⟨_, rfl, ?_⟩
    have hB1 : Below W.heap.size W w1 := P1.2.trans (z1.mono P1.2.size)
    have y1 : ∀ k, o1 = some k → W.heap.size ≤ k := fun k hk => Nat.le_trans P1.2.size (y1 k hk)
    have hW1 := hB1.size
    have hdbW := k2.lt
    refine NilP.go ?_
    refine StP.to 1 (k2.belowS hB1) rfl (Nat.succ_lt_succ (Nat.succ_pos _)) fun w2 g1 g2 g3 => ?_
    have g1 : Blk w2 db [.slice ka 32 kc, .slice a1 32 c1, .int .i64 m] 42 := g1
    have g2 : Chg w1.heap.size (fun k => k = db) w1 w2 := g2
    have x2 : OwnS .u8 5 w2 a1 32 c1 (vIt kt K V (i + 1)) o1 := x1.chg g2 x1.lt (fun b hb => by have := y1 b hb; omega)
    have q2 := (k5.below hB1).chg g2 (fun b hb => Nat.lt_of_lt_of_le (k5.lt b hb) hW1) (fun b hb => by have := k6 b hb; omega)
    have hool := k5.lt
    refine NilP.go ?_
    refine LdSl.go (g1.cell 1) ?_
    refine RdP.row' x2.row x2.len ?_
    refine App.own q2 x2.len (by omega) (by decide) fun a3 c3 o3 w3 r1 r2 r3 => ?_
    have hC2 : Chg w.heap.size (fun k => k = db) w w2 := (k7.thenB hB1 hszW).thenC g2 (by omega) (fun _ _ h => h)
    have hC3 : Chg w.heap.size (fun k => k = db) w w3 := hC2.thenC r2 hC2.size (fun k hk e => by have := k6 k e; omega)
    have x3 := x2.chg r2 x2.lt (fun b hb e => by have := y1 b hb; have := hool b e; omega)
    refine ⟨rfl, (i + 1, a3, c3, o3), ⟨⟨rfl, trivial⟩, by show 32 * (i + 1) < _; omega, ⟨a1, c1, g1.chg r2 g1.lt (fun e => by have := k6 _ e; omega), x3.row, fun p hp => ?_⟩, r1, fun k hk' => ?_, hC3⟩, by show n + 32 - 32 * (i + 1) < n + 32 - 32 * i; omega⟩
    · have := x3.at p hp
      have h1 := y1 _ this
      exact ⟨by omega, x3.lt _ this⟩
    · rcases r3 with r3 | r3
      · exact k6 k (r3 ▸ hk')
      · rw [r3] at hk'; cases hk'; exact hC2.size
  · have hi : i = (n + 31) / 32 := by omega
    refine CallP.intro (update_spec hdW (Row.nil _ none .u8) rfl (by decide) hkW hkl hk0) ?_
    rintro e w1 ⟨rfl, h1, h2⟩
    refine ⟨_, rfl, ?_⟩
    rw [hi] at h1
    obtain ⟨kb, kd, vb, vd, f1, f2, f3, f4, f5, f6, f7⟩ := h1
    refine NilP.go ?_
    refine LdI.go (f1.cell 2) ?_
    refine NilP.go ?_
    refine StP.to 2 f1 rfl (Nat.succ_lt_succ (Nat.succ_lt_succ (Nat.succ_pos _))) fun w2 g1 g2 g3 => ?_
    have g1 : Blk w2 db [.slice kb 32 kd, .slice vb 32 vd, .int .i64 (IntKind.i64.wrap (m + 1))] 42 := g1
    have g2 : Chg w1.heap.size (fun k => k = db) w1 w2 := g2
    have hC1 := k7.thenC h2 hszW (fun _ _ h => h)
    have hC2 := hC1.thenC g2 hC1.size (fun _ _ h => h)
    cases oo with
    | none => have := k5.2.1; omega
    | some ob =>
      obtain ⟨rfl, hol, hob⟩ := k5
      have hobl := hob.lt
      have hobw := k6 ob rfl
      have hoc := hob.le
      refine SlcP.first (l := 32 * i) (c := oc) n n rfl rfl (Nat.le_refl _) (by omega) ?_
      refine ⟨rfl, ob, rfl, ?_, hobw, ?_, hC2⟩
      · have := ((hob.row).chg h2 (fun p hp => by cases hp; show ob ≠ db; omega)).chg g2 (fun p hp => by cases hp; show ob ≠ db; omega)
        unfold bytesOf
        rw [← hi]
        exact this.take n
      · refine ⟨kb, kd, vb, vd, g1, f2.chg g2 (fun p hp => (f6 p hp).1), f3.chg g2 (fun p hp => (f7 p hp).1), f4, f5, fun p hp => by rw [g3]; exact f6 p hp, fun p hp => by rw [g3]; exact f7 p hp⟩
end Go.Proofs.YthghiokcinpnlaaDoor
