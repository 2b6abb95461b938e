import Derived.Test.YthghiokcinpnlaaDoorRf5
namespace Go.Proofs.YthghiokcinpnlaaDoor
open Go Go.Ev Go.RowKit
set_option maxRecDepth 20000
set_option linter.unusedVariables false

def rnewKV (data : List Int) : List Int × List Int := rupdKV (List.replicate 32 0, List.replicate 32 1) data
/-- fresh: the struct and its two rows. -/
def RNew (w W : World) (db kb vb : Nat) (V : List Int) : Prop :=
  Blk W db [.slice (some ⟨kb, 0, none⟩) 32 32, .slice (some ⟨vb, 0, none⟩) 32 32, .int .i64 0] 44 ∧ Buf .u8 5 W kb (List.replicate 32 0) 32 ∧ Buf .u8 5 W vb V 32 ∧
    w.heap.size ≤ kb ∧ w.heap.size ≤ vb ∧ kb ≠ vb ∧ kb < db ∧ vb < db ∧ Below w.heap.size w W
set_option maxHeartbeats 1000000 in
theorem rnew_spec {data : List Int} {a : Option Addr} {l c : Nat} {w : World} (hr : Row w a .u8 data) (hl : l = data.length) (h9 : l ≤ 100000) :
    Calls Tryd.prog 9 #[.slice a l c] w fun e w' => ∃ db, e = .returned (.pointer (some ⟨db, 0, none⟩)) ∧ RAt w' db (rnewKV data).1 (rnewKV data).2 0 ∧ w.heap.size ≤ db ∧ Below w.heap.size w w' := by
  refine calls_of_ev tysOk extsOk Tryd.func9 rfl rfl rfl ?_
  refine DrawP.tree tysOk extsOk mixed [] (.alt 0 (.alt 1 (.held 2 (.alt 3 (.take 4 .done) .nil)) .nil) (.alt 1 (.alt 0 (.held 2 (.alt 3 (.take 4 .done) .nil)) .nil) .nil)) 488 (by kernel_rfl) (by kernel_rfl) (X := Nat × Nat × Nat) (fun _ => True)
    (fun s => [(3, .pointer (some ⟨s.1, 0, none⟩))]) (fun s W => RNew w W s.1 s.2.1 s.2.2 (List.replicate 32 0)) ?_ ?_
  · intro w0 c0 b0 s0
    refine ⟨trivial, ?_, ?_, trivial⟩
    · refine Mk.to 32 32 rfl rfl (Nat.le_refl _) (by decide) rfl fun w1 m1 b1 s1 => ?_
      refine ⟨trivial, ?_, trivial⟩
      refine Mk.to 32 32 rfl rfl (Nat.le_refl _) (by decide) rfl fun w2 m2 b2 s2 => ?_
      refine ⟨trivial, ?_⟩
      refine HeldP.go (fun _ _ => rfl) ?_
      refine ⟨⟨trivial, ?_⟩, trivial⟩
      have b3 : Below w2.heap.size w2 (w2.alloc (.cells #[.slice (some ⟨w0.heap.size, 0, none⟩) 32 32, .slice (some ⟨w1.heap.size, 0, none⟩) 32 32, .int .i64 0] 44)) := (Below.refl _ _).alloc (Nat.le_refl _) _
      exact ⟨(w2.heap.size, w0.heap.size, w1.heap.size), ⟨rfl, trivial⟩, Blk.newA _ #[.slice (some ⟨w0.heap.size, 0, none⟩) 32 32, .slice (some ⟨w1.heap.size, 0, none⟩) 32 32, .int .i64 0] _, (m1.below b2).below b3, m2.below b3, b0.size, Nat.le_trans b0.size b1.size, by show w0.heap.size ≠ w1.heap.size; omega, by show w0.heap.size < w2.heap.size; omega, by show w1.heap.size < w2.heap.size; omega,
        b0.trans ((b1.trans ((b2.trans (b3.mono b2.size)).mono b1.size)).mono b0.size)⟩
    · refine Mk.to 32 32 rfl rfl (Nat.le_refl _) (by decide) rfl fun w1 m1 b1 s1 => ?_
      refine ⟨trivial, ?_, trivial⟩
      refine Mk.to 32 32 rfl rfl (Nat.le_refl _) (by decide) rfl fun w2 m2 b2 s2 => ?_
      refine ⟨trivial, ?_⟩
      refine HeldP.go (fun _ _ => rfl) ?_
      refine ⟨⟨trivial, ?_⟩, trivial⟩
      have b3 : Below w2.heap.size w2 (w2.alloc (.cells #[.slice (some ⟨w1.heap.size, 0, none⟩) 32 32, .slice (some ⟨w0.heap.size, 0, none⟩) 32 32, .int .i64 0] 44)) := (Below.refl _ _).alloc (Nat.le_refl _) _
      exact ⟨(w2.heap.size, w1.heap.size, w0.heap.size), ⟨rfl, trivial⟩, Blk.newA _ #[.slice (some ⟨w1.heap.size, 0, none⟩) 32 32, .slice (some ⟨w0.heap.size, 0, none⟩) 32 32, .int .i64 0] _, m2.below b3, (m1.below b2).below b3, Nat.le_trans b0.size b1.size, b0.size, by show w1.heap.size ≠ w0.heap.size; omega, by show w1.heap.size < w2.heap.size; omega, by show w0.heap.size < w2.heap.size; omega,
        b0.trans ((b1.trans ((b2.trans (b3.mono b2.size)).mono b1.size)).mono b0.size)⟩
  · rintro ⟨db, kb, vb⟩ j W hN
    refine LoopP.go (S := Nat) 523792 (by kernel_rfl) (fun i => [(4, .int .i64 i)]) (fun i V => i ≤ 32 ∧ RNew w V db kb vb (List.replicate i 1 ++ List.replicate (32 - i) 0)) (fun i => 32 - i) 0 ⟨rfl, trivial⟩ ⟨by omega, hN⟩ ?_
    rintro i j2 V ⟨hi, h1, h2, h3, h4, h5, h6, h7, h8, h9'⟩
    refine IfP.dec (fun hlt => ?_) (fun hge => ?_)
    · have hlt' : i < 32 := by omega
      refine NilP.go ?_
      refine LdSl.go (h1.cell 1) ?_
      refine IdxP.toBuf i rfl h3 hlt' (by simp; omega) fun V1 g1 g2 g3 => ?_
      have hnext : IntKind.i64.wrap ((i : Int) + 1) = ((i + 1 : Nat) : Int) := by rw [show (i : Int) + 1 = ((i + 1 : Nat) : Int) by omega]; exact i64_of _ (by omega)
      refine ⟨rfl, i + 1, ⟨⟨congrArg (Value.int .i64) hnext, trivial⟩, by omega, h1.chg g2 h1.lt (by omega), h2.chg g2 h2.lt h6, ?_, h4, h5, h6, h7, h8, Chg.below ((Chg.of_below (s := fun _ => False) h9').thenC g2 h9'.size (fun k hk e => by omega))⟩, by omega⟩
      have e : (List.replicate i (1 : Int) ++ List.replicate (32 - i) 0).set i 1 = List.replicate (i + 1) 1 ++ List.replicate (32 - (i + 1)) 0 := by
        rw [show 32 - i = (32 - (i + 1)) + 1 by omega, List.replicate_succ]
        have := set_split (List.replicate i (1 : Int)) 0 1 (List.replicate (32 - (i + 1)) 0)
        rw [List.length_replicate] at this
        rw [this, List.replicate_succ', List.append_assoc, List.singleton_append]
      rw [e] at g1; exact g1
    · have hi : i = 32 := by omega
      subst hi
      rw [Nat.sub_self, List.replicate_zero, List.append_nil] at h3
      have hd : RAt V db (List.replicate 32 0) (List.replicate 32 1) 0 := ⟨_, _, _, _, h1, h2.row, h3.row, rfl, rfl, fun p hp => by cases hp; exact ⟨by show kb ≠ db; omega, h2.lt⟩, fun p hp => by cases hp; exact ⟨by show vb ≠ db; omega, h3.lt⟩⟩
      refine CallP.intro (rupdate_spec hd (hr.below h9') hl h9) ?_
      rintro e w9 ⟨rfl, u1, u2⟩
      refine ⟨_, rfl, rfl, db, rfl, u1, by omega, Chg.below ((Chg.of_below (s := fun _ => False) h9').thenC u2 h9'.size (fun k hk e => by omega))⟩

def rvIt (K V : List Int) : Nat → List Int
  | 0 => V
  | i + 1 => rhmac K [rvIt K V i]
theorem rvIt_length {K V : List Int} (h : V.length = 32) : ∀ i, (rvIt K V i).length = 32
  | 0 => h
  | i + 1 => rhmac_length
def routIt (K V : List Int) : Nat → List Int
  | 0 => []
  | i + 1 => routIt K V i ++ rvIt K V (i + 1)
theorem routIt_length {K V : List Int} : ∀ i, (routIt K V i).length = 32 * i
  | 0 => rfl
  | i + 1 => by rw [routIt, List.length_append, routIt_length i, rvIt, rhmac_length]; omega
def rbytesOf (K V : List Int) (n : Nat) : List Int := (routIt K V ((n + 31) / 32)).take n
def rbytesSt (K V : List Int) (n : Nat) : List Int × List Int := rupdKV (K, rvIt K V ((n + 31) / 32)) []
theorem rbytesOf_length {K V : List Int} (n : Nat) : (rbytesOf K V n).length = n := by unfold rbytesOf; rw [List.length_take, routIt_length]; omega

set_option maxHeartbeats 1000000 in
theorem rbytes_spec {K V : List Int} {m : Int} {db n : Nat} {w : World} (hd : RAt w db K V m) (hn1 : 1 ≤ n) (hn2 : n ≤ 65536) :
    Calls Tryd.prog 11 #[.pointer (some ⟨db, 0, none⟩), .int .i64 n] w fun e w' => ∃ ob c, e = .returned (.slice (some ⟨ob, 0, none⟩) n c) ∧ Row w' (some ⟨ob, 0, none⟩) .u8 (rbytesOf K V n) ∧ w.heap.size ≤ ob ∧
      RAt w' db (rbytesSt K V n).1 (rbytesSt K V n).2 (IntKind.i64.wrap (m + 1)) ∧ Chg w.heap.size (fun k => k = db) w w' := by
  have hdl := hd.lt
  obtain ⟨ka, kc, va0, vc0, hB, hK, hV, hK32, hV32, hka, hva⟩ := hd
  refine calls_of_ev tysOk extsOk Tryd.func11 rfl rfl rfl ?_
  refine IfP.pos (by simp <;> omega) ?_
  refine IfP.pos (by simp <;> omega) ?_
  refine IfP.neg (by simp <;> omega) ?_
  refine IfP.neg (by simp <;> omega) ?_
  refine LoopP.go (S := Nat × Option Addr × Nat × Option Nat) 34359734304 (by kernel_rfl) (fun s => [(5, .slice s.2.1 (32 * s.1) s.2.2.1)])
    (fun s W => 32 * s.1 < n + 32 ∧ (∃ va vc, Blk W db [.slice ka 32 kc, .slice va 32 vc, .int .i64 m] 44 ∧ Row W va .u8 (rvIt K V s.1) ∧ (∀ p, va = some p → p.block ≠ db ∧ p.block < W.heap.size)) ∧ OwnS .u8 5 W s.2.1 (32 * s.1) s.2.2.1 (routIt K V s.1) s.2.2.2 ∧ (∀ k, s.2.2.2 = some k → w.heap.size ≤ k) ∧ Chg w.heap.size (fun k => k = db) w W)
    (fun s => n + 32 - 32 * s.1) (0, none, 0, none) ⟨rfl, trivial⟩
    ⟨by show 0 < _; omega, ⟨va0, vc0, hB, hV, hva⟩, OwnS.nil _, (fun k hk => by cases hk), Chg.refl _ _ _⟩ ?_
  rintro ⟨i, oa, oc, oo⟩ j W ⟨k1, ⟨va, vc, k2, k3, k4⟩, k5, k6, k7⟩
  simp only at k1 k2 k3 k5 k6
  have hszW := k7.size
  have hKW := hK.chg k7 (fun p hp => (hka p hp).1)
  have hkaW : ∀ p, ka = some p → p.block ≠ db ∧ p.block < W.heap.size := fun p hp => ⟨(hka p hp).1, by have := (hka p hp).2; omega⟩
  have hvl := rvIt_length (K := K) hV32 i
  have hdW : RAt W db K (rvIt K V i) m := ⟨ka, kc, va, vc, k2, hKW, k3, hK32, hvl, hkaW, k4⟩
  have hk5l := k5.len
  refine IfP.dec (fun hlt => ?_) (fun hge => ?_)
  · have hlt' : 32 * i < n := by omega
    refine DrawP.tree tysOk extsOk mixed [13] (.take 0 (.take 1 (.take 2 (.take 3 (.take 5 (.take 6 (.take 7 (.held 4 (.held 8 (.alt 9 (.alt 10 (.take 11 (.take 12 (.fin 13 .done .nil))) .nil) .nil)))))))))) 536805376 (by kernel_rfl) (by kernel_rfl) (X := Unit) (fun w' => Below W.heap.size W w') (fun _ => [])
      (fun _ W' => ∃ a1 c1 o1, Blk W' db [.slice ka 32 kc, .slice a1 32 c1, .int .i64 m] 44 ∧ Chg W.heap.size (fun k => k = db) W W' ∧ OwnS .u8 5 W' a1 32 c1 (rvIt K V (i + 1)) o1 ∧ (∀ k, o1 = some k → W.heap.size ≤ k)) ?_ ?_
    · intro w0 c0 b0 s0
      refine ⟨b0, ?_⟩
      refine NilP.go ?_
      refine NilP.go ?_
      refine HeldP.go (fun w' hS => LdSl.go ((k2.belowS hS).cell 0) rfl) ?_
      refine HeldP.go (fun w' hS => LdSl.go ((k2.belowS hS).cell 1) rfl) ?_
      have P1 := one_part w0 (vc := vc) (k3.below b0) hvl
      refine ⟨⟨b0.trans (P1.2.mono b0.size), ?_⟩, trivial⟩
      refine ⟨?_, trivial⟩
      refine CallP.intro (rhmac_spec ((hKW.below b0).below P1.2) hK32.symm (by decide) P1.1 rfl (by decide) (by intro x hx; simp only [List.mem_cons, List.not_mem_nil, or_false] at hx; subst hx; omega)) ?_
      rintro e w1 ⟨a1, c1, o1, rfl, x1, y1, z1⟩
      have y1' : ∀ k, o1 = some k → w0.heap.size ≤ k := fun k hk => Nat.le_trans P1.2.size (y1 k hk)
      have hb1 : Below w0.heap.size w0 w1 := P1.2.trans (z1.mono P1.2.size)
      have hb01 : Below W.heap.size W w1 := b0.trans (hb1.mono b0.size)
      refine ⟨_, rfl, hb01, ?_⟩
      refine NilP.go ?_
      refine ⟨?_, trivial⟩
      have hdbW := k2.lt
      have hs0 := b0.size
      refine StP.to 1 (k2.belowS hb01) rfl (Nat.succ_lt_succ (Nat.succ_pos _)) fun w2 g1 g2 g3 => ?_
      have g1 : Blk w2 db [.slice ka 32 kc, .slice a1 32 c1, .int .i64 m] 44 := g1
      have g2 : Chg w1.heap.size (fun k => k = db) w1 w2 := g2
      exact ⟨(), trivial, a1, c1, o1, g1, (Chg.of_below hb01).thenC g2 hb01.size (fun _ _ h => h), x1.chg g2 x1.lt (fun b hb => by have := y1' b hb; omega), fun k hk => by have := y1' k hk; omega⟩
    · rintro ⟨⟩ j' W2 ⟨a1, c1, o1, g1, hc2, x2, y2⟩
      have hool := k5.lt
      have q2 := k5.chg hc2 (fun b hb => k5.lt b hb) (fun b hb => by have := k6 b hb; omega)
      have hC2 : Chg w.heap.size (fun k => k = db) w W2 := k7.thenC hc2 hszW (fun _ _ h => h)
      have hW2 := hc2.size
      refine NilP.go ?_
      refine LdSl.go (g1.cell 1) ?_
      refine RdP.row' x2.row x2.len ?_
      refine App.own q2 x2.len (by show 32 * i + 32 ≤ _; omega) (by decide) fun a3 c3 o3 w3 r1 r2 r3 => ?_
      have hC3 : Chg w.heap.size (fun k => k = db) w w3 := hC2.thenC r2 hC2.size (fun k hk e => by have := k6 k e; omega)
      have x3 := x2.chg r2 x2.lt (fun b hb e => by have := y2 b hb; have := hool b e; omega)
      refine ⟨rfl, (i + 1, a3, c3, o3), ⟨⟨rfl, trivial⟩, by show 32 * (i + 1) < _; omega, ⟨a1, c1, g1.chg r2 g1.lt (fun e => by have := k6 _ e; omega), x3.row, fun p hp => ?_⟩, r1, fun k hk' => ?_, hC3⟩, by show n + 32 - 32 * (i + 1) < n + 32 - 32 * i; omega⟩
      · have := x3.at p hp
        have h1 := y2 _ this
        exact ⟨by omega, x3.lt _ this⟩
      · rcases r3 with r3 | r3
        · exact k6 k (r3 ▸ hk')
        · rw [r3] at hk'; cases hk'; exact hC2.size
  · have hi : i = (n + 31) / 32 := by omega
    refine CallP.intro (rupdate_spec hdW (Row.nil _ none .u8) rfl (by decide)) ?_
    rintro e w1 ⟨rfl, h1, h2⟩
    refine ⟨_, rfl, ?_⟩
    rw [hi] at h1
    obtain ⟨kb, kd, vb, vd, f1, f2, f3, f4, f5, f6, f7⟩ := h1
    refine NilP.go ?_
    refine LdI.go (f1.cell 2) ?_
    refine NilP.go ?_
    refine StP.to 2 f1 rfl (Nat.succ_lt_succ (Nat.succ_lt_succ (Nat.succ_pos _))) fun w2 g1 g2 g3 => ?_
    have g1 : Blk w2 db [.slice kb 32 kd, .slice vb 32 vd, .int .i64 (IntKind.i64.wrap (m + 1))] 44 := g1
    have g2 : Chg w1.heap.size (fun k => k = db) w1 w2 := g2
    have hC1 := k7.thenC h2 hszW (fun _ _ h => h)
    have hC2 := hC1.thenC g2 hC1.size (fun _ _ h => h)
    cases oo with
    | none => have := k5.2.1; omega
    | some ob =>
      obtain ⟨rfl, hol, hob⟩ := k5
      have hobl := hob.lt
      have hobw := k6 ob rfl
      have hoc := hob.le
      refine SlcP.exact (b := ob) (o := 0) 0 n rfl rfl (by omega) (by show n ≤ oc; omega) (.inr rfl) ?_
      refine ⟨rfl, ob, oc - 0, rfl, ?_, hobw, ?_, hC2⟩
      · have := ((hob.row).chg h2 (fun p hp => by cases hp; show ob ≠ db; omega)).chg g2 (fun p hp => by cases hp; show ob ≠ db; omega)
        unfold rbytesOf
        rw [← hi]
        exact this.take n
      · refine ⟨kb, kd, vb, vd, g1, f2.chg g2 (fun p hp => (f6 p hp).1), f3.chg g2 (fun p hp => (f7 p hp).1), f4, f5, fun p hp => by rw [g3]; exact f6 p hp, fun p hp => by rw [g3]; exact f7 p hp⟩
end Go.Proofs.YthghiokcinpnlaaDoor
