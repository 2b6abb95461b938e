/- Texts of this proof, one behind the other: Nm13 Nm14 Nm15 Nm16. -/
import Derived.Test.YthneejblcffdgaaGreatDoorPart17
namespace Go.Proofs.YthneejblcffdgaaGreatDoor
open Go Go.Ev Go.RowKit
set_option maxRecDepth 20000
set_option linter.unusedVariables false
set_option linter.unusedSimpArgs false

/-! ### zmont: adding a multiple -/
theorem addm_dig {f y x cy B : Nat} (hB : 0 < B) : ((f * y % B + x) % B + cy) % B + B * (f * y / B + (f * y % B + x) / B + ((f * y % B + x) % B + cy) / B) = f * y + x + cy := by
  have a1 := Nat.mod_add_div (f * y) B
  have a2 := Nat.mod_add_div (f * y % B + x) B
  have a3 := Nat.mod_add_div ((f * y % B + x) % B + cy) B
  rw [Nat.mul_add, Nat.mul_add]; omega
theorem addm_lt {f y x cy : Nat} (hf : f < B64) (hy : y < B64) (hx : x < B64) (hc : cy < B64) : f * y + x + cy < B64 * B64 := by
  have h1 : f * y ≤ (B64 - 1) * (B64 - 1) := Nat.mul_le_mul (by omega) (by omega)
  simp only [B64] at *
  omega
theorem addm_step {P s q f y x cy B V T Y : Nat} (h : V + P * cy = T + f * Y) (h2 : s + B * q = f * y + x + cy) : V + P * s + P * B * q = (T + P * x) + f * (Y + P * y) := by
  have e : P * (s + B * q) = P * (f * y + x + cy) := by rw [h2]
  simp only [Nat.mul_add] at e ⊢
  rw [Nat.mul_assoc P B, Nat.mul_left_comm f P y]
  omega
theorem addm_last {V P x cy z B T F : Nat} (h : V + P * cy = T + F) :
    V + P * ((x + cy) % B) + P * B * ((z + (x + cy) / B) % B) + P * B * B * ((z + (x + cy) / B) / B) = T + P * x + P * B * z + F := by
  have e1 : P * ((x + cy) % B + B * ((x + cy) / B)) = P * (x + cy) := by rw [Nat.mod_add_div]
  have e2 : P * B * ((z + (x + cy) / B) % B + B * ((z + (x + cy) / B) / B)) = P * B * (z + (x + cy) / B) := by rw [Nat.mod_add_div]
  rw [Nat.mul_add, ← Nat.mul_assoc] at e1
  rw [Nat.mul_add, Nat.mul_add, ← Nat.mul_assoc] at e2
  rw [Nat.mul_add P] at e1
  omega
theorem drop_get {d P : List Nat} {i j : Nat} (hd : d.length = i) (hj : i ≤ j) : (d ++ P.drop i).getD j 0 = P.getD j 0 := by
  rw [List.getD_eq_getElem?_getD, List.getElem?_append_right (by omega), List.getElem?_drop, hd, show i + (j - i) = j by omega, ← List.getD_eq_getElem?_getD]
set_option maxHeartbeats 2000000 in
theorem addm_spec {tb l cp n cD C f : Nat} {aD : Option Addr} {T D : List Nat} {w : World} (hB : NBuf w tb T C) (hl : l = T.length) (hT : T.length = n + 2) (hD : NRow w aD D) (hn : D.length = n)
    (hoff : ∀ p, aD = some p → p.block ≠ tb) (hLT : Limbs T) (hLD : Limbs D) (hf : f < B64) (hs : n ≤ 1000000) :
    Calls Tryz.prog 89 #[.slice (some ⟨tb, 0, none⟩) l cp, .slice aD n cD, .int .u64 f] w fun e w' => ∃ T' k, e = .returned (.tuple #[]) ∧ T'.length = n + 2 ∧ Limbs T' ∧
      val T' + B64 ^ (n + 2) * k = val T + f * val D ∧ NBuf w' tb T' C ∧ Chg w.heap.size (fun k => k = tb) w w' := by
  refine calls_of_ev tysOk extsOk Tryz.func89 rfl rfl rfl ?_
  refine LoopP.go (S := Nat × Nat) 9007199254679488 (by kernel_rfl) (fun s => [(16, .int .i64 (s.1 : Nat)), (6, .int .u64 (s.2 : Nat))])
    (fun s W => s.1 ≤ n ∧ s.2 < B64 ∧ Chg w.heap.size (fun k => k = tb) w W ∧ ∃ d, d.length = s.1 ∧ Limbs d ∧ NBuf W tb (d ++ T.drop s.1) C ∧ val d + B64 ^ s.1 * s.2 = val (T.take s.1) + f * val (D.take s.1))
    (fun s => n - s.1) (0, 0) ⟨rfl, rfl, trivial⟩ ⟨Nat.zero_le _, by decide, Chg.refl _ _ _, [], rfl, (fun x hx => by cases hx), hB, by simp [val]⟩ ?_
  rintro ⟨i, cy⟩ j W ⟨h1, h2, h4, d, h5, h6, h7, h8⟩
  simp only at h1 h2 h5 h7 h8
  have hDW : NRow W aD D := hD.chg0 h4 (fun h0 p hp e => hoff p hp e)
  have hlen : (d ++ T.drop i).length = l := by simp; omega
  have hget := drop_get (P := T) h5 (Nat.le_refl i)
  refine IfP.dec (fun hlt => ?_) (fun hge => ?_)
  · have hi' : i < n := by omega
    have hx := hLT.getD i
    have hy := hLD.getD i
    refine IdxP.ldN i rfl hDW hn.symm hi' fun _ _ _ => ?_
    refine CallP.intro (mul64_spec f (D.getD i 0) hf hy W) ?_
    rintro e w2 ⟨rfl, hw⟩
    have hw := hw.symm
    subst hw
    refine ⟨_, rfl, ?_⟩
    refine IdxP.ldN i rfl h7.nrow hlen.symm (by omega) fun _ _ _ => ?_
    rw [hget]
    refine add64_go0 ?_
    refine add64_go0 ?_
    have a1 := addm_dig (f := f) (y := D.getD i 0) (x := T.getD i 0) (cy := cy) (show 0 < B64 by decide)
    have a2 := addm_lt hf hy hx h2
    have a3 : ((f * D.getD i 0 % B64 + T.getD i 0) % B64 + cy) % B64 < B64 := Nat.mod_lt _ (by decide)
    generalize ((f * D.getD i 0 % B64 + T.getD i 0) % B64 + cy) % B64 = s at *
    generalize ((f * D.getD i 0 % B64 + T.getD i 0) % B64 + cy) / B64 = q3 at *
    generalize (f * D.getD i 0 % B64 + T.getD i 0) / B64 = q2 at *
    generalize f * D.getD i 0 / B64 = q1 at *
    have a5 : q1 + q2 + q3 < B64 := by
      rcases Nat.lt_or_ge (q1 + q2 + q3) B64 with h | h
      · exact h
      · have := Nat.mul_le_mul_left B64 h; omega
    have e38 : IntKind.u64.wrap ((q1 : Int) + (q2 : Int)) = ((q1 + q2 : Nat) : Int) := wrapAdd (by omega)
    have e50 : IntKind.u64.wrap (IntKind.u64.wrap ((q1 : Int) + (q2 : Int)) + (q3 : Int)) = ((q1 + q2 + q3 : Nat) : Int) := by rw [e38]; exact wrapAdd a5
    refine IdxP.toE i s rfl rfl h7 (by omega) hlen.symm fun w' g1 g2 g3 => ?_
    rw [set_mid h5 (by omega)] at g1
    have e52 := next_i64 hi' (by omega)
    refine ⟨rfl, (i + 1, q1 + q2 + q3), ⟨⟨congrArg (Value.int .i64) e52, congrArg (Value.int .u64) e50, trivial⟩, hi', a5, h4.thenC g2 h4.size (fun _ _ h => h), d ++ [s], by simp [h5], h6.snoc a3, g1, ?_⟩, by show n - (i + 1) < n - i; omega⟩
    show val (d ++ [s]) + B64 ^ (i + 1) * (q1 + q2 + q3) = val (T.take (i + 1)) + f * val (D.take (i + 1))
    rw [val_snoc, val_take_succ', val_take_succ', h5, Nat.pow_succ]
    exact addm_step h8 a1
  · have hi' : i = n := by omega
    subst hi'
    have hx := hLT.getD i
    refine IdxP.ldN i rfl h7.nrow hlen.symm (by omega) fun _ _ _ => ?_
    rw [hget]
    refine add64_go0 ?_
    refine IdxP.toE i _ rfl rfl h7 (by omega) hlen.symm fun w' g1 g2 g3 => ?_
    rw [set_mid h5 (by omega)] at g1
    have e69 : IntKind.i64.wrap ((i : Int) + 1) = ((i + 1 : Nat) : Int) := next_i64 (Nat.lt_succ_self _) (by omega)
    have hlen2 : (d ++ [(T.getD i 0 + cy) % B64] ++ T.drop (i + 1)).length = l := by simp; omega
    have hget2 := drop_get (P := T) (d := d ++ [(T.getD i 0 + cy) % B64]) (i := i + 1) (by simp [h5]) (Nat.le_refl _)
    refine IdxP.ldN (i + 1) e69 g1.nrow hlen2.symm (by omega) fun _ _ _ => ?_
    rw [hget2]
    have e73 : IntKind.u64.wrap (((T.getD (i + 1) 0 : Nat) : Int) + (((T.getD i 0 + cy) / B64 : Nat) : Int)) = (((T.getD (i + 1) 0 + (T.getD i 0 + cy) / B64) % B64 : Nat) : Int) := wrapMod _ _
    refine IdxP.toE (i + 1) _ e73 e69 g1 (by omega) hlen2.symm fun w2 f1 f2 f3 => ?_
    rw [set_mid (by simp [h5]) (by omega), List.drop_of_length_le (by omega), List.append_nil] at f1
    refine ⟨rfl, _, (T.getD (i + 1) 0 + (T.getD i 0 + cy) / B64) / B64, rfl, ?_, (h6.snoc (Nat.mod_lt _ (by decide))).snoc (Nat.mod_lt _ (by decide)), ?_, f1, (h4.thenC g2 h4.size (fun _ _ h => h)).thenC f2 (by have := h4.size; omega) (fun _ _ h => h)⟩
    · simp [h5]
    rw [val_snoc, val_snoc, List.length_append, h5]
    rw [List.take_of_length_le (l := D) (by omega)] at h8
    have hv : val T = val (T.take i) + B64 ^ i * T.getD i 0 + B64 ^ (i + 1) * T.getD (i + 1) 0 := by
      rw [← val_take_succ', ← val_take_succ', List.take_of_length_le (by omega)]
    rw [hv, List.length_singleton, Nat.pow_succ, Nat.pow_succ]
    exact addm_last h8
end Go.Proofs.YthneejblcffdgaaGreatDoor

namespace Go.Proofs.YthneejblcffdgaaGreatDoor
open Go Go.Ev Go.RowKit
set_option maxRecDepth 20000
set_option linter.unusedVariables false
set_option linter.unusedSimpArgs false

/-! ### zmont: what a modulus is -/
/-- the struct, with a modulus of n limbs. -/
def MAt (w : World) (db : Nat) (ma : Option Addr) (n mc : Nat) (inv : Nat) (M : List Nat) (rest : List Value) : Prop :=
  Blk w db (.slice ma n mc :: .int .u64 (inv : Nat) :: rest) 117 ∧ NRow w ma M ∧ M.length = n ∧ Limbs M ∧ n ≤ 200 ∧ (∀ p, ma = some p → p.block ≠ db)
theorem MAt.below {w w' : World} {db n mc inv : Nat} {ma : Option Addr} {M : List Nat} {rest : List Value} (h : MAt w db ma n mc inv M rest) (hb : Below w.heap.size w w') : MAt w' db ma n mc inv M rest := by
  obtain ⟨h1, h2, h3⟩ := h
  exact ⟨h1.belowS hb, h2.below hb, h3⟩
theorem fill_spec {db n mc inv : Nat} {ma : Option Addr} {M : List Nat} {rest : List Value} {a : Option Addr} {l c v : Nat} {w : World} (h : MAt w db ma n mc inv M rest) (ha : NumS w a l c v) (hl : l ≤ n) :
    Calls Tryz.prog 87 #[.pointer (some ⟨db, 0, none⟩), .slice a l c] w fun e w' => ∃ Y, e = .returned (.slice (some ⟨w.heap.size, 0, none⟩) n n) ∧ NBuf w' w.heap.size Y n ∧ Y.length = n ∧ Limbs Y ∧ val Y = v ∧ Below w.heap.size w w' := by
  obtain ⟨h1, h2, h3, h4, h5, h6⟩ := h
  obtain ⟨X, x1, x2, x3, x4, x5, x6⟩ := ha
  refine calls_of_ev tysOk extsOk Tryz.func87 rfl rfl rfl ?_
  refine NilP.go ?_
  refine LdSl.go (h1.cell 0) ?_
  refine Mk.toN n rfl rfl (by omega) fun w1 m1 b1 s1 => ?_
  have x1' : NRow w1 a X := x1.below b1
  refine RdP.row' (xs := ints X) x1' (by rw [ints_length, ← x3]; show min l n * 1 = l; omega) ?_
  refine StsP.buf (ys := ints X) 0 m1 (by rw [ints_length, ints_length, List.length_replicate]; omega) fun w2 m2 b2 s2 => ?_
  have e : (ints (List.replicate n 0)).take 0 ++ ints X ++ (ints (List.replicate n 0)).drop (0 + (ints X).length) = ints (X ++ List.replicate (n - l) 0) := by
    rw [List.take_zero, List.nil_append, ints_append, ints_length, ← x3]
    refine congrArg _ ?_
    simp [ints]
  rw [e] at m2
  have hs := b1.size
  refine ⟨rfl, X ++ List.replicate (n - l) 0, rfl, m2, by simp; omega, ?_, ?_, Chg.below ((Chg.of_below (s := fun _ => False) b1).thenC b2 hs (fun k hk e => absurd e (by omega)))⟩
  · intro y hy
    rcases List.mem_append.1 hy with hy | hy
    · exact x2 y hy
    · rw [List.eq_of_mem_replicate hy]; decide
  · rw [val_append, x6, val_zeros]; simp
/-! ### below -/
theorem NBuf.st {w : World} {b c v : Nat} {xs : List Nat} {k : World → Prop} (n : Nat) (h : NBuf w b xs c) (hn : n < xs.length)
    (hk : ∀ w', NBuf w' b (xs.set n v) c → Chg w.heap.size (fun k => k = b) w w' → w'.heap.size = w.heap.size → k w') : StP ⟨b, 0 + n * 1, none⟩ (.int .u64 (v : Int)) k w := by
  have := IdxP.toN (w := w) (b := b) (l := xs.length) (i := (n : Int)) (v := v) (k := fun _ => k) n rfl h hn rfl fun w' g1 g2 g3 => hk w' g1 g2 g3
  obtain ⟨q, e1, e2, e3, e4⟩ := this.out
  cases e1
  rw [add_none, Int.toNat_natCast] at e4
  exact e4
theorem row_cell {w : World} {a : Option Addr} {Y : List Nat} {t : Nat} (h : NRow w a Y) (ht : t < Y.length) : ∃ b o, a = some ⟨b, o, none⟩ ∧ w.cell? ⟨b, o + t * 1, none⟩ = some (.int .u64 ((Y.getD t 0 : Nat) : Int)) := by
  obtain ⟨b', o', e, h'⟩ := h t (by rw [ints_length]; exact ht)
  refine ⟨b', o', e, ?_⟩
  rw [Nat.mul_one, h', ← ints_getD, List.getD_eq_getElem?_getD, List.getElem?_eq_getElem (by rw [ints_length]; exact ht)]; rfl
theorem below_arith {Y0 T M P bw ov : Nat} (h : Y0 + M = T + P * bw) (hb : bw ≤ 1) (hY : Y0 < P) (hM : M ≤ P) (hT : T < P) (hS : T + P * ov < 2 * M) : (ov < bw → T = (T + P * ov) % M) ∧ (¬ ov < bw → Y0 = (T + P * ov) % M) := by
  have hov : ov ≤ 1 := by
    rcases Nat.lt_or_ge ov 2 with h | h
    · omega
    · have := Nat.mul_le_mul_left P h; omega
  constructor
  · intro hlt
    have : ov = 0 := by omega
    have : bw = 1 := by omega
    subst ov bw
    rw [Nat.mul_zero, Nat.add_zero, Nat.mod_eq_of_lt (by omega)]
  · intro hge
    rcases (by omega : ov = 0 ∨ ov = 1) with rfl | rfl <;> rcases (by omega : bw = 0 ∨ bw = 1) with rfl | rfl
    · have e : T + P * 0 = Y0 + M := by omega
      rw [e, Nat.add_mod_right, Nat.mod_eq_of_lt (by omega)]
    · omega
    · omega
    · have e : T + P * 1 = Y0 + M := by omega
      rw [e, Nat.add_mod_right, Nat.mod_eq_of_lt (by omega)]
theorem below_step {V P X Y c d c' B T M : Nat} (h : V + M = T + P * c) (h2 : d + Y + c = X + B * c') : V + P * d + (M + P * Y) = T + P * X + P * B * c' := by
  have e : P * (d + Y + c) = P * (X + B * c') := by rw [h2]
  simp only [Nat.mul_add] at e
  rw [Nat.mul_assoc P B]
  omega
set_option maxHeartbeats 2000000 in
theorem below_spec {db n mc inv tl tc ov : Nat} {ma ta : Option Addr} {M T : List Nat} {rest : List Value} {w : World} (h : MAt w db ma n mc inv M rest) (hT : NRow w ta T) (hTl : T.length = n) (htl : tl = n) (hLT : Limbs T) (hS : val T + B64 ^ n * ov < 2 * val M) :
    Calls Tryz.prog 90 #[.pointer (some ⟨db, 0, none⟩), .slice ta tl tc, .int .u64 ov] w fun e w' => ∃ Y, e = .returned (.slice (some ⟨w.heap.size, 0, none⟩) n n) ∧ NBuf w' w.heap.size Y n ∧ Y.length = n ∧ Limbs Y ∧ val Y = (val T + B64 ^ n * ov) % val M ∧ Below w.heap.size w w' := by
  subst htl
  obtain ⟨h1, h2, h3, h4, h5, h6⟩ := h
  refine calls_of_ev tysOk extsOk Tryz.func90 rfl rfl rfl ?_
  refine NilP.go ?_
  refine LdSl.go (h1.cell 0) ?_
  refine Mk.toN tl rfl rfl (by omega) fun w1 m1 b1 s1 => ?_
  have r1 : NRow w1 ta T := hT.below b1
  have r2 : NRow w1 ma M := h2.below b1
  have r3 := h1.belowS b1
  have hdb := h1.lt
  have hs := b1.size
  have hta : ∀ t < T.length, ∀ p, ta = some p → p.block < w.heap.size := fun t ht p hp => by
    obtain ⟨b, o, e, hc⟩ := row_cell hT ht
    rw [hp] at e; cases e
    exact (cell_lt hc : b < _)
  have hma : ∀ t < M.length, ∀ p, ma = some p → p.block < w.heap.size := fun t ht p hp => by
    obtain ⟨b, o, e, hc⟩ := row_cell h2 ht
    rw [hp] at e; cases e
    exact (cell_lt hc : b < _)
  refine LoopP.go (S := Nat × Nat) 2199022994176 (by kernel_rfl) (fun s => [(18, .int .i64 (s.1 : Nat)), (8, .int .u64 (s.2 : Nat))])
    (fun s W => s.1 ≤ tl ∧ s.2 ≤ 1 ∧ Chg w1.heap.size (fun k => k = w.heap.size) w1 W ∧ ∃ d, d.length = s.1 ∧ Limbs d ∧ NBuf W w.heap.size (d ++ List.replicate (tl - d.length) 0) tl ∧ val d + val (M.take s.1) = val (T.take s.1) + B64 ^ s.1 * s.2)
    (fun s => tl - s.1) (0, 0) ⟨rfl, rfl, trivial⟩ ⟨Nat.zero_le _, Nat.zero_le _, Chg.refl _ _ _, [], rfl, (fun x hx => by cases hx), m1, by simp [val]⟩ ?_
  rintro ⟨i, bw⟩ j W ⟨i1, i2, i3, d, i4, i5, i6, i7⟩
  simp only at i1 i2 i4 i7
  refine IfP.dec (fun hlt => ?_) (fun hge => ?_)
  · have hi : i < tl := by omega
    have rT : NRow W ta T := r1.chg0 i3 (fun h0 p hp e => by have := hta 0 (by omega) p hp; omega)
    have rM : NRow W ma M := r2.chg0 i3 (fun h0 p hp e => by have := hma 0 (by omega) p hp; omega)
    have rB : Blk W db (.slice ma tl mc :: .int .u64 (inv : Nat) :: rest) 117 := r3.chg i3 (by omega) (by omega)
    obtain ⟨tb, to, rfl, ct⟩ := row_cell rT (t := i) (by omega)
    obtain ⟨mb, mo, rfl, cm⟩ := row_cell rM (t := i) (by omega)
    refine DrawP.tree tysOk extsOk mixed [] (.take 0 (.take 1 (.take 2 (.take 3 (.take 6 (.take 7 (.take 8 (.take 10 (.take 13 (.held 4 (.held 5 (.held 9 (.held 11 (.held 12 (.alt 14 (.take 15 (.held 16 (.held 17 (.held 18 (.alt 19 (.take 20 .done) .nil))))) .nil))))))))))))))) 1099509530880 (by kernel_rfl) (by kernel_rfl)
      (X := Unit) (fun W' => NRow W' (some ⟨tb, to, none⟩) T ∧ NRow W' (some ⟨mb, mo, none⟩) M ∧ Blk W' db (.slice (some ⟨mb, mo, none⟩) tl mc :: .int .u64 (inv : Nat) :: rest) 117) (fun _ => [(8, .int .u64 ((if T.getD i 0 < M.getD i 0 + bw then 1 else 0 : Nat) : Int))])
      (fun _ W' => Chg W.heap.size (fun k => k = w.heap.size) W W' ∧ NBuf W' w.heap.size ((d ++ List.replicate (tl - d.length) 0).set i ((T.getD i 0 + B64 - M.getD i 0 - bw) % B64)) tl) ?_ ?_
    · intro w0 c0 b0 s0
      have q1 := rT.below b0
      have q2 := rM.below b0
      have q3 := rB.belowS b0
      refine ⟨⟨q1, q2, q3⟩, ?_⟩
      refine NilP.go ?_
      refine HeldP.go (fun w' hS => IdxP.at i rfl hi rfl) ?_
      refine HeldP.go (fun w' hS => by
        obtain ⟨b', o', e, hc⟩ := row_cell hS.1 (t := i) (by omega)
        cases e
        exact LdI.go hc rfl) ?_
      refine HeldP.go (fun w' hS => LdSl.go (hS.2.2.cell 0) rfl) ?_
      refine HeldP.go (fun w' hS => IdxP.at i rfl hi rfl) ?_
      refine HeldP.go (fun w' hS => by
        obtain ⟨b', o', e, hc⟩ := row_cell hS.2.1 (t := i) (by omega)
        cases e
        exact LdI.go hc rfl) ?_
      refine ⟨?_, trivial⟩
      refine sub64_go i2 ?_
      refine ⟨⟨q1, q2, q3⟩, ?_⟩
      refine HeldP.go (fun w' hS => rfl) ?_
      refine HeldP.go (fun w' hS => rfl) ?_
      refine HeldP.go (fun w' hS => IdxP.at i rfl hi rfl) ?_
      refine ⟨?_, trivial⟩
      have i60 : NBuf w0 w.heap.size (d ++ List.replicate (tl - d.length) 0) tl := Buf.below i6 b0
      refine NBuf.st i i60 (by simp; omega) fun w2 f1 f2 f3 => ?_
      have hW := i3.size
      refine ⟨⟨q1.chg0 f2 (fun h0 p hp e => by have := hta 0 (by omega) p hp; omega), q2.chg0 f2 (fun h0 p hp e => by have := hma 0 (by omega) p hp; omega), q3.chg f2 (by omega) (by omega)⟩, ?_⟩
      exact ⟨(), ⟨rfl, trivial⟩, ((Chg.refl _ _ _).thenB b0 (Nat.le_refl _)).thenC f2 (by omega) (fun _ _ h => h), f1⟩
    · rintro ⟨⟩ j2 w2 ⟨f1, f2⟩
      have e40 := next_i64 hi (by omega)
      rw [← i4, set_zeros d _ _ (by omega), i4] at f2
      have hx := hLT.getD i
      have hy := h4.getD i
      have a8 := sub_dig hx hy i2
      refine ⟨rfl, (i + 1, if T.getD i 0 < M.getD i 0 + bw then 1 else 0), ⟨⟨congrArg (Value.int .i64) e40, rfl, trivial⟩, hi, by show (if _ then 1 else 0) ≤ 1; split <;> decide, i3.thenC f1 i3.size (fun _ _ h => h), d ++ [(T.getD i 0 + B64 - M.getD i 0 - bw) % B64], by simp [i4], i5.snoc (Nat.mod_lt _ (by decide)), ?_, ?_⟩, by show tl - (i + 1) < tl - i; omega⟩
      · rw [List.length_append, List.length_singleton, i4]; exact f2
      · show val (d ++ [_]) + val (M.take (i + 1)) = val (T.take (i + 1)) + B64 ^ (i + 1) * _
        rw [val_snoc, val_take_succ', val_take_succ', i4, Nat.pow_succ]
        exact below_step i7 a8
  · have hi : i = tl := by omega
    subst hi
    rw [i4, Nat.sub_self, List.replicate_zero, List.append_nil] at i6
    rw [List.take_of_length_le (by omega), List.take_of_length_le (by omega)] at i7
    have l1 : val d < B64 ^ i := by have := val_lt i5; rwa [i4] at this
    have l2 : val T < B64 ^ i := by have := val_lt hLT; rwa [hTl] at this
    have l3 : val M < B64 ^ i := by have := val_lt h4; rwa [h3] at this
    obtain ⟨r1', r2'⟩ := below_arith i7 i2 l1 (Nat.le_of_lt l3) l2 hS
    have hB : Below w.heap.size w W := Chg.below ((Chg.of_below (s := fun _ => False) b1).thenC i3 hs (fun k hk e => absurd e (by omega)))
    refine IfP.dec (fun hlt => ?_) (fun hge => ?_)
    · have hlt : ov < bw := Int.ofNat_lt.1 hlt
      have rT : NRow W ta T := r1.chg0 i3 (fun h0 p hp e => by have := hta 0 (by rw [ints_length] at h0; exact h0) p hp; omega)
      refine RdP.row' (xs := ints T) rT (by rw [ints_length, hTl]; show min i i * 1 = i; omega) ?_
      refine StsP.buf (ys := ints T) 0 i6 (by rw [ints_length, ints_length]; omega) fun w2 m2 b2 s2 => ?_
      have e : (ints d).take 0 ++ ints T ++ (ints d).drop (0 + (ints T).length) = ints T := by
        rw [List.take_zero, List.nil_append, List.drop_of_length_le (by rw [ints_length, ints_length]; omega), List.append_nil]
      rw [e] at m2
      exact ⟨rfl, T, rfl, m2, hTl, hLT, r1' hlt, Chg.below ((Chg.of_below (s := fun _ => False) hB).thenC b2 hB.size (fun k hk e => absurd e (by omega)))⟩
    · have hge : ¬ ov < bw := fun h => hge (Int.ofNat_lt.2 h)
      exact ⟨rfl, d, rfl, i6, i4, i5, r2' hge, hB⟩
end Go.Proofs.YthneejblcffdgaaGreatDoor

namespace Go.Proofs.YthneejblcffdgaaGreatDoor
open Go Go.Ev Go.RowKit
set_option maxRecDepth 20000
set_option linter.unusedVariables false
set_option linter.unusedSimpArgs false

/-! ### zmont: Mul -/
theorem mont_dvd {T q M0 inv k B : Nat} (M : Nat) (hM : M % B = M0) (hT : T % B = k) (hi : (inv * M0 + 1) % B = 0) (hq : q = k * inv % B) : (T + q * M) % B = 0 := by
  have a1 := Nat.mod_add_div M B
  have a2 := Nat.mod_add_div T B
  have a3 := Nat.mod_add_div (k * inv) B
  have a4 := Nat.mod_add_div (inv * M0 + 1) B
  rw [hM] at a1
  rw [hT] at a2
  rw [← hq] at a3
  rw [hi, Nat.zero_add] at a4
  generalize M / B = m at *
  generalize T / B = t at *
  generalize k * inv / B = c at *
  generalize (inv * M0 + 1) / B = d at *
  have e : T + q * M + B * (c * M) = B * (k * d + t + k * inv * m) := by
    have e1 : (q + B * c) * M = k * inv * M := by rw [a3]
    have e2 : k * inv * M = k * inv * M0 + B * (k * inv * m) := by rw [← a1, Nat.mul_add, Nat.mul_left_comm]
    have e3 : k * (B * d) = k * (inv * M0 + 1) := by rw [a4]
    rw [Nat.add_mul, Nat.mul_assoc B] at e1
    rw [Nat.mul_add k, Nat.mul_one, ← Nat.mul_assoc k inv, Nat.mul_left_comm] at e3
    rw [Nat.mul_add, Nat.mul_add]
    omega
  have h1 : B ∣ T + q * M + B * (c * M) := e ▸ Nat.dvd_mul_right _ _
  exact Nat.mod_eq_zero_of_dvd ((Nat.dvd_add_left (Nat.dvd_mul_right B (c * M))).1 h1)
theorem mont_step {T3 T ai b q M k P B At : Nat} (h : T3 * B = T + ai * b + q * M) (hi : T * P = At * b + k * M) : T3 * (P * B) = (At + P * ai) * b + (k + q * P) * M := by
  have e : T3 * (P * B) = (T3 * B) * P := by rw [Nat.mul_comm P B, Nat.mul_assoc]
  rw [e, h, Nat.add_mul, Nat.add_mul, hi, Nat.add_mul, Nat.add_mul]
  have e1 : ai * b * P = P * ai * b := by rw [Nat.mul_comm, ← Nat.mul_assoc]
  have e2 : q * M * P = q * P * M := Nat.mul_right_comm _ _ _
  omega
theorem mont_bound {T3 T ai b q M B : Nat} (h : T3 * B = T + ai * b + q * M) (hT : T < b + M) (ha : ai < B) (hq : q < B) : T3 < b + M := by
  obtain ⟨B', rfl⟩ : ∃ B', B = B' + 1 := ⟨B - 1, by omega⟩
  have h1 : ai * b ≤ B' * b := Nat.mul_le_mul_right _ (by omega)
  have h2 : q * M ≤ B' * M := Nat.mul_le_mul_right _ (by omega)
  have h3 : T3 * (B' + 1) < (b + M) * (B' + 1) := by
    rw [h, Nat.mul_add (b + M), Nat.mul_one, Nat.add_mul, Nat.mul_comm b B', Nat.mul_comm M B']; omega
  exact Nat.lt_of_mul_lt_mul_right h3
theorem val_mod {X : List Nat} (h : Limbs X) (h0 : 0 < X.length) : val X % B64 = X.getD 0 0 ∧ val X = X.getD 0 0 + B64 * val (X.drop 1) := by
  have e := val_drop (xs := X) (n := 0) h0
  rw [List.drop_zero] at e
  refine ⟨?_, e⟩
  rw [e]
  show (X.getD 0 0 + B64 * _) % B64 = _
  rw [Nat.add_mul_mod_self_left, Nat.mod_eq_of_lt (h.getD 0)]
theorem mont_fit {T ai b q M P B : Nat} (hT : T < b + M) (hb : b < M) (hM : M < P) (ha : ai < B) (hq : q < B) (hB : 2 ≤ B) : T + ai * b + q * M < P * B * B := by
  obtain ⟨B', rfl⟩ : ∃ B', B = B' + 1 := ⟨B - 1, by omega⟩
  have h1 : ai * b ≤ B' * M := Nat.mul_le_mul (by omega) (by omega)
  have h2 : q * M ≤ B' * M := Nat.mul_le_mul_right _ (by omega)
  have h3 : M * (2 * (B' + 1)) < P * (2 * (B' + 1)) := Nat.mul_lt_mul_of_pos_right hM (by omega)
  have h4 : P * (2 * (B' + 1)) ≤ P * ((B' + 1) * (B' + 1)) := Nat.mul_le_mul_left _ (Nat.mul_le_mul_right _ hB)
  have h5 : M * (2 * (B' + 1)) = B' * M + B' * M + M + M := by rw [Nat.mul_comm M, Nat.two_mul, Nat.add_mul, Nat.add_mul]; omega
  rw [Nat.mul_assoc P]
  omega
theorem fit0 {a b P k : Nat} (h : a + P * k = b) (hb : b < P) : a = b := by
  rcases Nat.eq_zero_or_pos k with h0 | h0
  · subst h0; omega
  · have := Nat.le_mul_of_pos_right P h0; omega
set_option maxHeartbeats 4000000 in
theorem mulM_spec {db n mc inv ac bc : Nat} {ma aa ba : Option Addr} {M A Bb : List Nat} {rest : List Value} {w : World} (h : MAt w db ma n mc inv M rest) (hA : NRow w aa A) (hAl : A.length = n) (hLA : Limbs A) (hB : NRow w ba Bb) (hBl : Bb.length = n) (hLB : Limbs Bb)
    (hlt : val Bb < val M) (hn : 0 < n) (hinv : (inv * M.getD 0 0 + 1) % B64 = 0) (hi64 : inv < B64) :
    Calls Tryz.prog 70 #[.pointer (some ⟨db, 0, none⟩), .slice aa n ac, .slice ba n bc] w fun e w' => ∃ Y yb, e = .returned (.slice (some ⟨yb, 0, none⟩) n n) ∧ w.heap.size ≤ yb ∧ NBuf w' yb Y n ∧ Y.length = n ∧ Limbs Y ∧ val Y < val M ∧ val Y * B64 ^ n % val M = val A * val Bb % val M ∧ Below w.heap.size w w' := by
  obtain ⟨h1, h2, h3, h4, h5, h6⟩ := h
  refine calls_of_ev tysOk extsOk Tryz.func70 rfl rfl rfl ?_
  refine NilP.go ?_
  refine LdSl.go (h1.cell 0) ?_
  have e16 : IntKind.i64.wrap ((n : Int) + 2) = ((n + 2 : Nat) : Int) := wrapAddI (b := 2) (by omega)
  refine Mk.toN (n + 2) e16 e16 (by omega) fun w1 m1 b1 s1 => ?_
  have hs := b1.size
  have rM := h2.below b1
  have rA := hA.below b1
  have rB := hB.below b1
  have rS := h1.belowS b1
  have hdb := h1.lt
  have off : ∀ (a : Option Addr) (X : List Nat), NRow w a X → X.length = n → ∀ p, a = some p → p.block < w.heap.size := fun a X hX hl p hp => by
    obtain ⟨b, o, e, hc⟩ := row_cell hX (t := 0) (by omega)
    rw [hp] at e; cases e
    exact (cell_lt hc : b < _)
  have offM := off _ _ h2 h3
  have offA := off _ _ hA hAl
  have offB := off _ _ hB hBl
  have hMlt : val M < B64 ^ n := h3 ▸ val_lt h4
  refine LoopP.go (S := Nat × List Nat) 4503599626846720 (by kernel_rfl) (fun s => [(19, .int .i64 (s.1 : Nat))])
    (fun s W => s.1 ≤ n ∧ s.2.length = n + 2 ∧ Limbs s.2 ∧ NBuf W w.heap.size s.2 (n + 2) ∧ (∃ k, val s.2 * B64 ^ s.1 = val (A.take s.1) * val Bb + k * val M) ∧ val s.2 < val Bb + val M ∧ Chg w1.heap.size (fun k => k = w.heap.size) w1 W)
    (fun s => n - s.1) (0, List.replicate (n + 2) 0) ⟨rfl, trivial⟩ ⟨Nat.zero_le _, by simp, (fun x hx => by rw [List.eq_of_mem_replicate hx]; decide), m1, ⟨0, by simp [val_zeros, val]⟩, by rw [val_zeros]; omega, Chg.refl _ _ _⟩ ?_
  rintro ⟨i, T⟩ j W ⟨i1, i2, i3, i4, ⟨k, i5⟩, i6, i7⟩
  simp only at i1 i2 i3 i4 i5 i6
  refine IfP.dec (fun hlt2 => ?_) (fun hge => ?_)
  · have hi : i < n := by omega
    have rAW : NRow W aa A := rA.chg0 i7 (fun h0 p hp e => by have := offA p hp; omega)
    have rBW : NRow W ba Bb := rB.chg0 i7 (fun h0 p hp e => by have := offB p hp; omega)
    refine IdxP.ldN i rfl rAW hAl.symm hi fun _ _ _ => ?_
    have ha := hLA.getD i
    refine CallP.intro (addm_spec i4 i2.symm i2 rBW hBl (fun p hp e => by have := offB p hp; omega) i3 hLB ha (by omega)) ?_
    rintro e w2 ⟨T1, k1, rfl, u1, u2, u3, u4, u5⟩
    refine ⟨_, rfl, ?_⟩
    have hs2 := i7.size
    have hs3 := u5.size
    have rSW : Blk w2 db (.slice ma n mc :: .int .u64 (inv : Nat) :: rest) 117 := (rS.chg i7 (by omega) (by omega)).chg u5 (by omega) (by omega)
    have rMW : NRow w2 ma M := (rM.chg0 i7 (fun h0 p hp e => by have := offM p hp; omega)).chg0 u5 (fun h0 p hp e => by have := offM p hp; omega)
    refine DrawP.tree tysOk extsOk mixed [13] (.take 0 (.take 1 (.take 2 (.take 3 (.take 5 (.take 8 (.take 9 (.take 10 (.held 4 (.held 6 (.held 7 (.held 11 (.held 12 (.fin 13 .done .nil)))))))))))))) 8795556151296 (by kernel_rfl) (by kernel_rfl)
      (X := Unit) (fun W' => NBuf W' w.heap.size T1 (n + 2) ∧ NRow W' ma M ∧ Blk W' db (.slice ma n mc :: .int .u64 (inv : Nat) :: rest) 117) (fun _ => [])
      (fun _ W' => Chg w2.heap.size (fun k => k = w.heap.size) w2 W' ∧ ∃ T2 k2, T2.length = n + 2 ∧ Limbs T2 ∧ val T2 + B64 ^ (n + 2) * k2 = val T1 + (T1.getD 0 0 * inv % B64) * val M ∧ NBuf W' w.heap.size T2 (n + 2)) ?_ ?_
    · intro w0 c0 b0 s0
      have q1 : NBuf w0 w.heap.size T1 (n + 2) := Buf.below u4 b0
      have q2 := rMW.below b0
      have q3 := rSW.belowS b0
      refine ⟨⟨q1, q2, q3⟩, ?_⟩
      refine NilP.go ?_
      refine NilP.go ?_
      refine HeldP.go (fun w' hS => LdSl.go (hS.2.2.cell 0) rfl) ?_
      refine HeldP.go (fun w' hS => IdxP.at 0 rfl (by omega) rfl) ?_
      refine HeldP.go (fun w' hS => by
        obtain ⟨b', o', e, hc⟩ := row_cell hS.1.nrow (t := 0) (by omega)
        cases e
        exact LdI.go hc rfl) ?_
      refine HeldP.go (fun w' hS => LdI.go (hS.2.2.cell 1) rfl) ?_
      have e41 : IntKind.u64.wrap (((T1.getD 0 0 : Nat) : Int) * (inv : Int)) = ((T1.getD 0 0 * inv % B64 : Nat) : Int) := by
        rw [← Int.natCast_mul, IntKind.wrap_u64]; show _ = ((T1.getD 0 0 * inv % 18446744073709551616 : Nat) : Int); omega
      refine HeldP.go (fun w' hS => congrArg (Value.int .u64) e41) ?_
      refine ⟨?_, trivial⟩
      refine CallP.intro (addm_spec q1 u1.symm u1 q2 h3 (fun p hp e => by have := offM p hp; omega) u2 h4 (Nat.mod_lt _ (by decide)) (by omega)) ?_
      rintro e w3 ⟨T2, k2, rfl, v1, v2, v3, v4, v5⟩
      refine ⟨_, rfl, ?_⟩
      exact ⟨(), trivial, ((Chg.refl _ _ _).thenB b0 (Nat.le_refl _)).thenC v5 (by omega) (fun _ _ h => h), T2, k2, v1, v2, v3, v4⟩
    · rintro ⟨⟩ j2 w3 ⟨f1, T2, k2, v1, v2, v3, v4⟩
      refine SlcP.exact 1 (n + 2) rfl rfl (by omega) (by omega) (Or.inl (by omega)) ?_
      have hv4 : NBuf w3 w.heap.size (T2.take 1 ++ T2.drop 1 ++ []) (n + 2) := by rw [List.append_nil, List.take_append_drop]; exact v4
      have hmid := NBuf.mid (o := 0 + 1 * 1) hv4 (by rw [List.length_take]; omega)
      refine RdP.row' (xs := ints (T2.drop 1)) hmid (by rw [ints_length, List.length_drop]; show min (n + 2 - 1) (n + 2) * 1 = _; omega) ?_
      refine StsP.buf (ys := ints (T2.drop 1)) 0 v4 (by rw [ints_length, ints_length, List.length_drop]; omega) fun w4 m4 b4 s4 => ?_
      have e : (ints T2).take 0 ++ ints (T2.drop 1) ++ (ints T2).drop (0 + (ints (T2.drop 1)).length) = ints (T2.drop 1 ++ T2.drop (n + 1)) := by
        rw [List.take_zero, List.nil_append, ints_append, ints_length, List.length_drop, v1]
        refine congrArg _ ?_
        rw [show 0 + (n + 2 - 1) = n + 1 by omega]; simp [ints]
      rw [e] at m4
      have e49 : IntKind.i64.wrap ((n : Int) + 1) = ((n + 1 : Nat) : Int) := next_i64 (Nat.lt_succ_self _) (by omega)
      refine IdxP.toE (n + 1) 0 rfl e49 m4 (by omega) (by simp; omega) fun w5 m5 b5 s5 => ?_
      have e5 : (T2.drop 1 ++ T2.drop (n + 1)).set (n + 1) 0 = T2.drop 1 ++ [0] := by
        have hl1 : (T2.drop (n + 1)).length = 1 := by rw [List.length_drop, v1]; omega
        rcases hz : T2.drop (n + 1) with _ | ⟨z, _ | ⟨z2, r⟩⟩
        · rw [hz] at hl1; cases hl1
        · rw [List.set_append_right _ _ (by rw [List.length_drop]; omega), List.length_drop, v1, show n + 1 - (n + 2 - 1) = 0 by omega]; rfl
        · rw [hz] at hl1; simp at hl1
      rw [e5] at m5
      have hbB : (2 : Nat) ≤ B64 := by decide
      have hq : T1.getD 0 0 * inv % B64 < B64 := Nat.mod_lt _ (by decide)
      have ep : B64 ^ (n + 2) = B64 ^ n * B64 * B64 := by rw [Nat.pow_succ, Nat.pow_succ]
      rw [ep] at u3 v3
      have t1 := fit0 u3 (Nat.lt_of_le_of_lt (Nat.le_add_right _ _) (mont_fit (q := 0) i6 hlt hMlt ha (by decide) hbB))
      rw [t1] at v3
      have t2 := fit0 v3 (mont_fit i6 hlt hMlt ha hq hbB)
      obtain ⟨y1, _⟩ := val_mod h4 (by omega)
      obtain ⟨y3, _⟩ := val_mod u2 (by omega)
      obtain ⟨y5, y6⟩ := val_mod v2 (by omega)
      have hd := mont_dvd (val M) y1 y3 hinv rfl
      rw [t1, ← t2, y5] at hd
      rw [hd, Nat.zero_add] at y6
      have t3 : val (T2.drop 1) * B64 = val T + A.getD i 0 * val Bb + (T1.getD 0 0 * inv % B64) * val M := by rw [Nat.mul_comm, ← y6, t2]
      have e19 := next_i64 hi (by omega)
      have hvz : val (T2.drop 1 ++ [0]) = val (T2.drop 1) := by rw [val_append]; simp [val]
      have z2 := f1.size
      have z3 := b4.size
      refine ⟨rfl, (i + 1, T2.drop 1 ++ [0]), ⟨⟨congrArg (Value.int .i64) e19, trivial⟩, hi, by simp; omega, ?_, m5, ⟨k + (T1.getD 0 0 * inv % B64) * B64 ^ i, ?_⟩, ?_, ?_⟩, by show n - (i + 1) < n - i; omega⟩
      · exact Limbs.snoc (d := T2.drop 1) (fun x hx => v2 x (List.mem_of_mem_drop hx)) (by decide)
      · show val (T2.drop 1 ++ [0]) * B64 ^ (i + 1) = val (A.take (i + 1)) * val Bb + _ * val M
        rw [hvz, val_take_succ', Nat.pow_succ]
        exact mont_step t3 i5
      · show val (T2.drop 1 ++ [0]) < _
        rw [hvz]
        exact mont_bound t3 i6 ha hq
      · exact (((i7.thenC u5 hs2 (fun _ _ h => h)).thenC f1 (by omega) (fun _ _ h => h)).thenC b4 (by omega) (fun _ _ h => h)).thenC b5 (by omega) (fun _ _ h => h)
  · have hi : i = n := by omega
    subst hi
    have z1 := i7.size
    have rSW : Blk W db (.slice ma i mc :: .int .u64 (inv : Nat) :: rest) 117 := rS.chg i7 (by omega) (by omega)
    have rMW : NRow W ma M := rM.chg0 i7 (fun h0 p hp e => by have := offM p hp; omega)
    have hT1 := val_take_succ' T (i + 1)
    rw [List.take_of_length_le (by omega)] at hT1
    have hT2 := val_take_succ' T i
    have hTlt : val T < B64 ^ (i + 1) := by
      rw [Nat.pow_succ]
      have : B64 ^ i * 2 ≤ B64 ^ i * B64 := Nat.mul_le_mul_left _ (by decide)
      omega
    have hT0 : T.getD (i + 1) 0 = 0 := by
      rcases Nat.eq_zero_or_pos (T.getD (i + 1) 0) with h | h
      · exact h
      · have := Nat.le_mul_of_pos_right (B64 ^ (i + 1)) h; omega
    rw [hT0, Nat.mul_zero, Nat.add_zero, hT2] at hT1
    have hLt : Limbs (T.take i) := fun x hx => i3 x (List.mem_of_mem_take hx)
    rw [List.take_of_length_le (l := A) (by omega)] at i5
    have hB0 : Below w.heap.size w W := Chg.below ((Chg.of_below (s := fun _ => False) b1).thenC i7 hs (fun k hk e => absurd e (by omega)))
    refine DrawP.tree tysOk extsOk mixed [] (.take 0 (.take 1 (.take 2 (.take 4 (.take 5 (.held 3 (.held 6 (.held 7 (.alt 8 (.take 9 .done) .nil))))))))) 2301339409586323520 (by kernel_rfl) (by kernel_rfl)
      (X := List Nat × Nat) (fun W' => NBuf W' w.heap.size T (i + 2) ∧ NRow W' ma M ∧ Blk W' db (.slice ma i mc :: .int .u64 (inv : Nat) :: rest) 117) (fun s => [(6, .slice (some ⟨s.2, 0, none⟩) i i)])
      (fun s W' => w.heap.size ≤ s.2 ∧ NBuf W' s.2 s.1 i ∧ s.1.length = i ∧ Limbs s.1 ∧ val s.1 = val T % val M ∧ Below w.heap.size w W') ?_ ?_
    · intro w0 c0 b0 s0
      have q1 : NBuf w0 w.heap.size T (i + 2) := Buf.below i4 b0
      have q2 := rMW.below b0
      have q3 := rSW.belowS b0
      refine ⟨⟨q1, q2, q3⟩, ?_⟩
      refine HeldP.go (fun w' hS => SlcP.first i (i + 2) rfl rfl (by omega) (by omega) rfl) ?_
      refine HeldP.go (fun w' hS => IdxP.at i rfl (by omega) rfl) ?_
      refine HeldP.go (fun w' hS => by
        obtain ⟨b', o', e, hc⟩ := row_cell hS.1.nrow (t := i) (by omega)
        cases e
        exact LdI.go hc rfl) ?_
      refine ⟨?_, trivial⟩
      have q1' : NBuf w0 w.heap.size ([] ++ T.take i ++ T.drop i) (i + 2) := by rw [List.nil_append, List.take_append_drop]; exact q1
      refine CallP.intro (below_spec (T := T.take i) (ov := T.getD i 0) ⟨q3, q2, h3, h4, h5, h6⟩ (NBuf.mid q1' rfl) (by rw [List.length_take]; omega) rfl hLt (by omega)) ?_
      rintro e w3 ⟨Y, rfl, y1, y2, y3, y4, y5⟩
      refine ⟨_, rfl, ⟨Buf.below q1 y5, q2.below y5, q3.belowS y5⟩, ?_⟩
      have hB1 := hB0.trans (b0.mono hB0.size)
      exact ⟨(Y, w0.heap.size), ⟨rfl, trivial⟩, hB1.size, y1, y2, y3, by rw [y4, ← hT1], hB1.trans (y5.mono hB1.size)⟩
    · rintro ⟨Y, yb⟩ j2 w3 ⟨f1, f2, f3, f4, f5, f6⟩
      refine ⟨rfl, Y, yb, rfl, f1, f2, f3, f4, ?_, ?_, f6⟩
      · rw [f5]; exact Nat.mod_lt _ (by omega)
      · rw [f5, Nat.mod_mul_mod, i5, Nat.add_mul_mod_self_right]
end Go.Proofs.YthneejblcffdgaaGreatDoor

namespace Go.Proofs.YthneejblcffdgaaGreatDoor
open Go Go.Ev Go.RowKit
set_option maxRecDepth 20000
set_option linter.unusedVariables false
set_option linter.unusedSimpArgs false

/-! ### zmont: numbers in their form -/
/-- a modulus of n limbs with all that belongs to it. -/
structure ZMod (w : World) (db n m inv : Nat) (ma : Option Addr) (mc : Nat) (oa : Option Addr) (oc : Nat) (ra : Option Addr) (rc : Nat) (One RR : List Nat) : Prop where
  at_ : MAt w db ma n mc inv (limbs m) [.slice oa n oc, .slice ra n rc]
  one : NRow w oa One
  onel : One.length = n
  oneL : Limbs One
  onev : val One = B64 ^ n % m
  rr : NRow w ra RR
  rrl : RR.length = n
  rrL : Limbs RR
  rrv : val RR = B64 ^ n * B64 ^ n % m
  pos : 1 < m
  odd : m % 2 = 1
  inv_ : (inv * (limbs m).getD 0 0 + 1) % B64 = 0
  invl : inv < B64
theorem ZMod.below {w w' : World} {db n m inv mc oc rc : Nat} {ma oa ra : Option Addr} {One RR : List Nat} (h : ZMod w db n m inv ma mc oa oc ra rc One RR) (hb : Below w.heap.size w w') : ZMod w' db n m inv ma mc oa oc ra rc One RR :=
  ⟨h.1.below hb, h.2.below hb, h.3, h.4, h.5, h.6.below hb, h.7, h.8, h.9, h.10, h.11, h.12, h.13⟩
theorem ZMod.len {w : World} {db n m inv mc oc rc : Nat} {ma oa ra : Option Addr} {One RR : List Nat} (h : ZMod w db n m inv ma mc oa oc ra rc One RR) : (limbs m).length = n := h.1.2.2.1
theorem ZMod.npos {w : World} {db n m inv mc oc rc : Nat} {ma oa ra : Option Addr} {One RR : List Nat} (h : ZMod w db n m inv ma mc oa oc ra rc One RR) : 0 < n := by
  have := (limbs_pos (show 0 < m by have := h.pos; omega)).1
  rw [h.len] at this; exact this
/-- powers of the base may be cut off modulo an odd number. -/
theorem cop_base {m n : Nat} (h : m % 2 = 1) : Nat.Coprime (B64 ^ n) m := by
  have h2 : Nat.Coprime 2 m := by
    show Nat.gcd 2 m = 1
    rw [Nat.gcd_rec, h]
    exact Nat.gcd_one_left 2
  rw [B64_two]
  exact Nat.Coprime.pow_left _ h2
theorem cut_le {x y R m : Nat} (hR : Nat.Coprime R m) (h : x * R % m = y * R % m) (hle : x ≤ y) : x % m = y % m := by
  have h1 : m ∣ y * R - x * R := Nat.dvd_of_mod_eq_zero (Nat.sub_mod_eq_zero_of_mod_eq h.symm)
  rw [← Nat.sub_mul] at h1
  obtain ⟨c, hc⟩ := hR.symm.dvd_of_dvd_mul_right h1
  rw [show y = x + m * c by omega, Nat.add_mul_mod_self_left]
theorem cut_base {x y R m : Nat} (hR : Nat.Coprime R m) (h : x * R % m = y * R % m) : x % m = y % m := by
  rcases Nat.le_total x y with hle | hle
  · exact cut_le hR h hle
  · exact (cut_le hR h.symm hle).symm
/-- a number in its form. -/
def Form (w : World) (a : Option Addr) (n m v : Nat) : Prop := ∃ Y, NRow w a Y ∧ Y.length = n ∧ Limbs Y ∧ val Y = v * B64 ^ n % m
theorem Form.below {w w' : World} {a : Option Addr} {n m v : Nat} (h : Form w a n m v) (hb : Below w.heap.size w w') : Form w' a n m v := by
  obtain ⟨Y, h1, h2⟩ := h; exact ⟨Y, Row.below h1 hb, h2⟩
theorem form_mul {P A Bv R m x y : Nat} (hR : Nat.Coprime R m) (hP : P < m) (h : P * R % m = A * Bv % m) (hA : A = x * R % m) (hB : Bv = y * R % m) : P = x * y * R % m := by
  have h1 : P * R % m = x * y * R * R % m := by
    rw [h, hA, hB, ← Nat.mul_mod]
    congr 1; ac_rfl
  have := cut_base hR h1
  rwa [Nat.mod_eq_of_lt hP] at this
theorem mulF_spec {w : World} {db n m inv mc oc rc ac bc x y : Nat} {ma oa ra aa ba : Option Addr} {One RR : List Nat} (h : ZMod w db n m inv ma mc oa oc ra rc One RR) (hx : Form w aa n m x) (hy : Form w ba n m y) :
    Calls Tryz.prog 70 #[.pointer (some ⟨db, 0, none⟩), .slice aa n ac, .slice ba n bc] w fun e w' => ∃ yb, e = .returned (.slice (some ⟨yb, 0, none⟩) n n) ∧ w.heap.size ≤ yb ∧ Form w' (some ⟨yb, 0, none⟩) n m (x * y) ∧ Below w.heap.size w w' := by
  obtain ⟨X, x1, x2, x3, x4⟩ := hx
  obtain ⟨Y, y1, y2, y3, y4⟩ := hy
  have hp := h.pos
  have hvm := val_limbs m
  refine (mulM_spec h.at_ x1 x2 x3 y1 y2 y3 (by rw [hvm, y4]; exact Nat.mod_lt _ (by omega)) h.npos h.inv_ h.invl).mono ?_
  rintro e w' ⟨P, yb, rfl, g1, g2, g3, g4, g5, g6, g7⟩
  rw [hvm] at g5 g6
  exact ⟨yb, rfl, g1, ⟨P, g2.nrow, g3, g4, form_mul (cop_base h.odd) g5 g6 x4 y4⟩, g7⟩
set_option maxHeartbeats 2000000 in
theorem from_spec {w : World} {db n m inv mc oc rc ac x : Nat} {ma oa ra aa : Option Addr} {One RR : List Nat} (h : ZMod w db n m inv ma mc oa oc ra rc One RR) (hx : Form w aa n m x) :
    Calls Tryz.prog 69 #[.pointer (some ⟨db, 0, none⟩), .slice aa n ac] w fun e w' => ∃ a' l' c' o', e = .returned (.slice a' l' c') ∧ NumO w' a' l' c' (x % m) o' ∧ (∀ k, o' = some k → w.heap.size ≤ k) ∧ Below w.heap.size w w' := by
  obtain ⟨X, x1, x2, x3, x4⟩ := hx
  have hp := h.pos
  have hn := h.npos
  have hvm := val_limbs m
  have h5 := h.at_.2.2.2.2.1
  refine calls_of_ev tysOk extsOk Tryz.func69 rfl rfl rfl ?_
  refine NilP.go ?_
  refine LdSl.go (h.at_.1.cell 0) ?_
  refine Mk.toN n rfl rfl (by omega) fun w1 m1 b1 s1 => ?_
  refine IdxP.toE 0 1 rfl rfl m1 hn (by simp) fun w2 m2 b2 s2 => ?_
  have hs := b1.size
  have hB2 : Below w.heap.size w w2 := Chg.below ((Chg.of_below (s := fun _ => False) b1).thenC b2 hs (fun k hk e => absurd e (by omega)))
  have h2 := h.below hB2
  obtain ⟨n', rfl⟩ : ∃ n', n = n' + 1 := ⟨n - 1, by omega⟩
  have e1 : (List.replicate (n' + 1) 0).set 0 1 = 1 :: List.replicate n' 0 := by rw [List.replicate_succ]; rfl
  rw [e1] at m2
  have hv1 : val (1 :: List.replicate n' 0) = 1 := by
    show 1 + 18446744073709551616 * val (List.replicate n' 0) = 1
    rw [val_zeros]
  refine CallP.intro (mulM_spec h2.at_ (x1.below hB2) x2 x3 m2.nrow (by simp) (fun y hy => ?_) (by rw [hvm, hv1]; omega) hn h2.inv_ h2.invl) ?_
  · rcases List.mem_cons.1 hy with rfl | hy
    · decide
    · rw [List.eq_of_mem_replicate hy]; decide
  rintro e w3 ⟨P, yb, rfl, g1, g2, g3, g4, g5, g6, g7⟩
  refine ⟨_, rfl, ?_⟩
  rw [hvm] at g5 g6
  rw [hv1, Nat.mul_one, x4, Nat.mod_mod] at g6
  have e2 := cut_base (cop_base h.odd) g6
  rw [Nat.mod_eq_of_lt g5] at e2
  have hNS : NumS w3 (some ⟨yb, 0, none⟩) (n' + 1) (n' + 1) (x % m) := ⟨P, g2.nrow, g4, g3.symm, Nat.le_refl _, by omega, e2⟩
  refine CallP.intro (normV_spec hNS) ?_
  rintro e w4 ⟨a', l', c', o', rfl, k1, k2, k3⟩
  have hB3 := hB2.trans (g7.mono hB2.size)
  exact ⟨_, rfl, rfl, a', l', c', o', rfl, k1, fun k hk => Nat.le_trans hB3.size (k2 k hk), hB3.trans (k3.mono hB3.size)⟩
theorem form_to {P R m x : Nat} (hR : Nat.Coprime R m) (hP : P < m) (h : P * R % m = x * (R * R % m) % m) : P = x * R % m := by
  rw [Nat.mul_mod_mod, ← Nat.mul_assoc] at h
  have := cut_base hR h
  rwa [Nat.mod_eq_of_lt hP] at this
set_option maxHeartbeats 2000000 in
theorem to_spec {w : World} {db n m inv mc oc rc l c x : Nat} {ma oa ra aa : Option Addr} {One RR : List Nat} (h : ZMod w db n m inv ma mc oa oc ra rc One RR) (hx : NumS w aa l c x) (hl : l ≤ n) :
    Calls Tryz.prog 67 #[.pointer (some ⟨db, 0, none⟩), .slice aa l c] w fun e w' => ∃ yb, e = .returned (.slice (some ⟨yb, 0, none⟩) n n) ∧ w.heap.size ≤ yb ∧ Form w' (some ⟨yb, 0, none⟩) n m x ∧ Below w.heap.size w w' := by
  have hp := h.pos
  have hvm := val_limbs m
  refine calls_of_ev tysOk extsOk Tryz.func67 rfl rfl rfl ?_
  refine DrawP.tree tysOk extsOk mixed [] (.take 0 (.take 1 (.take 2 (.take 4 (.take 5 (.take 6 (.held 7 (.alt 3 (.alt 8 (.take 9 .done) .nil) .nil)))))))) 16368 (by kernel_rfl) (by kernel_rfl)
    (X := Nat) (fun W' => ZMod W' db n m inv ma mc oa oc ra rc One RR) (fun yb => [(4, .slice (some ⟨yb, 0, none⟩) n n)])
    (fun yb W' => w.heap.size ≤ yb ∧ Form W' (some ⟨yb, 0, none⟩) n m x ∧ Below w.heap.size w W') ?_ ?_
  · intro w0 c0 b0 s0
    have q1 := h.below b0
    refine ⟨q1, ?_⟩
    refine NilP.go ?_
    refine HeldP.go (fun w' hS => LdSl.go (hS.at_.1.cell 3) rfl) ?_
    refine ⟨?_, trivial⟩
    refine CallP.intro (fill_spec q1.at_ (hx.below b0) hl) ?_
    rintro e w1 ⟨Y, rfl, y1, y2, y3, y4, y5⟩
    have q2 := q1.below y5
    refine ⟨_, rfl, q2, ?_⟩
    refine ⟨?_, trivial⟩
    refine CallP.intro (mulM_spec q2.at_ y1.nrow y2 y3 q2.rr q2.rrl q2.rrL (by rw [hvm, q2.rrv]; exact Nat.mod_lt _ (by omega)) q2.npos q2.inv_ q2.invl) ?_
    rintro e w2 ⟨P, yb, rfl, g1, g2, g3, g4, g5, g6, g7⟩
    refine ⟨_, rfl, q2.below g7, ?_⟩
    have hB := b0.trans (y5.mono b0.size)
    rw [hvm] at g5 g6
    rw [y4, q2.rrv] at g6
    exact ⟨yb, ⟨rfl, trivial⟩, Nat.le_trans hB.size g1, ⟨P, g2.nrow, g3, g4, form_to (cop_base h.odd) g5 g6⟩, hB.trans (g7.mono hB.size)⟩
  · rintro yb j w2 ⟨f1, f2, f3⟩
    exact ⟨rfl, yb, rfl, f1, f2, f3⟩
theorem oneF_spec {w : World} {db n m inv mc oc rc : Nat} {ma oa ra : Option Addr} {One RR : List Nat} (h : ZMod w db n m inv ma mc oa oc ra rc One RR) :
    Calls Tryz.prog 88 #[.pointer (some ⟨db, 0, none⟩)] w fun e w' => ∃ a' c', e = .returned (.slice a' n c') ∧ (∀ p, a' = some p → w.heap.size ≤ p.block) ∧ Form w' a' n m 1 ∧ Below w.heap.size w w' := by
  have h5 := h.at_.2.2.2.2.1
  have hl := h.onel
  refine calls_of_ev tysOk extsOk Tryz.func88 rfl rfl rfl ?_
  refine NilP.go ?_
  refine LdSl.go (h.at_.1.cell 2) ?_
  refine RdP.row' (xs := ints One) h.one (by rw [ints_length, hl]; show n * 1 = n; omega) ?_
  refine App.own (OwnS.nil w) (by rw [ints_length, hl]) (by omega) (by decide) fun a2 c2 o2 w2 q1 q2 q3 => ?_
  rw [List.nil_append] at q1
  rw [Nat.zero_add] at q1
  refine ⟨rfl, a2, c2, ?_, ?_, ⟨One, q1.row, hl, h.oneL, by rw [h.onev, Nat.one_mul]⟩, Chg.below ((Chg.of_below (s := fun _ => False) (Below.refl _ w)).thenC q2 (Nat.le_refl _) (fun k hk e => by cases e))⟩
  · show Ending.returned (.slice a2 (0 + n) c2) = _
    rw [Nat.zero_add]
  · intro p hp
    have := q1.at p hp
    rcases q3 with q3 | q3
    · rw [q3] at this; cases this
    · rw [q3] at this
      have e := Option.some.inj this
      omega
end Go.Proofs.YthneejblcffdgaaGreatDoor
