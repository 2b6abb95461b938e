import Derived.Test.YthghiokcinpnlaaDoorRf2
namespace Go.Proofs.YthghiokcinpnlaaDoor
open Go Go.Ev Go.RowKit
set_option maxRecDepth 20000
set_option linter.unusedVariables false

/-! ### the reference: SHA-256 of a whole message -/
def rsig0 (x : Int) : Int := Go.bits .xor .u32 (Go.bits .xor .u32 (rr32 x 7) (rr32 x 18)) (x.fdiv (2 ^ (min (3 : Int).toNat 32)))
def rsig1 (x : Int) : Int := Go.bits .xor .u32 (Go.bits .xor .u32 (rr32 x 17) (rr32 x 19)) (x.fdiv (2 ^ (min (10 : Int).toNat 32)))
def rnextW (p L : List Int) (i : Nat) : Int :=
  if i < 16 then get32 (p.getD (4 * i) 0) (p.getD (4 * i + 1) 0) (p.getD (4 * i + 2) 0) (p.getD (4 * i + 3) 0)
  else IntKind.u32.wrap (IntKind.u32.wrap (IntKind.u32.wrap (L.getD (i - 16) 0 + rsig0 (L.getD (i - 15) 0)) + L.getD (i - 7) 0) + rsig1 (L.getD (i - 2) 0))
def rsched (p : List Int) : Nat → List Int
  | 0 => []
  | i + 1 => rsched p i ++ [rnextW p (rsched p i) i]
theorem rsched_length (p : List Int) : ∀ i, (rsched p i).length = i
  | 0 => rfl
  | i + 1 => by simp [rsched, rsched_length p i]
def rbig1 (e : Int) : Int := Go.bits .xor .u32 (Go.bits .xor .u32 (rr32 e 6) (rr32 e 11)) (rr32 e 25)
def rbig0 (a : Int) : Int := Go.bits .xor .u32 (Go.bits .xor .u32 (rr32 a 2) (rr32 a 13)) (rr32 a 22)
def rt1 (v : List Int) (kk x : Int) : Int :=
  IntKind.u32.wrap (IntKind.u32.wrap (IntKind.u32.wrap (IntKind.u32.wrap (v.getD 7 0 + rbig1 (v.getD 4 0)) + Go.bits .xor .u32 (Go.bits .and .u32 (v.getD 4 0) (v.getD 5 0)) (Go.bits .and .u32 (Go.bits .xor .u32 4294967295 (v.getD 4 0)) (v.getD 6 0))) + kk) + x)
def rt2 (v : List Int) : Int :=
  IntKind.u32.wrap (rbig0 (v.getD 0 0) + Go.bits .xor .u32 (Go.bits .xor .u32 (Go.bits .and .u32 (v.getD 0 0) (v.getD 1 0)) (Go.bits .and .u32 (v.getD 0 0) (v.getD 2 0))) (Go.bits .and .u32 (v.getD 1 0) (v.getD 2 0)))
def rrnd (v : List Int) (kk x : Int) : List Int :=
  [IntKind.u32.wrap (rt1 v kk x + rt2 v), v.getD 0 0, v.getD 1 0, v.getD 2 0, IntKind.u32.wrap (v.getD 3 0 + rt1 v kk x), v.getD 4 0, v.getD 5 0, v.getD 6 0]
def rrnds (W v : List Int) : Nat → List Int
  | 0 => v
  | i + 1 => rrnd (rrnds W v i) (k256L.getD i 0) (W.getD i 0)
theorem rrnds_length (W v : List Int) (h : v.length = 8) : ∀ i, (rrnds W v i).length = 8
  | 0 => h
  | i + 1 => rfl
def rsumTo (h v : List Int) : Nat → List Int
  | 0 => h
  | i + 1 => (rsumTo h v i).set i (IntKind.u32.wrap ((rsumTo h v i).getD i 0 + v.getD i 0))
theorem rsumTo_length (h v : List Int) : ∀ i, (rsumTo h v i).length = h.length
  | 0 => rfl
  | i + 1 => by simp [rsumTo, rsumTo_length h v i]
def rcompress (h p : List Int) : List Int := rsumTo h (rrnds (rsched p 64) h 64) 8
theorem rcompress_length (h p : List Int) : (rcompress h p).length = h.length := rsumTo_length _ _ _
def rfold (h m : List Int) : Nat → List Int
  | 0 => h
  | i + 1 => rcompress (rfold h m i) (m.drop (64 * i))
theorem rfold_length (h m : List Int) : ∀ i, (rfold h m i).length = h.length
  | 0 => rfl
  | i + 1 => by rw [rfold, rcompress_length, rfold_length h m i]

theorem Row.drp {w : World} {a : Option Addr} {K : IntKind} {xs : List Int} (h : Row w a K xs) (w' : World) (hw : ∀ p, w'.cell? p = w.cell? p) : Row w' a K xs := h.cells fun p v hv => (hw p).trans hv

set_option maxHeartbeats 4000000 in
theorem rsha_spec {a : Option Addr} {l c hb : Nat} {bs hs : List Int} {w : World} (hr : Row w a .u8 bs) (hl : l = bs.length) (hsz : l ≤ 1000000) (hH : Blk w hb (hs.map (Value.int .u32)) 69) (hs8 : hs.length = 8) :
    Calls Tryd.prog 53 #[.slice a l c, .slice (some ⟨hb, 0, none⟩) 8 8] w fun e w' => ∃ a' c' o', e = .returned (.slice a' 32 c') ∧ OwnS .u8 5 w' a' 32 c' (wordsTo (rfold hs (padded bs) ((padded bs).length / 64)) 8) o' ∧ (∀ k, o' = some k → w.heap.size ≤ k) ∧ Chg w.heap.size (fun k => k = hb) w w' := by
  refine calls_of_ev tysOk extsOk Tryd.func53 rfl rfl rfl ?_
  have hbl := hH.lt
  refine CallP.intro (k256_spec w) ?_
  rintro e w1 ⟨rfl, xk, b1⟩
  refine ⟨_, rfl, ?_⟩
  refine CallP.intro (pad_spec (hr.below b1) hl hsz) ?_
  rintro e w2 ⟨am, cm, om, rfl, xm, om1, b2⟩
  refine ⟨_, rfl, ?_⟩
  have hM : (padded bs).length % 64 = 0 := by rw [padded_length]; unfold zPad; omega
  have hMs : (padded bs).length ≤ 1000100 := by rw [padded_length]; have : zPad bs.length < 64 := Nat.mod_lt _ (by decide); omega
  generalize padded bs = M at xm hM hMs ⊢
  have b02 := b1.trans (b2.mono b1.size)
  have xk2 := xk.belowS b2
  have hk2 := xk2.lt
  have hs1 := b1.size
  have hs2 := b2.size
  have hw1 : w.heap.size < w1.heap.size := xk.lt
  have hmb : ∀ p, am = some p → w1.heap.size ≤ p.block := fun p hp => om1 _ (xm.at p hp)
  have hH2 := hH.belowS b02
  refine LoopP.go (S := Nat × Option Addr × Nat) 803469022129495137770981046170581301261101496891396415815616 (by kernel_rfl) (fun s => [(6, .slice s.2.1 (M.length - 64 * s.1) s.2.2), (5, .slice (some ⟨w.heap.size, 0, none⟩) 64 64)])
    (fun s W => 64 * s.1 ≤ M.length ∧ Row W s.2.1 .u8 (M.drop (64 * s.1)) ∧ (∀ p, s.2.1 = some p → w1.heap.size ≤ p.block) ∧ M.length - 64 * s.1 ≤ s.2.2 ∧ Blk W hb ((rfold hs M s.1).map (Value.int .u32)) 69 ∧ Chg w2.heap.size (fun k => k = hb) w2 W)
    (fun s => M.length - 64 * s.1) (0, am, cm) ⟨rfl, rfl, trivial⟩ ⟨Nat.zero_le _, xm.row, hmb, xm.le, hH2, Chg.refl _ _ _⟩ ?_
  rintro ⟨i, ma, mc⟩ j W ⟨k1, k2, k3, k4, k5, k6⟩
  simp only at k1 k2 k3 k4 k5
  have hsW := k6.size
  have xkW := xk2.chg k6 hk2 (by omega)
  have hH8 : (rfold hs M i).length = 8 := by rw [rfold_length, hs8]
  generalize hHd : rfold hs M i = H at k5 hH8
  refine IfP.dec (fun hgt => ?_) (fun hle => ?_)
  · have hgt : 64 * i + 64 ≤ M.length := by omega
    generalize hP : M.drop (64 * i) = p at k2
    have hpl : p.length = M.length - 64 * i := by rw [← hP, List.length_drop]
    refine Mk.to 64 64 rfl rfl (Nat.le_refl _) (by decide) rfl fun w3 m3 b3 s3 => ?_
    -- the schedule
    refine LoopP.go (S := Nat) 9671406556917033263433472 (by kernel_rfl) (fun t => [(8, .int .i64 t)])
      (fun t V => t ≤ 64 ∧ Buf .u32 69 V W.heap.size (rsched p t ++ List.replicate (64 - t) 0) 64 ∧ Chg w3.heap.size (fun k => k = W.heap.size) w3 V) (fun t => 64 - t) 0 ⟨rfl, trivial⟩
      ⟨by omega, by simpa [rsched] using m3, Chg.refl _ _ _⟩ ?_
    rintro t j3 V ⟨v1, v2, v3⟩
    have hsl := rsched_length p t
    have hWV : Below W.heap.size W V := Chg.below ((Chg.of_below (s := fun _ => False) b3).thenC v3 b3.size (fun k hk e => by omega))
    refine IfP.dec (fun hlt => ?_) (fun hge => ?_)
    · have hlt' : t < 64 := by omega
      have hset : ∀ v, (rsched p t ++ List.replicate (64 - t) 0).set t v = rsched p t ++ [v] ++ List.replicate (64 - (t + 1)) 0 := by
        intro v
        rw [show 64 - t = (64 - (t + 1)) + 1 by omega, List.replicate_succ]
        have := set_split (rsched p t) 0 v (List.replicate (64 - (t + 1)) 0)
        rw [hsl] at this
        rw [this]; simp
      have hnext : IntKind.i64.wrap ((t : Int) + 1) = ((t + 1 : Nat) : Int) := by rw [show (t : Int) + 1 = ((t + 1 : Nat) : Int) by omega]; exact i64_of _ (by omega)
      refine IfP.dec (fun h16 => ?_) (fun h16 => ?_)
      · have h16' : t < 16 := by omega
        have hm : IntKind.i64.wrap (4 * (t : Int)) = ((4 * t : Nat) : Int) := by rw [show (4 : Int) * t = ((4 * t : Nat) : Int) by omega]; exact i64_of _ (by omega)
        refine SlcP.row (4 * t) (M.length - 64 * i) hm rfl (k2.below hWV) hpl.symm k4 (by omega) (Nat.le_refl _) (fun a' ha' _ => ?_)
        rw [← hpl, List.take_length] at ha'
        refine CallP.intro (word_spec a' _ _ _ V ha' (by simp; omega) (by omega)) ?_
        rintro e w4 ⟨rfl, rfl⟩
        refine ⟨_, rfl, ?_⟩
        refine IdxP.toBuf t rfl v2.drw hlt' (by simp [hsl]; omega) fun V1 g1 g2 g3 => ?_
        refine ⟨rfl, t + 1, ⟨⟨congrArg (Value.int .i64) hnext, trivial⟩, by omega, ?_, (v3.drw).thenC g2 v3.size (fun _ _ h => h)⟩, by omega⟩
        rw [hset] at g1
        simpa [rsched, rnextW, h16', List.getD_eq_getElem?_getD] using g1
      · have h16' : ¬ t < 16 := by omega
        have hrow : Row V (some ⟨W.heap.size, 0, none⟩) .u32 (rsched p t ++ List.replicate (64 - t) 0) := v2.row
        have hgD : ∀ j, j < t → (rsched p t ++ List.replicate (64 - t) 0).getD j 0 = (rsched p t).getD j 0 := by
          intro j hj
          rw [List.getD_eq_getElem?_getD, List.getElem?_append_left (by omega), ← List.getD_eq_getElem?_getD]
        have hln : 64 = (rsched p t ++ List.replicate (64 - t) (0 : Int)).length := by simp [hsl]; omega
        have e15 : IntKind.i64.wrap ((t : Int) - 15) = ((t - 15 : Nat) : Int) := by rw [show (t : Int) - 15 = ((t - 15 : Nat) : Int) by omega]; exact i64_of _ (by omega)
        have e2 : IntKind.i64.wrap ((t : Int) - 2) = ((t - 2 : Nat) : Int) := by rw [show (t : Int) - 2 = ((t - 2 : Nat) : Int) by omega]; exact i64_of _ (by omega)
        have e16 : IntKind.i64.wrap ((t : Int) - 16) = ((t - 16 : Nat) : Int) := by rw [show (t : Int) - 16 = ((t - 16 : Nat) : Int) by omega]; exact i64_of _ (by omega)
        have e7 : IntKind.i64.wrap ((t : Int) - 7) = ((t - 7 : Nat) : Int) := by rw [show (t : Int) - 7 = ((t - 7 : Nat) : Int) by omega]; exact i64_of _ (by omega)
        refine IdxP.ld (t - 15) e15 hrow hln (by omega) fun _ _ _ => ?_
        refine IdxP.ld (t - 2) e2 hrow hln (by omega) fun _ _ _ => ?_
        refine DrawP.tail tysOk extsOk mixed 32 (by kernel_rfl) rfl ?_
        refine IdxP.ld (t - 16) e16 hrow.drw hln (by omega) fun _ _ _ => ?_
        refine ⟨_, right_spec _ 7 (by decide) _, ?_⟩
        refine ⟨_, right_spec _ 18 (by decide) _, ?_⟩
        refine ChkP.go (by omega) ?_
        refine IdxP.ld (t - 7) e7 hrow.drw hln (by omega) fun _ _ _ => ?_
        refine ⟨_, right_spec _ 17 (by decide) _, ?_⟩
        refine ⟨_, right_spec _ 19 (by decide) _, ?_⟩
        refine ChkP.go (by omega) ?_
        refine IdxP.toBuf t rfl v2.drw hlt' hln fun V1 g1 g2 g3 => ?_
        refine ⟨rfl, t + 1, ⟨⟨congrArg (Value.int .i64) hnext, trivial⟩, by omega, ?_, (v3.drw).thenC g2 v3.size (fun _ _ h => h)⟩, by omega⟩
        rw [hset] at g1
        simp only [rsched]
        simp only [rnextW, if_neg h16']
        rw [hgD _ (by omega), hgD _ (by omega), hgD _ (by omega), hgD _ (by omega)] at g1
        exact g1
    · have ht : t = 64 := by omega
      subst ht
      simp only [Nat.sub_self, List.replicate_zero, List.append_nil] at v2
      generalize hSW : rsched p 64 = SW at v2 hsl
      have k5V := k5.belowS hWV
      have hrH : Row V (some ⟨hb, 0, none⟩) .u32 H := Row.of_blk 0 k5V fun i hi => by rw [Nat.zero_add, List.getElem?_map, List.getElem?_eq_getElem hi]; rfl
      refine RdP.row' hrH hH8.symm ?_
      refine App.own (OwnS.nil V) hH8.symm (by decide) (by decide) fun a4 c4 o4 w4 r1 r2 r3 => ?_
      have bV4 : Below V.heap.size V w4 := Chg.below (r2.mono (Nat.le_refl _) (fun k _ h => by cases h))
      rw [List.nil_append] at r1
      have hwb : Buf .u32 69 w4 W.heap.size SW 64 := v2.below bV4
      have bW4 := hWV.trans (bV4.mono hWV.size)
      have hVs := hWV.size
      have h4s := bV4.size
      have xk4 := xkW.belowS bW4
      have hva0 : ∀ p, a4 = some p → V.heap.size ≤ p.block := fun p hp => by
        have h := r1.at p hp
        rcases r3 with r3 | r3
        · rw [r3] at h; cases h
        · rw [r3] at h; have := Option.some.inj h; omega
      -- the rounds
      refine LoopP.go (S := Nat × Option Addr × Nat) 49039857307708443467467104868771208249571983776284801024 (by kernel_rfl) (fun s => [(12, .int .i64 s.1), (11, .slice s.2.1 8 s.2.2)])
        (fun s V2 => s.1 ≤ 64 ∧ Row V2 s.2.1 .u32 (rrnds SW H s.1) ∧ (∀ p, s.2.1 = some p → V.heap.size ≤ p.block) ∧ Below w4.heap.size w4 V2) (fun s => 64 - s.1) (0, a4, c4) ⟨rfl, rfl, trivial⟩
        ⟨by show 0 ≤ 64; omega, r1.row, hva0, Below.refl _ _⟩ ?_
      rintro ⟨t, va, vc⟩ j4 V2 ⟨u1, u2, uv, u3⟩
      simp only at u1 u2 uv
      have hRl := rrnds_length SW H hH8 t
      refine IfP.dec (fun hlt => ?_) (fun hge => ?_)
      · have hlt' : t < 64 := by omega
        generalize hR : rrnds SW H t = R at u2 hRl
        have hk3 : Row V2 (some ⟨w.heap.size, 0, none⟩) .u32 k256L := (Row.of_blk 0 (xk4.belowS u3) fun i hi => by rw [Nat.zero_add, List.getElem?_map, List.getElem?_eq_getElem hi]; rfl)
        have hw3 : Row V2 (some ⟨W.heap.size, 0, none⟩) .u32 SW := (hwb.below u3).row
        refine IdxP.ld 4 rfl u2 hRl.symm (by decide) fun _ _ _ => ?_
        refine IdxP.ld 0 rfl u2 hRl.symm (by decide) fun _ _ _ => ?_
        refine DrawP.still tysOk extsOk mixed (by kernel_rfl) rfl ?_
        refine IdxP.ld 7 rfl u2.drw hRl.symm (by decide) fun _ _ _ => ?_
        refine ⟨_, right_spec _ 6 (by decide) _, ?_⟩
        refine ⟨_, right_spec _ 11 (by decide) _, ?_⟩
        refine ⟨_, right_spec _ 25 (by decide) _, ?_⟩
        refine IdxP.ld 5 rfl u2.drw hRl.symm (by decide) fun _ _ _ => ?_
        refine IdxP.ld 6 rfl u2.drw hRl.symm (by decide) fun _ _ _ => ?_
        refine IdxP.ld t rfl hk3.drw rfl (by show t < 64; omega) fun _ _ _ => ?_
        refine IdxP.ld t rfl hw3.drw hsl.symm (by omega) fun _ _ _ => ?_
        refine DrawP.still tysOk extsOk mixed (by kernel_rfl) rfl ?_
        refine ⟨_, right_spec _ 2 (by decide) _, ?_⟩
        refine ⟨_, right_spec _ 13 (by decide) _, ?_⟩
        refine ⟨_, right_spec _ 22 (by decide) _, ?_⟩
        refine IdxP.ld 1 rfl u2.drw.drw hRl.symm (by decide) fun _ _ _ => ?_
        refine IdxP.ld 2 rfl u2.drw.drw hRl.symm (by decide) fun _ _ _ => ?_
        refine IdxP.ld 1 rfl u2.drw.drw hRl.symm (by decide) fun _ _ _ => ?_
        refine IdxP.ld 2 rfl u2.drw.drw hRl.symm (by decide) fun _ _ _ => ?_
        refine DrawP.tail tysOk extsOk mixed 26 (by kernel_rfl) rfl ?_
        refine IdxP.ld 0 rfl u2.drw.drw.drw hRl.symm (by decide) fun _ _ _ => ?_
        refine IdxP.ld 1 rfl u2.drw.drw.drw hRl.symm (by decide) fun _ _ _ => ?_
        refine IdxP.ld 2 rfl u2.drw.drw.drw hRl.symm (by decide) fun _ _ _ => ?_
        refine IdxP.ld 3 rfl u2.drw.drw.drw hRl.symm (by decide) fun _ _ _ => ?_
        refine IdxP.ld 4 rfl u2.drw.drw.drw hRl.symm (by decide) fun _ _ _ => ?_
        refine IdxP.ld 5 rfl u2.drw.drw.drw hRl.symm (by decide) fun _ _ _ => ?_
        refine IdxP.ld 6 rfl u2.drw.drw.drw hRl.symm (by decide) fun _ _ _ => ?_
        have hnext : IntKind.i64.wrap ((t : Int) + 1) = ((t + 1 : Nat) : Int) := by rw [show (t : Int) + 1 = ((t + 1 : Nat) : Int) by omega]; exact i64_of _ (by omega)
        refine ⟨rfl, (t + 1, some ⟨V2.heap.size, 0, none⟩, 8), ⟨⟨congrArg (Value.int .i64) hnext, rfl, trivial⟩, by show t + 1 ≤ 64; omega, ?_, (fun p hp => by cases hp; exact Nat.le_trans h4s u3.size), (u3.drew.drew.drew).alloc u3.size _⟩, by show 64 - (t + 1) < 64 - t; omega⟩
        show Row _ _ _ (rrnds SW H (t + 1))
        rw [rrnds, hR]
        refine Row.of_blk 0 (Blk.newA ({ V2 with drawn := V2.drawn + 1 + 1 + 1 }) ((rrnd R (k256L.getD t 0) (SW.getD t 0)).map (Value.int .u32)).toArray 69) fun i hi => ?_
        rw [Nat.zero_add]; show ((rrnd R _ _).map (Value.int .u32))[i]? = _
        rw [List.getElem?_map, List.getElem?_eq_getElem hi]; rfl
      · have ht : t = 64 := by omega
        subst ht
        generalize hR : rrnds SW H 64 = R at u2 hRl
        have bW2 := bW4.trans (u3.mono (by omega))
        have k5b := k5V.belowS bV4
        have k52 := k5b.belowS u3
        -- the sums
        refine LoopP.go (S := Nat) 803419982272187429327513579065712491367225697239486542512128 (by kernel_rfl) (fun t => [(17, .int .i64 t)])
          (fun t V3 => t ≤ 8 ∧ Blk V3 hb ((rsumTo H R t).map (Value.int .u32)) 69 ∧ Row V3 va .u32 R ∧ Chg V2.heap.size (fun k => k = hb) V2 V3) (fun t => 8 - t) 0 ⟨rfl, trivial⟩
          ⟨by omega, k52, u2, Chg.refl _ _ _⟩ ?_
        rintro t j5 V3 ⟨q1, q2, q3, q4⟩
        have hSl := rsumTo_length H R t
        refine IfP.dec (fun hlt => ?_) (fun hge => ?_)
        · have hlt' : t < 8 := by omega
          refine DrawP.tail tysOk extsOk mixed 10 (by kernel_rfl) rfl ?_
          refine IdxP.ld0 t rfl (Blk.drw q2) hlt' (getD_map_int _ _ _ (by omega)) ?_
          refine IdxP.ld t rfl q3.drw hRl.symm hlt' fun _ _ _ => ?_
          refine IdxP.stTo t rfl (Blk.drw q2) hlt' rfl (by simp; omega) fun V4 g1 g2 g3 => ?_
          have hnext : IntKind.i64.wrap ((t : Int) + 1) = ((t + 1 : Nat) : Int) := by rw [show (t : Int) + 1 = ((t + 1 : Nat) : Int) by omega]; exact i64_of _ (by omega)
          rw [ints_set] at g1
          refine ⟨rfl, t + 1, ⟨⟨congrArg (Value.int .i64) hnext, trivial⟩, by omega, g1, ?_, (q4.drw).thenC g2 q4.size (fun _ _ h => h)⟩, by omega⟩
          refine q3.drw.chg0 g2 (fun h0 p hp e => ?_)
          have := uv p hp
          have hbV := k5V.lt
          omega
        · have ht : t = 8 := by omega
          subst ht
          have hW3 : Chg w2.heap.size (fun k => k = hb) w2 V3 := (k6.thenB (bW2.mono (Nat.le_refl _)) hsW).thenC q4 (by have := bW2.size; omega) (fun _ _ h => h)
          have k23 : Row V3 ma .u8 p := (k2.below bW2).chg0 q4 (fun h0 q hq e => by have := k3 q hq; omega)
          refine SlcP.row 64 (M.length - 64 * i) rfl rfl k23 hpl.symm k4 (by omega) (Nat.le_refl _) (fun a' ha' ho => ?_)
          rw [← hpl, List.take_length, ← hP, List.drop_drop] at ha'
          refine ⟨rfl, (i + 1, a', mc - 64), ⟨⟨congrArg (fun n => Value.slice a' n (mc - 64)) (show M.length - 64 * i - 64 = M.length - 64 * (i + 1) by omega), rfl, trivial⟩, by show 64 * (i + 1) ≤ _; omega, ?_, fun q hq => ?_, by show M.length - 64 * (i + 1) ≤ mc - 64; omega, ?_, hW3⟩, by show M.length - 64 * (i + 1) < M.length - 64 * i; omega⟩
          · show Row V3 a' .u8 (M.drop (64 * (i + 1)))
            rw [show 64 * (i + 1) = 64 * i + 64 by omega]; exact ha'
          · obtain ⟨q', e1, e2⟩ := ho q hq
            rw [← e2]; exact k3 q' e1
          · show Blk V3 hb ((rfold hs M (i + 1)).map (Value.int .u32)) 69
            rw [rfold, hHd, hP, rcompress, hSW, hR]
            exact q2
  · have hi : 64 * i = M.length := by omega
    have hi' : i = M.length / 64 := by omega
    rw [← hi', hHd]
    have hrH : Row W (some ⟨hb, 0, none⟩) .u32 H := Row.of_blk 0 k5 fun i hi => by rw [Nat.zero_add, List.getElem?_map, List.getElem?_eq_getElem hi]; rfl
    refine CallP.intro (words_spec hrH hH8.symm (by decide)) ?_
    rintro e w9 ⟨a', c', o', rfl, t1, t2, t3⟩
    have hC := (Chg.of_below (s := fun k => k = hb) b02).thenC k6 b02.size (fun _ _ h => h)
    exact ⟨_, rfl, rfl, a', c', o', rfl, t1, fun k hk => Nat.le_trans hC.size (t2 k hk), hC.thenB t3 hC.size⟩
end Go.Proofs.YthghiokcinpnlaaDoor
