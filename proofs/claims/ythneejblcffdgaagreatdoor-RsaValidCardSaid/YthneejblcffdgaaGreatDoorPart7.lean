/- Texts of this proof, one behind the other: Sha2 Hc1 Hc2. -/
import Derived.Test.YthneejblcffdgaaGreatDoorPart6
namespace Go.Proofs.YthneejblcffdgaaGreatDoor
open Go Go.Ev Go.RowKit
set_option maxRecDepth 20000
set_option linter.unusedVariables false

/-! ### what the block function of SHA-256 computes -/
def sig0 (x : Int) : Int := Go.bits .xor .u32 (Go.bits .xor .u32 (rotl32 x (-7)) (rotl32 x (-18))) (x.fdiv (2 ^ (min (3 : Int).toNat 32)))
def sig1 (x : Int) : Int := Go.bits .xor .u32 (Go.bits .xor .u32 (rotl32 x (-17)) (rotl32 x (-19))) (x.fdiv (2 ^ (min (10 : Int).toNat 32)))
def nextW (p L : List Int) (i : Nat) : Int :=
  if i < 16 then get32 (p.getD (4 * i) 0) (p.getD (4 * i + 1) 0) (p.getD (4 * i + 2) 0) (p.getD (4 * i + 3) 0)
  else IntKind.u32.wrap (IntKind.u32.wrap (IntKind.u32.wrap (L.getD (i - 16) 0 + sig0 (L.getD (i - 15) 0)) + L.getD (i - 7) 0) + sig1 (L.getD (i - 2) 0))
def sched (p : List Int) : Nat → List Int
  | 0 => []
  | i + 1 => sched p i ++ [nextW p (sched p i) i]
theorem sched_length (p : List Int) : ∀ i, (sched p i).length = i
  | 0 => rfl
  | i + 1 => by simp [sched, sched_length p i]
def big1 (e : Int) : Int := Go.bits .xor .u32 (Go.bits .xor .u32 (rotl32 e (-6)) (rotl32 e (-11))) (rotl32 e (-25))
def big0 (a : Int) : Int := Go.bits .xor .u32 (Go.bits .xor .u32 (rotl32 a (-2)) (rotl32 a (-13))) (rotl32 a (-22))
def t1 (v : List Int) (kk x : Int) : Int :=
  IntKind.u32.wrap (IntKind.u32.wrap (IntKind.u32.wrap (IntKind.u32.wrap (v.getD 7 0 + big1 (v.getD 4 0)) + Go.bits .xor .u32 (Go.bits .and .u32 (v.getD 4 0) (v.getD 5 0)) (Go.bits .and .u32 (Go.bits .xor .u32 4294967295 (v.getD 4 0)) (v.getD 6 0))) + IntKind.u32.wrap (kk.fdiv (2 ^ (min (32 : Int).toNat 64)))) + x)
def t2 (v : List Int) : Int :=
  IntKind.u32.wrap (big0 (v.getD 0 0) + Go.bits .xor .u32 (Go.bits .xor .u32 (Go.bits .and .u32 (v.getD 0 0) (v.getD 1 0)) (Go.bits .and .u32 (v.getD 0 0) (v.getD 2 0))) (Go.bits .and .u32 (v.getD 1 0) (v.getD 2 0)))
def rnd (v : List Int) (kk x : Int) : List Int :=
  [IntKind.u32.wrap (t1 v kk x + t2 v), v.getD 0 0, v.getD 1 0, v.getD 2 0, IntKind.u32.wrap (v.getD 3 0 + t1 v kk x), v.getD 4 0, v.getD 5 0, v.getD 6 0]
def rnds (kt W v : List Int) : Nat → List Int
  | 0 => v
  | i + 1 => rnd (rnds kt W v i) (kt.getD i 0) (W.getD i 0)
theorem rnd_length (v : List Int) (a b : Int) : (rnd v a b).length = 8 := rfl
theorem rnds_length (kt W v : List Int) (h : v.length = 8) : ∀ i, (rnds kt W v i).length = 8
  | 0 => h
  | i + 1 => rfl
def addH (h x : Int) : Int := IntKind.u64.wrap (IntKind.u32.wrap (IntKind.u32.wrap h + x))
def sumTo (h v : List Int) : Nat → List Int
  | 0 => h
  | i + 1 => (sumTo h v i).set i (addH ((sumTo h v i).getD i 0) (v.getD i 0))
theorem sumTo_length (h v : List Int) : ∀ i, (sumTo h v i).length = h.length
  | 0 => rfl
  | i + 1 => by simp [sumTo, sumTo_length h v i]
def compress (kt h p : List Int) : List Int := sumTo h (rnds kt (sched p 64) (h.map IntKind.u32.wrap) 64) 8
theorem compress_length (kt h p : List Int) : (compress kt h p).length = h.length := sumTo_length _ _ _

/-- the cells of a Hash. -/
def hcells (kind : Int) (hs : List Int) (wait : Value) (n : Int) : List Value := .int .i64 kind :: (hs.map (Value.int .u64) ++ [wait, .int .u64 n])

theorem getD_map_int (K : IntKind) (l : List Int) (i : Nat) (h : i < l.length) : (l.map (Value.int K))[i]? = some (.int K (l.getD i 0)) := by
  simp [h, List.getD_eq_getElem?_getD]
theorem i64_of (n : Nat) (h : n < 9223372036854775808) : IntKind.i64.wrap (n : Int) = n := IntWalk.i64_in _ (by omega)

set_option maxHeartbeats 1000000 in
theorem sha256_spec (hb : Nat) (a : Option Addr) (l c : Nat) (kind n : Int) (wait : Value) (hs p kt : List Int) (w : World)
    (hB : Blk w hb (hcells kind hs wait n) 135) (hs8 : hs.length = 8) (hr : Row w a .u8 p) (hl : l = p.length) (h64 : 64 ≤ l) (hc : l ≤ c)
    (hoff : ∀ q, a = some q → q.block ≠ hb) (hk : Row w (some ⟨3, 0, none⟩) .u64 kt) (hkl : kt.length = 80) (hk0 : 3 ≠ hb) :
    Calls Tryz.prog 111 #[.pointer (some ⟨hb, 0, none⟩), .slice a l c] w fun e w' => e = .returned (.tuple #[]) ∧ Blk w' hb (hcells kind (compress kt hs p) wait n) 135 ∧ Chg w.heap.size (fun k => k = hb) w w' := by
  refine calls_of_ev tysOk extsOk Tryz.func111 rfl rfl rfl ?_
  have hbl := hB.lt
  have hk3 : 3 < w.heap.size := by obtain ⟨b, o, h1, h2⟩ := hk 0 (by omega); cases h1; exact cell_lt h2
  -- the schedule
  refine LoopP.go (S := Nat) 9444732965739288331232 (by kernel_rfl) (fun i => [(21, .int .i64 i), (4, .pointer (some ⟨w.heap.size, 0, none⟩))])
    (fun i W => i ≤ 64 ∧ Below w.heap.size w W ∧ Blk W w.heap.size ((sched p i ++ List.replicate (64 - i) 0).map (Value.int .u32)) 148) (fun i => 64 - i) 0 ⟨rfl, rfl, trivial⟩
    ⟨by omega, (Below.refl _ _).alloc (Nat.le_refl _) _, by have := Blk.newA w (inf148.zero.cells) 148; simpa [inf148, sched, Value.cells] using this⟩ ?_
  rintro i j W ⟨hi, hbw, hw⟩
  refine IfP.dec (fun hlt => ?_) (fun hge => ?_)
  · have hlt' : i < 64 := by omega
    have hsl := sched_length p i
    have hset : ∀ v, ((sched p i ++ List.replicate (64 - i) 0).map (Value.int .u32)).set i (.int .u32 v) = (sched p i ++ [v] ++ List.replicate (64 - (i + 1)) 0).map (Value.int .u32) := by
      intro v
      rw [ints_set]
      congr 1
      rw [show 64 - i = (64 - (i + 1)) + 1 by omega, List.replicate_succ]
      have := set_split (sched p i) 0 v (List.replicate (64 - (i + 1)) 0)
      rw [hsl] at this
      rw [this]; simp
    have hnext : IntKind.i64.wrap ((i : Int) + 1) = ((i + 1 : Nat) : Int) := by rw [show (i : Int) + 1 = ((i + 1 : Nat) : Int) by omega]; exact i64_of _ (by omega)
    refine IfP.dec (fun h16 => ?_) (fun h16 => ?_)
    · have h16' : i < 16 := by omega
      have hm : IntKind.i64.wrap (4 * (i : Int)) = ((4 * i : Nat) : Int) := by rw [show (4 : Int) * i = ((4 * i : Nat) : Int) by omega]; exact i64_of _ (by omega)
      refine SlcP.row (4 * i) l hm rfl (hr.below hbw) hl hc (by omega) (Nat.le_refl _) (fun a' ha' _ => ?_)
      rw [hl, List.take_length] at ha'
      refine CallP.intro (get32_spec a' _ _ _ W ha' (by simp; omega) (by omega)) ?_
      rintro e w1 ⟨rfl, rfl⟩
      refine ⟨_, rfl, ?_⟩
      refine IdxP.st0 i rfl (Blk.drw hw) hlt' rfl (by simp; omega) ?_
      refine ⟨rfl, i + 1, ⟨⟨congrArg (Value.int .i64) hnext, rfl, trivial⟩, by omega, (hbw.drew).setCell (Nat.le_refl _) _, ?_⟩, by omega⟩
      have := (Blk.drw hw).setCell i (.int .u32 (get32 ((p.drop (4 * i)).getD 0 0) ((p.drop (4 * i)).getD 1 0) ((p.drop (4 * i)).getD 2 0) ((p.drop (4 * i)).getD 3 0)))
      rw [hset] at this
      simpa [sched, nextW, h16', List.getD_eq_getElem?_getD] using this
    · have h16' : ¬ i < 16 := by omega
      have hgetD : ∀ j, j < i → ((sched p i ++ List.replicate (64 - i) 0).map (Value.int .u32))[j]? = some (.int .u32 ((sched p i).getD j 0)) := by
        intro j hj
        rw [List.getElem?_map, List.getElem?_append_left (by omega), List.getElem?_eq_getElem (by omega), List.getD_eq_getElem?_getD, List.getElem?_eq_getElem (by omega)]; rfl
      have e15 : IntKind.i64.wrap ((i : Int) - 15) = ((i - 15 : Nat) : Int) := by rw [show (i : Int) - 15 = ((i - 15 : Nat) : Int) by omega]; exact i64_of _ (by omega)
      have e2 : IntKind.i64.wrap ((i : Int) - 2) = ((i - 2 : Nat) : Int) := by rw [show (i : Int) - 2 = ((i - 2 : Nat) : Int) by omega]; exact i64_of _ (by omega)
      have e16 : IntKind.i64.wrap ((i : Int) - 16) = ((i - 16 : Nat) : Int) := by rw [show (i : Int) - 16 = ((i - 16 : Nat) : Int) by omega]; exact i64_of _ (by omega)
      have e7 : IntKind.i64.wrap ((i : Int) - 7) = ((i - 7 : Nat) : Int) := by rw [show (i : Int) - 7 = ((i - 7 : Nat) : Int) by omega]; exact i64_of _ (by omega)
      refine DrawP.still tysOk extsOk mixed (by kernel_rfl) rfl ?_
      refine IdxP.ld0 (i - 15) e15 (Blk.drw hw) (by omega) (hgetD _ (by omega)) ?_
      refine IdxP.ld0 (i - 2) e2 (Blk.drw hw) (by omega) (hgetD _ (by omega)) ?_
      refine CallP.same (rotl32_spec _ _ _) ?_
      refine CallP.same (rotl32_spec _ _ _) ?_
      refine ChkP.go (by omega) ?_
      refine CallP.same (rotl32_spec _ _ _) ?_
      refine CallP.same (rotl32_spec _ _ _) ?_
      refine ChkP.go (by omega) ?_
      refine DrawP.tail tysOk extsOk mixed 15 (by kernel_rfl) rfl ?_
      refine IdxP.ld0 (i - 16) e16 (Blk.drw (Blk.drw hw)) (by omega) (hgetD _ (by omega)) ?_
      refine IdxP.ld0 (i - 7) e7 (Blk.drw (Blk.drw hw)) (by omega) (hgetD _ (by omega)) ?_
      refine IdxP.st0 i rfl (Blk.drw (Blk.drw hw)) hlt' rfl (by simp; omega) ?_
      refine ⟨rfl, i + 1, ⟨⟨congrArg (Value.int .i64) hnext, rfl, trivial⟩, by omega, (hbw.drew.drew).setCell (Nat.le_refl _) _, ?_⟩, by omega⟩
      have := (Blk.drw (Blk.drw hw)).setCell i (.int .u32 (nextW p (sched p i) i))
      rw [hset] at this
      simp only [sched]
      simp only [nextW, if_neg h16'] at this ⊢
      exact this
  · have hi64 : i = 64 := by omega
    subst hi64
    simp only [Nat.sub_self, List.replicate_zero, List.append_nil] at hw
    have hWl := sched_length p 64
    generalize hSW : sched p 64 = SW at hw hWl
    -- the words of the state
    have hbW : Blk W hb (hcells kind hs wait n) 135 := hB.below hbw hbl
    have hV0 : Blk (W.alloc (.cells inf149.zero.cells 149)) W.heap.size (((hs.take 0).map IntKind.u32.wrap ++ List.replicate (8 - 0) 0).map (Value.int .u32)) 149 := by
      have := Blk.newA W (inf149.zero.cells) 149; simpa [inf149, Value.cells] using this
    refine LoopP.go (S := Nat) 77361807722370527890769920 (by kernel_rfl) (fun i => [(73, .int .i64 i)])
      (fun i W' => i ≤ 8 ∧ Below W.heap.size W W' ∧ Blk W' W.heap.size (((hs.take i).map IntKind.u32.wrap ++ List.replicate (8 - i) 0).map (Value.int .u32)) 149) (fun i => 8 - i) 0 ⟨rfl, trivial⟩
      ⟨by omega, (Below.refl _ _).alloc (Nat.le_refl _) _, hV0⟩ ?_
    rintro i j W1 ⟨hi8, hbw1, hv⟩
    refine IfP.dec (fun hlt => ?_) (fun hge => ?_)
    · have hlt' : i < 8 := by omega
      refine NilP.go ?_
      refine IdxP.ldB (x := hs.getD i 0) i rfl (hbW.belowS hbw1) hlt' ?_ ?_
      · rw [show (0 + 1 + i) = i + 1 by omega]
        simp only [hcells, List.getElem?_cons_succ]
        rw [List.getElem?_append_left (by simp; omega)]
        exact getD_map_int _ _ _ (by omega)
      refine IdxP.st0 i rfl hv hlt' rfl (by simp; omega) ?_
      have hnext : IntKind.i64.wrap ((i : Int) + 1) = ((i + 1 : Nat) : Int) := by rw [show (i : Int) + 1 = ((i + 1 : Nat) : Int) by omega]; exact i64_of _ (by omega)
      refine ⟨rfl, i + 1, ⟨⟨congrArg (Value.int .i64) hnext, trivial⟩, by omega, hbw1.setCell (Nat.le_refl _) _, ?_⟩, by omega⟩
      have := hv.setCell i (.int .u32 (IntKind.u32.wrap (hs.getD i 0)))
      rw [ints_set, show 8 - i = (8 - (i + 1)) + 1 by omega, List.replicate_succ] at this
      have e := set_split ((hs.take i).map IntKind.u32.wrap) 0 (IntKind.u32.wrap (hs.getD i 0)) (List.replicate (8 - (i + 1)) 0)
      rw [show ((hs.take i).map IntKind.u32.wrap).length = i by simp; omega] at e
      rw [e] at this
      have e2 : (hs.take (i + 1)).map IntKind.u32.wrap ++ List.replicate (8 - (i + 1)) 0 = (hs.take i).map IntKind.u32.wrap ++ IntKind.u32.wrap (hs.getD i 0) :: List.replicate (8 - (i + 1)) 0 := by
        rw [List.take_succ_eq_append_getElem (by omega), List.map_append, List.getD_eq_getElem?_getD, List.getElem?_eq_getElem (show i < hs.length by omega)]; simp
      rw [e2]; exact this
    · have hi8' : i = 8 := by omega
      subst hi8'
      rw [List.take_of_length_le (by omega)] at hv
      simp only [Nat.sub_self, List.replicate_zero, List.append_nil] at hv
      have hw1 : Blk W1 w.heap.size (SW.map (Value.int .u32)) 148 := hw.belowS hbw1
      have hb1 : Blk W1 hb (hcells kind hs wait n) 135 := hbW.belowS hbw1
      have hk1 : Row W1 (some ⟨3, 0, none⟩) .u64 kt := (hk.below hbw).below hbw1
      have hbw01 : Below w.heap.size w W1 := hbw.trans (hbw1.mono hbw.size)
      have hvl : (hs.map IntKind.u32.wrap).length = 8 := by simp [hs8]
      generalize hV : hs.map IntKind.u32.wrap = V at hv hvl
      have hWs : w.heap.size < W.heap.size := hw.lt
      refine LdAgg.go (o := 0) hw1 (by simp [hWl]) ?_
      rw [List.drop_zero, List.take_of_length_le (by simp [hWl])]
      refine LoopP.go (S := Nat) 1496577676626844588240573113958968901455140562137088 (by kernel_rfl) (fun i => [(87, .int .i64 i)])
        (fun i W' => i ≤ 64 ∧ Below W.heap.size W1 W' ∧ Blk W' W.heap.size ((rnds kt SW V i).map (Value.int .u32)) 149) (fun i => 64 - i) 0 ⟨rfl, trivial⟩
        ⟨by omega, Below.refl _ _, hv⟩ ?_
      rintro i j W2 ⟨hi64, hbw2, hv2⟩
      have hrl := rnds_length kt SW V hvl i
      refine IfP.dec (fun hlt => ?_) (fun hge => ?_)
      · have hlt' : i < 64 := by omega
        have hk2 : Row W2 (some ⟨3, 0, none⟩) .u64 kt := hk1.belowLt hbw2 (by intro p hp; cases hp; exact Nat.lt_of_lt_of_le hk3 hbw.size)
        generalize hR : rnds kt SW V i = R at hv2 hrl
        have hg : ∀ j, j < 8 → (R.map (Value.int .u32))[j]? = some (.int .u32 (R.getD j 0)) := fun j hj => getD_map_int _ _ _ (by omega)
        refine ChkP.go ⟨by omega, by omega⟩ ?_
        refine PtI.at (n := SW.getD i 0) i (Nat.mul_one i) (getD_map_int _ _ _ (by omega)) ?_
        refine DrawP.still tysOk extsOk mixed (by kernel_rfl) rfl ?_
        refine IdxP.ld0 0 rfl (Blk.drw hv2) (by omega) (hg _ (by omega)) ?_
        refine IdxP.ld0 4 rfl (Blk.drw hv2) (by omega) (hg _ (by omega)) ?_
        refine CallP.same (rotl32_spec _ _ _) ?_
        refine CallP.same (rotl32_spec _ _ _) ?_
        refine CallP.same (rotl32_spec _ _ _) ?_
        refine DrawP.still tysOk extsOk mixed (by kernel_rfl) rfl ?_
        refine IdxP.ld0 7 rfl (Blk.drw (Blk.drw hv2)) (by omega) (hg _ (by omega)) ?_
        refine IdxP.ld0 5 rfl (Blk.drw (Blk.drw hv2)) (by omega) (hg _ (by omega)) ?_
        refine IdxP.ld0 6 rfl (Blk.drw (Blk.drw hv2)) (by omega) (hg _ (by omega)) ?_
        refine IdxP.ld i rfl hk2.drw.drw hkl.symm (by omega) (fun _ _ _ => ?_)
        refine ChkP.go (by omega) ?_
        refine CallP.same (rotl32_spec _ _ _) ?_
        refine CallP.same (rotl32_spec _ _ _) ?_
        refine CallP.same (rotl32_spec _ _ _) ?_
        refine IdxP.ld0 1 rfl (Blk.drw (Blk.drw hv2)) (by omega) (hg _ (by omega)) ?_
        refine IdxP.ld0 2 rfl (Blk.drw (Blk.drw hv2)) (by omega) (hg _ (by omega)) ?_
        refine IdxP.ld0 1 rfl (Blk.drw (Blk.drw hv2)) (by omega) (hg _ (by omega)) ?_
        refine IdxP.ld0 2 rfl (Blk.drw (Blk.drw hv2)) (by omega) (hg _ (by omega)) ?_
        refine IdxP.ld0 1 rfl (Blk.drw (Blk.drw hv2)) (by omega) (hg _ (by omega)) ?_
        refine IdxP.ld0 2 rfl (Blk.drw (Blk.drw hv2)) (by omega) (hg _ (by omega)) ?_
        refine IdxP.ld0 3 rfl (Blk.drw (Blk.drw hv2)) (by omega) (hg _ (by omega)) ?_
        refine IdxP.ld0 5 rfl (Blk.drw (Blk.drw hv2)) (by omega) (hg _ (by omega)) ?_
        refine IdxP.ld0 6 rfl (Blk.drw (Blk.drw hv2)) (by omega) (hg _ (by omega)) ?_
        refine ChkP.go rfl ?_
        refine StsP.blk (vs := (rnd R (kt.getD i 0) (SW.getD i 0)).map (Value.int .u32)) (Blk.drw (Blk.drw hv2)) (by intro v hv; rw [List.mem_map] at hv; obtain ⟨x, _, rfl⟩ := hv; rfl) (by simp [hrl, rnd_length]) ?_
        have hnext : IntKind.i64.wrap ((i : Int) + 1) = ((i + 1 : Nat) : Int) := by rw [show (i : Int) + 1 = ((i + 1 : Nat) : Int) by omega]; exact i64_of _ (by omega)
        refine ⟨rfl, i + 1, ⟨⟨congrArg (Value.int .i64) hnext, trivial⟩, by omega, below_setCells (B := W.heap.size) _ (Nat.le_refl _) _ _ _ hbw2.drew.drew, ?_⟩, by omega⟩
        have := (Blk.drw (Blk.drw hv2)).setAll (vs := (rnd R (kt.getD i 0) (SW.getD i 0)).map (Value.int .u32)) (by simp [hrl, rnd_length])
        have e2 : rnds kt SW V (i + 1) = rnd R (kt.getD i 0) (SW.getD i 0) := by rw [rnds, hR]
        rw [e2]; exact this
      · have hi64' : i = 64 := by omega
        subst hi64'
        generalize hR : rnds kt SW V 64 = R at hv2 hrl
        have hb2 : Blk W2 hb (hcells kind hs wait n) 135 := hb1.below hbw2 (by omega)
        have hbw02 : Below w.heap.size w W2 := hbw01.trans (hbw2.mono (by omega))
        have hb2' : Blk W2 hb (hcells kind (sumTo hs R 0) wait n) 135 := hb2
        refine LdAgg.go (o := 0) hv2 (by simp [hrl]) ?_
        rw [List.drop_zero, List.take_of_length_le (by simp [hrl])]
        refine LoopP.go (S := Nat) 3138547874537987128228718230457295805103553466882170814464 (by kernel_rfl) (fun i => [(171, .int .i64 i)])
          (fun i W' => i ≤ 8 ∧ Chg w.heap.size (fun k => k = hb) w W' ∧ Blk W' hb (hcells kind (sumTo hs R i) wait n) 135) (fun i => 8 - i) 0 ⟨rfl, trivial⟩
          ⟨by omega, .of_below hbw02, hb2'⟩ ?_
        rintro i j W3 ⟨hi8, hbw3, hb3⟩
        have hsl := sumTo_length hs R i
        refine IfP.dec (fun hlt => ?_) (fun hge => ?_)
        · have hlt' : i < 8 := by omega
          refine ChkP.go ⟨by omega, by omega⟩ ?_
          refine PtI.at (n := R.getD i 0) i (Nat.mul_one i) (getD_map_int _ _ _ (by omega)) ?_
          refine DrawP.tail tysOk extsOk mixed 15 (by kernel_rfl) rfl ?_
          refine NilP.go ?_
          refine IdxP.ldB (x := (sumTo hs R i).getD i 0) i rfl (Blk.drw hb3) hlt' ?_ ?_
          · rw [show (0 + 1 + i) = i + 1 by omega]
            simp only [hcells, List.getElem?_cons_succ]
            rw [List.getElem?_append_left (by simp; omega)]
            exact getD_map_int _ _ _ (by omega)
          refine NilP.go ?_
          refine IdxP.stB i rfl (Blk.drw hb3) hlt' rfl (by simp [hcells]; omega) ?_
          have hnext : IntKind.i64.wrap ((i : Int) + 1) = ((i + 1 : Nat) : Int) := by rw [show (i : Int) + 1 = ((i + 1 : Nat) : Int) by omega]; exact i64_of _ (by omega)
          refine ⟨rfl, i + 1, ⟨⟨congrArg (Value.int .i64) hnext, trivial⟩, by omega, hbw3.drw.setCell _ _ (fun _ => rfl), ?_⟩, by omega⟩
          have := (Blk.drw hb3).setCell (0 + 1 + i) (.int .u64 (addH ((sumTo hs R i).getD i 0) (R.getD i 0)))
          rw [show (0 + 1 + i) = i + 1 by omega] at this ⊢
          simp only [hcells, List.set_cons_succ] at this
          rw [List.set_append_left _ _ (by simp; omega), ints_set] at this
          exact this
        · have hi8' : i = 8 := by omega
          subst hi8'
          refine ⟨rfl, rfl, ?_, hbw3⟩
          rw [compress, hSW, hV, hR]
          exact hb3
end Go.Proofs.YthneejblcffdgaaGreatDoor

namespace Go.Proofs.YthneejblcffdgaaGreatDoor
open Go Go.Ev Go.RowKit
set_option maxRecDepth 20000
set_option linter.unusedVariables false

/-! ### the state of a hash -/
theorem size_spec (w : World) : Calls Tryz.prog 93 #[.int .i64 3] w fun e w' => e = .returned (.int .i64 32) ∧ w' = w := by
  refine calls_of_ev tysOk extsOk Tryz.func93 rfl rfl rfl ?_
  refine IfP.neg rfl ?_
  refine IfP.neg rfl ?_
  refine IfP.pos rfl ?_
  exact ⟨rfl, rfl, rfl⟩
theorem block_spec (w : World) : Calls Tryz.prog 96 #[.int .i64 3] w fun e w' => e = .returned (.int .i64 64) ∧ w' = w := by
  refine calls_of_ev tysOk extsOk Tryz.func96 rfl rfl rfl ?_
  refine IfP.neg rfl ?_
  refine IfP.neg rfl ?_
  refine IfP.pos rfl ?_
  exact ⟨rfl, rfl, rfl⟩

def one0 : List Int := [7640891576956012808, 13503953896175478587, 4354685564936845355, 11912009170470909681, 5840696475078001361, 11170449401992604703, 2270897969802886507, 6620516959819538809]
def shr32 (x : Int) : Int := x.fdiv (2 ^ (min (32 : Int).toNat 64))
def startTo (i : Nat) : List Int := (one0.take i).map shr32 ++ one0.drop i
theorem startTo_length (i : Nat) : (startTo i).length = 8 := by simp [startTo, one0]; omega
def start : List Int := one0.map shr32
theorem startTo_succ {i : Nat} (h : i < 8) : (startTo i).set i (shr32 ((startTo i).getD i 0)) = startTo (i + 1) := by
  have h8 : one0.length = 8 := rfl
  have hl : ((one0.take i).map shr32).length = i := by simp; omega
  have hd : one0.drop i = one0.getD i 0 :: one0.drop (i + 1) := by
    rw [List.drop_eq_getElem_cons (by omega), List.getD_eq_getElem?_getD, List.getElem?_eq_getElem (by omega)]; rfl
  have hg : (startTo i).getD i 0 = one0.getD i 0 := by
    unfold startTo
    rw [List.getD_eq_getElem?_getD, List.getElem?_append_right (by omega), hl, Nat.sub_self, hd]; rfl
  rw [hg]
  unfold startTo
  rw [hd]
  have := set_split ((one0.take i).map shr32) (one0.getD i 0) (shr32 (one0.getD i 0)) (one0.drop (i + 1))
  rw [hl] at this
  rw [this, List.take_succ_eq_append_getElem (by omega), List.map_append, List.getD_eq_getElem?_getD, List.getElem?_eq_getElem (show i < one0.length by omega)]
  simp

theorem le_after (w : World) (o : Obj) (p : Addr) (vs : List Value) (i : Nat) : w.heap.size < (setCells (w.alloc o) p vs i).heap.size := by rw [size_setCells, size_alloc]; omega
theorem two_new (w1 : World) (z : Array Value) (T : TypeId) (v1 v2 : List Value) (h : v1.length = z.toList.length) :
    Below w1.heap.size w1 (setCells ((setCells (w1.alloc (.cells z T)) ⟨w1.heap.size, 0, none⟩ v1 0).alloc (.cells z T)) ⟨(setCells (w1.alloc (.cells z T)) ⟨w1.heap.size, 0, none⟩ v1 0).heap.size, 0, none⟩ v2 0) ∧
    Blk (setCells ((setCells (w1.alloc (.cells z T)) ⟨w1.heap.size, 0, none⟩ v1 0).alloc (.cells z T)) ⟨(setCells (w1.alloc (.cells z T)) ⟨w1.heap.size, 0, none⟩ v1 0).heap.size, 0, none⟩ v2 0) w1.heap.size v1 T := by
  have hlt := le_after w1 (.cells z T) ⟨w1.heap.size, 0, none⟩ v1 0
  have hb : Blk (setCells (w1.alloc (.cells z T)) ⟨w1.heap.size, 0, none⟩ v1 0) w1.heap.size v1 T := Blk.setAll (Blk.newA _ _ _) h
  have hB : Below w1.heap.size w1 (setCells (w1.alloc (.cells z T)) ⟨w1.heap.size, 0, none⟩ v1 0) := below_setCells ⟨w1.heap.size, 0, none⟩ (Nat.le_refl w1.heap.size) _ _ _ ((Below.refl _ _).alloc (Nat.le_refl _) _)
  generalize setCells (w1.alloc (.cells z T)) ⟨w1.heap.size, 0, none⟩ v1 0 = w2 at *
  exact ⟨below_setCells _ (Nat.le_of_lt hlt) _ _ _ (hB.alloc (Nat.le_of_lt hlt) _), Blk.setCells_ne (hb.alloc _) _ _ _ (Nat.ne_of_gt hlt)⟩
theorem start_spec (w : World) : Calls Tryz.prog 102 #[.int .i64 3] w fun e w' => e = .returned (.agg (start.map (Value.int .u64)).toArray) ∧ Below w.heap.size w w' := by
  refine calls_of_ev tysOk extsOk Tryz.func102 rfl rfl rfl ?_
  refine ChkP.go rfl ?_
  refine StsP.blk (Blk.newA _ _ _) (by decide) (by decide) ?_
  refine ChkP.go rfl ?_
  refine StsP.blk (Blk.newA _ _ _) (by decide) (by decide) ?_
  refine IfP.neg rfl ?_
  refine IfP.neg rfl ?_
  refine IfP.pos rfl ?_
  have hw1 : w.heap.size < (w.alloc (.cells inf132.zero.cells 132)).heap.size := by rw [size_alloc]; omega
  generalize hW1 : w.alloc (.cells inf132.zero.cells 132) = w1 at *
  have b1 : Below w.heap.size w w1 := by rw [← hW1]; exact (Below.refl _ _).alloc (Nat.le_refl _) _
  have r1 : Blk w1 w.heap.size (inf132.zero.cells.toList) 132 := by rw [← hW1]; exact Blk.newA _ _ _
  refine LoopP.go (S := Nat) 68585259072 (by kernel_rfl) (fun i => [(27, .int .i64 i), (3, .pointer (some ⟨w1.heap.size, 0, none⟩)), (2, .pointer (some ⟨w.heap.size, 0, none⟩))])
    (fun i W => i ≤ 8 ∧ Below w1.heap.size w1 W ∧ Blk W w1.heap.size ((startTo i).map (Value.int .u64)) 132) (fun i => 8 - i) 0 ⟨rfl, rfl, rfl, trivial⟩
    ⟨by omega, (two_new _ _ _ _ _ (by decide)).1, (two_new w1 inf132.zero.cells 132 _ _ (by decide)).2⟩ ?_
  rintro i j W ⟨hi, hbw, hv⟩
  refine IfP.dec (fun hlt => ?_) (fun hge => ?_)
  · have hlt' : i < 8 := by omega
    have hl := startTo_length i
    have hc : ((startTo i).map (Value.int .u64))[i]? = some (.int .u64 ((startTo i).getD i 0)) := getD_map_int _ _ _ (by omega)
    refine IdxP.ld0 i rfl hv hlt' hc ?_
    refine ChkP.go (by omega) ?_
    refine IdxP.st0 i rfl hv hlt' rfl (by simp; omega) ?_
    have hnext : IntKind.i64.wrap ((i : Int) + 1) = ((i + 1 : Nat) : Int) := by rw [show (i : Int) + 1 = ((i + 1 : Nat) : Int) by omega]; exact i64_of _ (by omega)
    refine ⟨rfl, i + 1, ⟨⟨congrArg (Value.int .i64) hnext, rfl, rfl, trivial⟩, by omega, hbw.setCell (Nat.le_refl _) _, ?_⟩, by omega⟩
    have := hv.setCell i (.int .u64 (shr32 ((startTo i).getD i 0)))
    rw [ints_set, startTo_succ hlt'] at this
    exact this
  · have hi8 : i = 8 := by omega
    subst hi8
    refine LdAgg.go (o := 0) hv (by simp [startTo_length]) ?_
    rw [List.drop_zero, List.take_of_length_le (by simp [startTo_length])]
    refine ChkP.go (by simp [startTo_length]) ?_
    have r2 : Blk W w.heap.size (inf132.zero.cells.toList) 132 := r1.below hbw hw1
    refine StsP.blk r2 (by simp; intro a _; rfl) (by simp [startTo_length]; decide) ?_
    have r3 := r2.setAll (vs := (startTo 8).map (Value.int .u64)) (by simp [startTo_length]; rfl)
    refine ⟨rfl, LdAgg.go (o := 0) (n := 8) r3 (by simp [startTo_length]) ?_⟩
    rw [List.drop_zero, List.take_of_length_le (by simp [startTo_length])]
    refine ⟨?_, ?_⟩
    · rfl
    · exact below_setCells ⟨w.heap.size, 0, none⟩ (Nat.le_refl w.heap.size) _ _ _ (b1.trans (hbw.mono b1.size))
end Go.Proofs.YthneejblcffdgaaGreatDoor

namespace Go.Proofs.YthneejblcffdgaaGreatDoor
open Go Go.Ev Go.RowKit
set_option maxRecDepth 20000
set_option linter.unusedVariables false

/-- the head of a hash is at hb, and nothing else is said. -/
theorem new_spec (w : World) : Calls Tryz.prog 98 #[.int .i64 3] w fun e w' => ∃ hb, e = .returned (.pointer (some ⟨hb, 0, none⟩)) ∧ w.heap.size ≤ hb ∧ Blk w' hb (hcells 3 start (.slice none 0 0) 0) 135 ∧ Below w.heap.size w w' := by
  refine calls_of_ev tysOk extsOk Tryz.func98 rfl rfl rfl ?_
  refine CallP.same (size_spec _) ?_
  refine IfP.neg rfl ?_
  refine CallP.intro (start_spec _) ?_
  rintro e w1 ⟨rfl, hw1⟩
  refine ⟨_, rfl, ?_⟩
  refine ⟨rfl, w1.heap.size, rfl, hw1.size, ?_, hw1.alloc hw1.size _⟩
  exact Blk.newA _ _ _
theorem take_spec (hb : Nat) (a : Option Addr) (l c : Nat) (n : Int) (wait : Value) (hs p kt : List Int) (w : World)
    (hB : Blk w hb (hcells 3 hs wait n) 135) (hs8 : hs.length = 8) (hr : Row w a .u8 p) (hl : l = p.length) (h64 : 64 ≤ l) (hc : l ≤ c)
    (hoff : ∀ q, a = some q → q.block ≠ hb) (hk : Row w (some ⟨3, 0, none⟩) .u64 kt) (hkl : kt.length = 80) (hk0 : 3 ≠ hb) :
    Calls Tryz.prog 104 #[.pointer (some ⟨hb, 0, none⟩), .slice a l c] w fun e w' => e = .returned (.tuple #[]) ∧ Blk w' hb (hcells 3 (compress kt hs p) wait n) 135 ∧ Chg w.heap.size (fun k => k = hb) w w' := by
  refine calls_of_ev tysOk extsOk Tryz.func104 rfl rfl rfl ?_
  refine NilP.go ?_
  refine LdI.go (n := 3) (hB.cell 0) ?_
  refine IfP.neg rfl ?_
  refine IfP.neg rfl ?_
  refine IfP.pos rfl ?_
  refine CallP.intro (sha256_spec hb a l c 3 n wait hs p kt w hB hs8 hr hl h64 hc hoff hk hkl hk0) ?_
  rintro e w1 ⟨rfl, h1, h2⟩
  exact ⟨_, rfl, rfl, rfl, h1, h2⟩

theorem clone_spec (a : Option Addr) (l c : Nat) (xs : List Int) (w : World) (hr : Row w a .u8 xs) (hl : l = xs.length) (h0 : 0 < l) (hs : l ≤ 1000000000) :
    Calls Tryz.prog 105 #[.slice a l c] w fun e w' => ∃ b c', e = .returned (.slice (some ⟨b, 0, none⟩) l c') ∧ w.heap.size ≤ b ∧ Buf .u8 5 w' b xs c' ∧ Below w.heap.size w w' := by
  refine calls_of_ev tysOk extsOk Tryz.func105 rfl rfl rfl ?_
  obtain ⟨b, o, rfl, _⟩ := hr 0 (by omega)
  refine IfP.neg rfl ?_
  have hr' := hr.alloc (.cells (#[] : Array Value) 5)
  refine RdP.row' hr' (by rw [hl]; exact Nat.mul_one _) ?_
  have hb1 : Below w.heap.size w (w.alloc (.cells (#[] : Array Value) 5)) := (Below.refl _ _).alloc (Nat.le_refl _) _
  refine App.grow (xs := []) (Row.nil _ _ _) rfl hl (by omega) (by omega) (by decide) fun c' w' h1 h2 h3 h4 => ?_
  rw [Nat.zero_add, List.nil_append] at *
  exact ⟨rfl, _, c', rfl, hb1.size, h1, hb1.trans (h3.mono hb1.size)⟩

theorem chunks_spec (a : Option Addr) (l c : Nat) (w : World) : Calls Tryz.prog 103 #[.slice a l c, .int .i64 64] w fun e w' => ∃ nb bb, e = .returned (.func (.func 109) #[] #[.pointer (some ⟨nb, 0, none⟩), .pointer (some ⟨bb, 0, none⟩)]) ∧ w.heap.size ≤ bb ∧ bb < nb ∧ Blk w' nb [.int .i64 64] 3 ∧ Blk w' bb [.slice a l c] 62 ∧ Below w.heap.size w w' := by
  refine calls_of_ev tysOk extsOk Tryz.func103 rfl rfl rfl ?_
  have hb := (Below.refl w.heap.size w).alloc (Nat.le_refl _) (.cells (#[.slice a l c] : Array Value) 62)
  refine ⟨rfl, _, w.heap.size, rfl, Nat.le_refl _, by rw [size_alloc]; exact Nat.lt_succ_self _, ?_, Blk.alloc ?_ _, ?_⟩
  · exact Blk.newA _ _ _
  · exact Blk.newA _ _ _
  · exact hb.alloc hb.size _

theorem chunks1_spec {nb bb lp : Nat} {all : List Int} {a0 : Option Addr} {l0 c0 : Nat} {I : Nat → World → Prop} {J : World → Prop} {S : Nat → Prop} {w : World}
    (hI : ∀ i W W', I i W → Chg W.heap.size (fun k => k = bb) W W' → I i W') (hnb : Blk w nb [.int .i64 64] 3) (hbb : Blk w bb [.slice a0 l0 c0] 62)
    (hr : Row w a0 .u8 all) (hl : l0 = all.length) (hc : l0 ≤ c0) (hs : l0 ≤ 1000000000) (hS1 : ¬ S nb) (hS2 : ¬ S bb) (hS3 : ∀ p, a0 = some p → ¬ S p.block ∧ p.block ≠ bb) (hne : nb ≠ bb) (h0 : I 0 w)
    (hy : ∀ i W p cp, 64 * i < l0 → I i W → w.heap.size ≤ p → Buf .u8 5 W p ((all.drop (64 * i)).take 64) cp →
      YieldP Tryz.prog none lp #[.int .i64 i, .slice (some ⟨p, 0, none⟩) (min 64 (l0 - 64 * i)) cp] (fun v W' => (v = .bool true ∧ I (i + 1) W' ∧ Chg W.heap.size S W W') ∨ (v = .bool false ∧ J W')) W) :
    Calls Tryz.prog 109 #[.func (.yield lp) #[] #[], .pointer (some ⟨nb, 0, none⟩), .pointer (some ⟨bb, 0, none⟩)] w fun e w' => e = .returned (.tuple #[]) ∧ (J w' ∨ ∃ i, l0 ≤ 64 * i ∧ I i w') := by
  refine calls_of_ev tysOk extsOk Tryz.func109 rfl rfl rfl ?_
  refine LdI.go (hnb.cell 0) ?_
  refine IfP.neg rfl ?_
  refine LoopP.go (S := Nat) 268435248 (by kernel_rfl) (fun i => [(4, .int .i64 i)])
    (fun i W => (∃ a c, Blk W bb [.slice a (l0 - 64 * i) c] 62 ∧ Row W a .u8 (all.drop (64 * i)) ∧ l0 - 64 * i ≤ c ∧ (∀ p, a = some p → ∃ q, a0 = some q ∧ q.block = p.block)) ∧ I i W ∧ Blk W nb [.int .i64 64] 3 ∧ w.heap.size ≤ W.heap.size) (fun i => l0 - 64 * i) 0 ⟨rfl, trivial⟩
    ⟨⟨a0, c0, by simpa using hbb, by simpa using hr, by omega, fun p hp => ⟨p, hp, rfl⟩⟩, h0, hnb, Nat.le_refl _⟩ ?_
  rintro i j W ⟨⟨a, c, h1, h2, h3, h4⟩, h5, h6, h7⟩
  refine LdSl.go (h1.cell 0) ?_
  refine IfP.dec (fun hlt => ?_) (fun hge => ?_)
  · have hlt' : 64 * i < l0 := by omega
    have hdl : (all.drop (64 * i)).length = l0 - 64 * i := by simp [hl]
    refine LdI.go (h6.cell 0) ?_
    refine LdSl.go (h1.cell 0) ?_
    refine LdSl.go (h1.cell 0) ?_
    have hmin : (if ((l0 - 64 * i : Nat) : Int) < 64 then ((l0 - 64 * i : Nat) : Int) else 64) = ((min 64 (l0 - 64 * i) : Nat) : Int) := by split <;> omega
    refine SlcP.row 0 (min 64 (l0 - 64 * i)) rfl hmin h2 hdl.symm h3 (by omega) (by omega) fun a' ha' ho' => ?_
    rw [List.drop_zero, Nat.sub_zero, Nat.sub_zero] at *
    have htk : (all.drop (64 * i)).take (min 64 (l0 - 64 * i)) = (all.drop (64 * i)).take 64 := by rw [← hdl]; exact List.take_eq_take_min.symm
    rw [htk] at ha'
    refine CallP.intro (clone_spec a' _ c _ W ha' (by simp [hl]) (by omega) (by omega)) ?_
    rintro e W1 ⟨p, cp, rfl, g1, g2, g3⟩
    refine ⟨_, rfl, ?_⟩
    have hI1 := hI i W W1 h5 (Chg.of_below g3)
    have hbW : bb < W.heap.size := h1.lt
    have hnW : nb < W.heap.size := h6.lt
    refine (hy i W1 p cp hlt' hI1 (Nat.le_trans h7 g1) g2).mono ?_
    rintro v W2 (⟨rfl, k1, k2⟩ | ⟨rfl, k1⟩)
    · refine IfP.no ?_
      have f1 := (h1.belowS g3).chg k2 (Nat.lt_of_lt_of_le hbW g3.size) hS2
      have f6 := (h6.belowS g3).chg k2 (Nat.lt_of_lt_of_le hnW g3.size) hS1
      have f2 := (h2.below g3).chg k2 (fun q hq => by obtain ⟨q', e1, e2⟩ := h4 q hq; rw [← e2]; exact (hS3 q' e1).1)
      refine LdSl.go (f1.cell 0) ?_
      rw [hmin]
      refine SlcP.row (min 64 (l0 - 64 * i)) (l0 - 64 * i) rfl rfl f2 hdl.symm h3 (by omega) (Nat.le_refl _) fun a2 ha2 ho2 => ?_
      refine StP.blk f1 rfl Nat.one_pos ?_
      have hnext : IntKind.i64.wrap ((i : Int) + 1) = ((i + 1 : Nat) : Int) := by rw [show (i : Int) + 1 = ((i + 1 : Nat) : Int) by omega]; exact i64_of _ (by omega)
      refine ⟨rfl, i + 1, ⟨⟨congrArg (Value.int .i64) hnext, trivial⟩, ⟨a2, c - min 64 (l0 - 64 * i), ?_, ?_, by omega, ?_⟩, ?_, ?_, ?_⟩, by omega⟩
      · have := f1.setCell 0 (.slice a2 (l0 - 64 * i - min 64 (l0 - 64 * i)) (c - min 64 (l0 - 64 * i)))
        rw [show l0 - 64 * (i + 1) = l0 - 64 * i - min 64 (l0 - 64 * i) by omega]
        exact this
      · rw [List.take_of_length_le (by rw [hdl]; exact Nat.le_refl _), List.drop_drop] at ha2
        have hdd : all.drop (64 * i + min 64 (l0 - 64 * i)) = all.drop (64 * (i + 1)) := by
          rcases Nat.lt_or_ge (l0 - 64 * i) 64 with hx | hx
          · rw [List.drop_of_length_le (by omega), List.drop_of_length_le (by omega)]
          · congr 1; omega
        rw [hdd] at ha2
        refine ha2.setCell _ _ ?_
        intro q hq
        obtain ⟨q', e1, e2⟩ := ho2 q hq
        obtain ⟨q2, e3, e4⟩ := h4 q' e1
        rw [← e2, ← e4]; exact (hS3 q2 e3).2
      · intro q hq
        obtain ⟨q', e1, e2⟩ := ho2 q hq
        obtain ⟨q2, e3, e4⟩ := h4 q' e1
        exact ⟨q2, e3, e4.trans e2⟩
      · exact hI _ _ _ k1 ((Chg.refl _ _ _).setCell _ _ (fun _ => rfl))
      · exact f6.setCell_ne _ _ (fun h => hne h.symm)
      · rw [size_setCell]; exact Nat.le_trans h7 (Nat.le_trans g3.size k2.size)
    · refine IfP.yes ?_
      exact ⟨rfl, rfl, .inl k1⟩
  · exact ⟨rfl, rfl, .inr ⟨i, by omega, h5⟩⟩
end Go.Proofs.YthneejblcffdgaaGreatDoor
