import Derived.Test.YthghiokcinpnlaaDoorSha2
namespace Go.Proofs.YthghiokcinpnlaaDoor
open Go Go.Ev Go.RowKit
set_option maxRecDepth 20000
set_option linter.unusedVariables false

/-! ### the state of a hash -/
theorem size_spec (w : World) : Calls Tryd.prog 46 #[.int .i64 3] w fun e w' => e = .returned (.int .i64 32) ∧ w' = w := by
  refine calls_of_ev tysOk extsOk Tryd.func46 rfl rfl rfl ?_
  refine IfP.neg rfl ?_
  refine IfP.neg rfl ?_
  refine IfP.pos rfl ?_
  exact ⟨rfl, rfl, rfl⟩
theorem block_spec (w : World) : Calls Tryd.prog 55 #[.int .i64 3] w fun e w' => e = .returned (.int .i64 64) ∧ w' = w := by
  refine calls_of_ev tysOk extsOk Tryd.func55 rfl rfl rfl ?_
  refine IfP.neg rfl ?_
  refine IfP.neg rfl ?_
  refine IfP.pos rfl ?_
  exact ⟨rfl, rfl, rfl⟩

def one0 : List Int := [7640891576956012808, 13503953896175478587, 4354685564936845355, 11912009170470909681, 5840696475078001361, 11170449401992604703, 2270897969802886507, 6620516959819538809]
def shr32 (x : Int) : Int := x.fdiv (2 ^ (min (32 : Int).toNat 64))
def startTo (i : Nat) : List Int := (one0.take i).map shr32 ++ one0.drop i
theorem startTo_length (i : Nat) : (startTo i).length = 8 := by simp [startTo, one0]; omega
def start : List Int := one0.map shr32
theorem startTo_succ {i : Nat} (h : i < 8) : (startTo i).set i (shr32 ((startTo i).getD i 0)) = startTo (i + 1) := by
  have h8 : one0.length = 8 := rfl
  have hl : ((one0.take i).map shr32).length = i := by simp; omega
  have hd : one0.drop i = one0.getD i 0 :: one0.drop (i + 1) := by
    rw [List.drop_eq_getElem_cons (by omega), List.getD_eq_getElem?_getD, List.getElem?_eq_getElem (by omega)]; rfl
  have hg : (startTo i).getD i 0 = one0.getD i 0 := by
    unfold startTo
    rw [List.getD_eq_getElem?_getD, List.getElem?_append_right (by omega), hl, Nat.sub_self, hd]; rfl
  rw [hg]
  unfold startTo
  rw [hd]
  have := set_split ((one0.take i).map shr32) (one0.getD i 0) (shr32 (one0.getD i 0)) (one0.drop (i + 1))
  rw [hl] at this
  rw [this, List.take_succ_eq_append_getElem (by omega), List.map_append, List.getD_eq_getElem?_getD, List.getElem?_eq_getElem (show i < one0.length by omega)]
  simp

theorem le_after (w : World) (o : Obj) (p : Addr) (vs : List Value) (i : Nat) : w.heap.size < (setCells (w.alloc o) p vs i).heap.size := by rw [size_setCells, size_alloc]; omega
theorem two_new (w1 : World) (z : Array Value) (T : TypeId) (v1 v2 : List Value) (h : v1.length = z.toList.length) :
    Below w1.heap.size w1 (setCells ((setCells (w1.alloc (.cells z T)) ⟨w1.heap.size, 0, none⟩ v1 0).alloc (.cells z T)) ⟨(setCells (w1.alloc (.cells z T)) ⟨w1.heap.size, 0, none⟩ v1 0).heap.size, 0, none⟩ v2 0) ∧
    Blk (setCells ((setCells (w1.alloc (.cells z T)) ⟨w1.heap.size, 0, none⟩ v1 0).alloc (.cells z T)) ⟨(setCells (w1.alloc (.cells z T)) ⟨w1.heap.size, 0, none⟩ v1 0).heap.size, 0, none⟩ v2 0) w1.heap.size v1 T := by
  have hlt := le_after w1 (.cells z T) ⟨w1.heap.size, 0, none⟩ v1 0
  have hb : Blk (setCells (w1.alloc (.cells z T)) ⟨w1.heap.size, 0, none⟩ v1 0) w1.heap.size v1 T := Blk.setAll (Blk.newA _ _ _) h
  have hB : Below w1.heap.size w1 (setCells (w1.alloc (.cells z T)) ⟨w1.heap.size, 0, none⟩ v1 0) := below_setCells ⟨w1.heap.size, 0, none⟩ (Nat.le_refl w1.heap.size) _ _ _ ((Below.refl _ _).alloc (Nat.le_refl _) _)
  generalize setCells (w1.alloc (.cells z T)) ⟨w1.heap.size, 0, none⟩ v1 0 = w2 at *
  exact ⟨below_setCells _ (Nat.le_of_lt hlt) _ _ _ (hB.alloc (Nat.le_of_lt hlt) _), Blk.setCells_ne (hb.alloc _) _ _ _ (Nat.ne_of_gt hlt)⟩
theorem start_spec (w : World) : Calls Tryd.prog 69 #[.int .i64 3] w fun e w' => e = .returned (.agg (start.map (Value.int .u64)).toArray) ∧ Below w.heap.size w w' := by
  refine calls_of_ev tysOk extsOk Tryd.func69 rfl rfl rfl ?_
  refine ChkP.go rfl ?_
  refine StsP.blk (Blk.newA _ _ _) (by decide) (by decide) ?_
  refine ChkP.go rfl ?_
  refine StsP.blk (Blk.newA _ _ _) (by decide) (by decide) ?_
  refine IfP.neg rfl ?_
  refine IfP.neg rfl ?_
  refine IfP.pos rfl ?_
  have hw1 : w.heap.size < (w.alloc (.cells inf98.zero.cells 98)).heap.size := by rw [size_alloc]; omega
  generalize hW1 : w.alloc (.cells inf98.zero.cells 98) = w1 at *
  have b1 : Below w.heap.size w w1 := by rw [← hW1]; exact (Below.refl _ _).alloc (Nat.le_refl _) _
  have r1 : Blk w1 w.heap.size (inf98.zero.cells.toList) 98 := by rw [← hW1]; exact Blk.newA _ _ _
  refine LoopP.go (S := Nat) 68585259072 (by kernel_rfl) (fun i => [(27, .int .i64 i), (3, .pointer (some ⟨w1.heap.size, 0, none⟩)), (2, .pointer (some ⟨w.heap.size, 0, none⟩))])
    (fun i W => i ≤ 8 ∧ Below w1.heap.size w1 W ∧ Blk W w1.heap.size ((startTo i).map (Value.int .u64)) 98) (fun i => 8 - i) 0 ⟨rfl, rfl, rfl, trivial⟩
    ⟨by omega, (two_new _ _ _ _ _ (by decide)).1, (two_new w1 inf98.zero.cells 98 _ _ (by decide)).2⟩ ?_
  rintro i j W ⟨hi, hbw, hv⟩
  refine IfP.dec (fun hlt => ?_) (fun hge => ?_)
  · have hlt' : i < 8 := by omega
    have hl := startTo_length i
    have hc : ((startTo i).map (Value.int .u64))[i]? = some (.int .u64 ((startTo i).getD i 0)) := getD_map_int _ _ _ (by omega)
    refine IdxP.ld0 i rfl hv hlt' hc ?_
    refine ChkP.go (by omega) ?_
    refine IdxP.st0 i rfl hv hlt' rfl (by simp; omega) ?_
    have hnext : IntKind.i64.wrap ((i : Int) + 1) = ((i + 1 : Nat) : Int) := by rw [show (i : Int) + 1 = ((i + 1 : Nat) : Int) by omega]; exact i64_of _ (by omega)
    refine ⟨rfl, i + 1, ⟨⟨congrArg (Value.int .i64) hnext, rfl, rfl, trivial⟩, by omega, hbw.setCell (Nat.le_refl _) _, ?_⟩, by omega⟩
    have := hv.setCell i (.int .u64 (shr32 ((startTo i).getD i 0)))
    rw [ints_set, startTo_succ hlt'] at this
    exact this
  · have hi8 : i = 8 := by omega
    subst hi8
    refine LdAgg.go (o := 0) hv (by simp [startTo_length]) ?_
    rw [List.drop_zero, List.take_of_length_le (by simp [startTo_length])]
    refine ChkP.go (by simp [startTo_length]) ?_
    have r2 : Blk W w.heap.size (inf98.zero.cells.toList) 98 := r1.below hbw hw1
    refine StsP.blk r2 (by simp; intro a _; rfl) (by simp [startTo_length]; decide) ?_
    have r3 := r2.setAll (vs := (startTo 8).map (Value.int .u64)) (by simp [startTo_length]; rfl)
    refine ⟨rfl, LdAgg.go (o := 0) (n := 8) r3 (by simp [startTo_length]) ?_⟩
    rw [List.drop_zero, List.take_of_length_le (by simp [startTo_length])]
    refine ⟨?_, ?_⟩
    · rfl
    · exact below_setCells ⟨w.heap.size, 0, none⟩ (Nat.le_refl w.heap.size) _ _ _ (b1.trans (hbw.mono b1.size))
end Go.Proofs.YthghiokcinpnlaaDoor
