import Derived.Test.YthghiokcinpnlaaDoorDr2
import Derived.Lib.MakeNoZero
namespace Go.Proofs.YthghiokcinpnlaaDoor
open Go Go.Ev Go.RowKit
set_option maxRecDepth 20000
set_option linter.unusedVariables false

theorem mul64_1_32 (w : World) : Calls Tryd.prog 43 #[.int .u64 1, .int .u64 32] w fun e w' => e = .returned (.tuple #[.int .u64 0, .int .u64 32]) ∧ w' = w := by
  refine calls_of_ev tysOk extsOk Tryd.func43 rfl rfl rfl ?_
  refine ChkP.go (by decide) ?_
  refine ChkP.go (by decide) ?_
  refine ChkP.go (by decide) ?_
  refine ChkP.go (by decide) ?_
  refine ChkP.go (by decide) ?_
  exact ⟨rfl, by rfl, rfl⟩
theorem mul_1_32 (w : World) : Calls Tryd.prog 25 #[.int .u64 1, .int .u64 32] w fun e w' => e = .returned (.tuple #[.int .u64 0, .int .u64 32]) ∧ w' = w := by
  refine calls_of_ev tysOk extsOk Tryd.func25 rfl rfl rfl ?_
  refine IfP.no ?_
  refine CallP.same (mul64_1_32 _) ?_
  exact ⟨rfl, rfl, rfl⟩
theorem mnz32 (w : World) : ∃ cs : Array Value, 32 ≤ cs.size ∧ (callFunc 26 #[.int .i64 32]).run Tryd.prog w = .ok (.value (.slice (some ⟨w.heap.size, 0, none⟩) 32 cs.size)) (w.drew.drew.alloc (.cells cs 5)) := by
  obtain ⟨cs, hrun, hle, _⟩ := Lib.run_makeNoZero (P := Tryd.prog) w #[3] 22 5 (by kernel_rfl) 32 (by omega)
  refine ⟨cs, hle, ?_⟩
  rw [run_callFunc_extern (P := Tryd.prog) (f := 26) Tryd.func26 (by kernel_rfl) (by kernel_rfl) (by kernel_rfl) (e := Extern.BytealgMakeNoZero.makeNoZero #[3] #[22]) (by kernel_rfl)]
  have : (Extern.BytealgMakeNoZero.makeNoZero #[3] #[22] #[.int .i64 32]).run Tryd.prog w = _ := hrun
  rw [this]; rfl

theorem repeat_spec {sb : Nat} {w : World} (hr : Row w (some ⟨sb, 0, none⟩) .u8 [1]) :
    Calls Tryd.prog 16 #[.slice (some ⟨sb, 0, none⟩) 1 1, .int .i64 32] w fun e w' => ∃ b, e = .returned (.slice (some ⟨b, 0, none⟩) 32 32) ∧ w.heap.size ≤ b ∧ b < w'.heap.size ∧ Row w' (some ⟨b, 0, none⟩) .u8 (List.replicate 32 1) ∧ Below w.heap.size w w' := by
  refine calls_of_ev tysOk extsOk Tryd.func16 rfl rfl rfl ?_
  refine IfP.neg rfl ?_
  refine IfP.neg rfl ?_
  refine CallP.same (mul_1_32 _) ?_
  refine IfP.yes ?_
  refine IfP.yes ?_
  refine IfP.no ?_
  refine IfP.dneg (by decide) ?_
  refine IfP.neg rfl ?_
  refine IfP.dneg (by decide) ?_
  obtain ⟨cs, hcs, hrun⟩ := mnz32 w
  refine ⟨⟨_, _, hrun, ?_⟩⟩
  have hB0 : Below w.heap.size w (w.drew.drew.alloc (.cells cs 5)) := Below.alloc (Below.refl _ _).drew.drew (Nat.le_refl _) _
  have x0 : Blk (w.drew.drew.alloc (.cells cs 5)) w.heap.size cs.toList 5 := Blk.newA w.drew.drew cs 5
  have hl0 : cs.toList.length = cs.size := Array.length_toList
  generalize w.drew.drew.alloc (.cells cs 5) = w1 at hB0 x0 ⊢
  generalize cs.toList = l0 at x0 hl0
  refine SlcP.first (l := 32) (c := cs.size) 32 32 rfl rfl (Nat.le_refl _) hcs ?_
  refine RdP.row' (hr.below hB0) rfl ?_
  refine StsP.blk (o := 0) (vs := [.int .u8 1]) x0 (by simp; rfl) (by simp; omega) ?_
  have x1 := Blk.setCells 0 [.int .u8 1] 0 w1 l0 x0 (by simp; omega)
  have c1 : Below w.heap.size w (setCells w1 ⟨w.heap.size, 0, none⟩ [.int .u8 1] 0) := below_setCells ⟨w.heap.size, 0, none⟩ (Nat.le_refl w.heap.size) _ _ _ hB0
  generalize setCells w1 ⟨w.heap.size, 0, none⟩ [.int .u8 1] 0 = w2 at x1 c1 ⊢
  refine LoopP.go (S := Nat) 75555557882905109728256 (by kernel_rfl) (fun m => [(10, .int .i64 m)])
    (fun m W => 1 ≤ m ∧ m ≤ 32 ∧ (∃ l, Blk W w.heap.size l 5 ∧ l.length = cs.size ∧ l.take m = List.replicate m (.int .u8 1)) ∧ Below w.heap.size w W) (fun m => 32 - m) 1 ⟨rfl, trivial⟩
    ⟨by omega, by omega, ⟨_, x1, by simp; omega, by simp⟩, c1⟩ ?_
  rintro m j W ⟨hm1, hm2, ⟨l, k1, k2, k3⟩, k4⟩
  refine IfP.dec (fun hlt => ?_) (fun hge => ?_)
  · have hlt' : m < 32 := by
      have : IntKind.i64.wrap (32 : Int) = 32 := by decide
      omega
    have hw32 : IntKind.i64.wrap (32 : Int) = 32 := by decide
    have hhi : (if IntKind.i64.wrap (32 : Int) < (m : Int) then IntKind.i64.wrap (32 : Int) else (m : Int)) = m := by rw [hw32, if_neg (by omega)]
    have key : ∀ i, i < m → l[i]? = some (.int .u8 1) := by
      intro i hi
      have : l[i]? = (l.take m)[i]? := by rw [List.getElem?_take, if_pos hi]
      rw [this, k3]; simp [hi]
    have hnext : IntKind.i64.wrap ((m : Int) + ((min m (32 - m) : Nat) : Int)) = ((m + min m (32 - m) : Nat) : Int) := by rw [show (m : Int) + ((min m (32 - m) : Nat) : Int) = ((m + min m (32 - m) : Nat) : Int) by omega]; exact i64_of _ (by omega)
    have k1d := Blk.drw k1
    have k4d := k4.drew
    have fin : ∀ (W1 : World), Blk W1 w.heap.size l 5 → Below w.heap.size w W1 → ∀ k : World → Prop, (∀ W2, (∃ l, Blk W2 w.heap.size l 5 ∧ l.length = cs.size ∧ l.take (m + min m (32 - m)) = List.replicate (m + min m (32 - m)) (.int .u8 1)) → Below w.heap.size w W2 → k W2) →
        RdP (some ⟨w.heap.size, 0, none⟩) (min m (32 - m) * 1) (fun vs => StsP ⟨w.heap.size, 0 + m * 1, none⟩ vs k W1) W1 := by
      intro W1 k1d k4d k hk
      have hrow : Row W1 (some ⟨w.heap.size, 0, none⟩) .u8 (List.replicate (min m (32 - m)) 1) := by
        refine Row.of_blk 0 k1d fun i hi => ?_
        rw [List.length_replicate] at hi
        rw [Nat.zero_add, key i (by omega), List.getElem_replicate]
      refine RdP.row' hrow (by rw [List.length_replicate, Nat.mul_one]) ?_
      refine StsP.blk (o := 0 + m * 1) (vs := (List.replicate (min m (32 - m)) (1 : Int)).map (Value.int .u8)) k1d ?_ (by simp; omega) ?_
      · intro v hv
        obtain ⟨x, _, rfl⟩ := List.mem_map.1 hv
        rfl
      have x2 := Blk.setCells (0 + m * 1) ((List.replicate (min m (32 - m)) (1 : Int)).map (Value.int .u8)) 0 W1 l k1d (by simp; omega)
      have c2 : Below w.heap.size w (setCells W1 ⟨w.heap.size, 0 + m * 1, none⟩ ((List.replicate (min m (32 - m)) (1 : Int)).map (Value.int .u8)) 0) := below_setCells ⟨w.heap.size, 0 + m * 1, none⟩ (Nat.le_refl w.heap.size) _ _ _ k4d
      refine hk _ ⟨_, x2, ?_, ?_⟩ c2
      · simp; omega
      · rw [show 0 + m * 1 = m by omega, Nat.add_zero, k3, List.map_replicate, List.replicate_append_replicate, List.take_append_of_le_length (by simp), List.take_of_length_le (by simp)]
    refine DrawP.any tysOk extsOk mixed (.take 0 (.take 1 (.take 2 (.take 4 (.take 5 (.alt 3 (.alt 6 (.alt 7 (.alt 8 (.take 9 (.done)) (.done)) (.done)) (.done)) (.alt 6 (.alt 3 (.alt 7 (.alt 8 (.take 9 (.done)) (.done)) (.done)) (.done)) (.done)))))))) 75410289773324647007232 (by kernel_rfl) (by kernel_rfl)
      (S := Unit) (fun _ => [(10, .int .i64 ((m + min m (32 - m) : Nat) : Int))]) (fun _ W => (∃ l, Blk W w.heap.size l 5 ∧ l.length = cs.size ∧ l.take (m + min m (32 - m)) = List.replicate (m + min m (32 - m)) (.int .u8 1)) ∧ Below w.heap.size w W) ?_ ?_
    · generalize hW1 : ({ W with drawn := W.drawn + 1 } : World) = W1
      have k1d : Blk W1 w.heap.size l 5 := by rw [← hW1]; exact k1d
      have k4d : Below w.heap.size w W1 := by rw [← hW1]; exact k4d
      refine ⟨?_, ?_, trivial⟩
      · refine SlcP.exact (l := 32) (c := 32) m 32 rfl rfl hm2 (Nat.le_refl _) (.inl hlt') ?_
        refine ⟨SlcP.first (l := 32) (c := 32) m 32 hhi rfl hm2 (Nat.le_refl _) ?_, trivial⟩
        refine ⟨fin W1 k1d k4d _ fun W2 q1 q2 => ?_, trivial⟩
        exact ⟨⟨(), ⟨congrArg (Value.int .i64) hnext, trivial⟩, q1, q2⟩, trivial⟩
      · refine SlcP.first (l := 32) (c := 32) m 32 hhi rfl hm2 (Nat.le_refl _) ?_
        refine ⟨SlcP.exact (l := 32) (c := 32) m 32 rfl rfl hm2 (Nat.le_refl _) (.inl hlt') ?_, trivial⟩
        refine ⟨fin W1 k1d k4d _ fun W2 q1 q2 => ?_, trivial⟩
        exact ⟨⟨(), ⟨congrArg (Value.int .i64) hnext, trivial⟩, q1, q2⟩, trivial⟩
    · rintro ⟨⟩ j' W2 ⟨q1, q2⟩
      exact ⟨rfl, m + min m (32 - m), ⟨⟨rfl, trivial⟩, by omega, by omega, q1, q2⟩, by omega⟩
  · have hm : m = 32 := by
      have : IntKind.i64.wrap (32 : Int) = 32 := by decide
      omega
    subst hm
    refine ⟨rfl, w.heap.size, rfl, Nat.le_refl _, k1.lt, ?_, k4⟩
    refine Row.of_blk 0 k1 fun i hi => ?_
    rw [List.length_replicate] at hi
    have : l[i]? = (l.take 32)[i]? := by rw [List.getElem?_take, if_pos (by omega)]
    rw [Nat.zero_add, this, k3, List.getElem_replicate, List.getElem?_replicate, if_pos (by omega)]
end Go.Proofs.YthghiokcinpnlaaDoor
