import Derived.Test.YthghiokcinpnlaaDoorTwo
import Derived.Test.YthghiokcinpnlaaDoorEvHeld
namespace Go.Proofs.YthghiokcinpnlaaDoor
open Go Go.Ev Go.RowKit
set_option maxRecDepth 20000
set_option linter.unusedVariables false

/-! ### the reference: SHA-256's words -/
def rr32 (x n : Int) : Int := Go.bits .or .u32 (x.fdiv (2 ^ (min n.toNat 32))) (IntKind.u32.wrap (x * 2 ^ (min (IntKind.u64.wrap (32 - n)).toNat 32)))
theorem right_spec (x n : Int) (hn : 0 ≤ n) (w : World) : Calls Tryd.prog 66 #[.int .u32 x, .int .u64 n] w fun e w' => e = .returned (.int .u32 (rr32 x n)) ∧ w' = w := by
  refine calls_of_ev tysOk extsOk Tryd.func66 rfl rfl rfl ?_
  refine ChkP.go hn ?_
  refine ChkP.go (wrap_u64_nonneg _) ?_
  exact ⟨rfl, rfl, rfl⟩
theorem word_spec (a : Option Addr) (l c : Nat) (xs : List Int) (w : World) (hr : Row w a .u8 xs) (hl : l = xs.length) (h4 : 4 ≤ l) :
    Calls Tryd.prog 62 #[.slice a l c] w fun e w' => e = .returned (.int .u32 (get32 (xs.getD 0 0) (xs.getD 1 0) (xs.getD 2 0) (xs.getD 3 0))) ∧ w' = { w with drawn := w.drawn + 1 } := by
  refine calls_of_ev tysOk extsOk Tryd.func62 rfl rfl rfl ?_
  have hr' := hr.drw
  refine DrawP.still tysOk extsOk mixed (by kernel_rfl) rfl ?_
  refine IdxP.ld 0 rfl hr' hl (by omega) (fun _ _ _ => ?_)
  refine ChkP.go (by omega) ?_
  refine IdxP.ld 1 rfl hr' hl (by omega) (fun _ _ _ => ?_)
  refine ChkP.go (by omega) ?_
  refine IdxP.ld 2 rfl hr' hl (by omega) (fun _ _ _ => ?_)
  refine ChkP.go (by omega) ?_
  refine IdxP.ld 3 rfl hr' hl (by omega) (fun _ _ _ => ?_)
  exact ⟨rfl, rfl, rfl⟩
def k256L : List Int := [1116352408, 1899447441, 3049323471, 3921009573, 961987163, 1508970993, 2453635748, 2870763221, 3624381080, 310598401, 607225278, 1426881987, 1925078388, 2162078206, 2614888103, 3248222580, 3835390401, 4022224774, 264347078, 604807628, 770255983, 1249150122, 1555081692, 1996064986, 2554220882, 2821834349, 2952996808, 3210313671, 3336571891, 3584528711, 113926993, 338241895, 666307205, 773529912, 1294757372, 1396182291, 1695183700, 1986661051, 2177026350, 2456956037, 2730485921, 2820302411, 3259730800, 3345764771, 3516065817, 3600352804, 4094571909, 275423344, 430227734, 506948616, 659060556, 883997877, 958139571, 1322822218, 1537002063, 1747873779, 1955562222, 2024104815, 2227730452, 2361852424, 2428436474, 2756734187, 3204031479, 3329325298]
theorem k256_spec (w : World) : Calls Tryd.prog 65 #[] w fun e w' => e = .returned (.slice (some ⟨w.heap.size, 0, none⟩) 64 64) ∧ Blk w' w.heap.size (k256L.map (Value.int .u32)) 69 ∧ Below w.heap.size w w' := by
  refine calls_of_ev tysOk extsOk Tryd.func65 rfl rfl rfl ?_
  exact ⟨rfl, rfl, Blk.newA w (k256L.map (Value.int .u32)).toArray 69, (Below.refl _ _).alloc (Nat.le_refl _) _⟩

def wordsTo (H : List Int) : Nat → List Int
  | 0 => []
  | i + 1 => wordsTo H i ++ be32 (H.getD i 0)
theorem wordsTo_length (H : List Int) : ∀ i, (wordsTo H i).length = 4 * i
  | 0 => rfl
  | i + 1 => by rw [wordsTo, List.length_append, wordsTo_length H i]; rfl
theorem words_spec {ha : Option Addr} {l c : Nat} {H : List Int} {w : World} (hr : Row w ha .u32 H) (hl : l = H.length) (hs : l ≤ 1000) :
    Calls Tryd.prog 64 #[.slice ha l c] w fun e w' => ∃ a' c' o', e = .returned (.slice a' (4 * l) c') ∧ OwnS .u8 5 w' a' (4 * l) c' (wordsTo H l) o' ∧ (∀ k, o' = some k → w.heap.size ≤ k) ∧ Below w.heap.size w w' := by
  refine calls_of_ev tysOk extsOk Tryd.func64 rfl rfl rfl ?_
  refine LoopP.go (S := Nat × Option Addr × Nat × Option Nat) 137438953464 (by kernel_rfl) (fun s => [(4, .int .i64 s.1), (3, .slice s.2.1 (4 * s.1) s.2.2.1)])
    (fun s W => s.1 ≤ l ∧ OwnS .u8 5 W s.2.1 (4 * s.1) s.2.2.1 (wordsTo H s.1) s.2.2.2 ∧ (∀ k, s.2.2.2 = some k → w.heap.size ≤ k) ∧ Below w.heap.size w W)
    (fun s => l - s.1) (0, none, 0, none) ⟨rfl, rfl, trivial⟩ ⟨Nat.zero_le _, OwnS.nil _, (fun k hk => by cases hk), Below.refl _ _⟩ ?_
  rintro ⟨i, oa, oc, oo⟩ j W ⟨k1, k2, k3, k4⟩
  simp only at k1 k2 k3
  refine IfP.dec (fun hlt => ?_) (fun hge => ?_)
  · have hi : i < l := by omega
    have hrW := hr.below k4
    obtain ⟨b, o, rfl, hcell⟩ := hrW i (by omega)
    refine DrawP.tree tysOk extsOk mixed [] (.take 0 (.take 1 (.take 2 (.take 7 (.take 8 (.take 13 (.take 14 (.take 19 (.take 20 (.held 3 (.held 4 (.held 5 (.held 6 (.held 9 (.held 10 (.held 11 (.held 12 (.held 15 (.held 16 (.held 17 (.held 18 (.held 21 (.held 22 (.held 23 (.alt 24 (.alt 25 (.take 26 .done) .nil) .nil))))))))))))))))))))))))) 137438951432 (by kernel_rfl) (by kernel_rfl)
      (X := Option Addr × Nat × Option Nat) (fun W' => Row W' (some ⟨b, o, none⟩) .u32 H) (fun s => [(3, .slice s.1 (4 * (i + 1)) s.2.1)])
      (fun s W' => OwnS .u8 5 W' s.1 (4 * (i + 1)) s.2.1 (wordsTo H (i + 1)) s.2.2 ∧ (∀ k, s.2.2 = some k → w.heap.size ≤ k) ∧ Below w.heap.size w W') ?_ ?_
    · intro w0 c0 b0 s0
      have cell : ∀ w' : World, Row w' (some ⟨b, o, none⟩) .u32 H → w'.cell? ⟨b, o + i * 1, none⟩ = some (.int .u32 (H.getD i 0)) := by
        intro w' h
        obtain ⟨b', o', e, h'⟩ := h i (by omega)
        cases e
        rw [Nat.mul_one, h', List.getD_eq_getElem?_getD, List.getElem?_eq_getElem (by omega)]; rfl
      have hr0 := hrW.below b0
      refine ⟨hr0, ?_⟩
      refine HeldP.go (fun w' hS => IdxP.at i rfl hi rfl) ?_
      refine HeldP.go (fun w' hS => LdI.go (cell w' hS) rfl) ?_
      refine HeldP.go (fun w' hS => ChkP.go (by omega) rfl) ?_
      refine HeldP.go (fun w' hS => rfl) ?_
      refine HeldP.go (fun w' hS => IdxP.at i rfl hi rfl) ?_
      refine HeldP.go (fun w' hS => LdI.go (cell w' hS) rfl) ?_
      refine HeldP.go (fun w' hS => ChkP.go (by omega) rfl) ?_
      refine HeldP.go (fun w' hS => rfl) ?_
      refine HeldP.go (fun w' hS => IdxP.at i rfl hi rfl) ?_
      refine HeldP.go (fun w' hS => LdI.go (cell w' hS) rfl) ?_
      refine HeldP.go (fun w' hS => ChkP.go (by omega) rfl) ?_
      refine HeldP.go (fun w' hS => rfl) ?_
      refine HeldP.go (fun w' hS => IdxP.at i rfl hi rfl) ?_
      refine HeldP.go (fun w' hS => LdI.go (cell w' hS) rfl) ?_
      refine HeldP.go (fun w' hS => rfl) ?_
      refine ⟨?_, trivial⟩
      have b1 : Below w0.heap.size w0 (w0.alloc (.cells ((be32 (H.getD i 0)).map (Value.int .u8)).toArray 5)) := (Below.refl _ _).alloc (Nat.le_refl _) _
      have x1 := Blk.newA w0 ((be32 (H.getD i 0)).map (Value.int .u8)).toArray 5
      refine ⟨hr0.below b1, ?_⟩
      have k5 := (k2.below b0).below b1
      have hlt0 := k2.lt
      refine ⟨?_, trivial⟩
      refine RdP.row' (xs := be32 (H.getD i 0)) (Buf.of (xs := be32 (H.getD i 0)) x1).row rfl ?_
      refine App.own k5 rfl (by omega) (by decide) fun a3 c3 o3 w3 r1 r2 r3 => ?_
      have bW : Below w.heap.size w (w0.alloc (.cells ((be32 (H.getD i 0)).map (Value.int .u8)).toArray 5)) := k4.trans ((b0.trans (b1.mono b0.size)).mono k4.size)
      have b3 : Below w.heap.size w w3 := Chg.below ((Chg.of_below (s := fun _ => False) bW).thenC r2 bW.size (fun k hk e => by have := k3 k e; omega))
      refine ⟨hr.below b3, ?_⟩
      refine ⟨(a3, c3, o3), ⟨rfl, trivial⟩, r1, fun k hk => ?_, b3⟩
      rcases r3 with r3 | r3
      · exact k3 k (r3 ▸ hk)
      · rw [r3] at hk; cases hk; exact bW.size
    · rintro ⟨a3, c3, o3⟩ j' W' ⟨h1, h2, h3⟩
      have hnext : IntKind.i64.wrap ((i : Int) + 1) = ((i + 1 : Nat) : Int) := by rw [show (i : Int) + 1 = ((i + 1 : Nat) : Int) by omega]; exact i64_of _ (by omega)
      exact ⟨rfl, (i + 1, a3, c3, o3), ⟨⟨congrArg (Value.int .i64) hnext, rfl, trivial⟩, hi, h1, h2, h3⟩, by show l - (i + 1) < l - i; omega⟩
  · have : i = l := by omega
    subst this
    exact ⟨rfl, oa, oc, oo, rfl, k2, k3, k4⟩
end Go.Proofs.YthghiokcinpnlaaDoor
