import Derived.Test.YthghiokcinpnlaaDoorHc3
import Derived.Test.YthghiokcinpnlaaDoorEvAny
namespace Go.Proofs.YthghiokcinpnlaaDoor
open Go Go.Ev Go.RowKit
set_option maxRecDepth 20000
set_option linter.unusedVariables false

/-! ### numbers as bytes -/
def b8 (K : IntKind) (x : Int) (s : Int) : Int := IntKind.u8.wrap (x.fdiv (2 ^ (min s.toNat K.bits)))
def be32 (x : Int) : List Int := [b8 .u32 x 24, b8 .u32 x 16, b8 .u32 x 8, IntKind.u8.wrap x]
theorem app32_spec {a : Option Addr} {l c : Nat} {xs : List Int} {o : Option Nat} {x : Int} {w : World} (h : OwnS .u8 5 w a l c xs o) (hs : l ≤ 1000000) :
    Calls Tryd.prog 74 #[.slice a l c, .int .u32 x] w fun e w' => ∃ a' c' o', e = .returned (.slice a' (l + 4) c') ∧ OwnS .u8 5 w' a' (l + 4) c' (xs ++ be32 x) o' ∧ Chg w.heap.size (fun k => o = some k) w w' ∧ (o' = o ∨ ∃ b, o' = some b ∧ w.heap.size ≤ b) := by
  refine calls_of_ev tysOk extsOk Tryd.func74 rfl rfl rfl ?_
  refine ChkP.go (by decide) ?_
  refine ChkP.go (by decide) ?_
  refine ChkP.go (by decide) ?_
  have hb : Below w.heap.size w (w.alloc (.cells ((be32 x).map (Value.int .u8)).toArray 5)) := (Below.refl _ _).alloc (Nat.le_refl _) _
  have hB := Blk.new w ((be32 x).map (Value.int .u8)) 5
  refine RdP.row' (K := .u8) (xs := be32 x) (Row.of_blk 0 hB ?_) rfl ?_
  · intro i hi; rw [Nat.zero_add, List.getElem?_map, List.getElem?_eq_getElem hi]; rfl
  refine App.own (h.below hb) rfl (by omega) (by decide) fun a' c' o' w' h1 h2 h3 => ?_
  refine ⟨rfl, a', c', o', rfl, h1, ?_, ?_⟩
  · exact (Chg.of_below hb).thenC h2 hb.size (fun _ _ h => h)
  · rcases h3 with h3 | h3
    · exact .inl h3
    · exact .inr ⟨_, h3, hb.size⟩
def be64 (x : Int) : List Int := [b8 .u64 x 56, b8 .u64 x 48, b8 .u64 x 40, b8 .u64 x 32, b8 .u64 x 24, b8 .u64 x 16, b8 .u64 x 8, IntKind.u8.wrap x]
theorem app64_spec {a : Option Addr} {l c : Nat} {xs : List Int} {o : Option Nat} {x : Int} {w : World} (h : OwnS .u8 5 w a l c xs o) (hs : l ≤ 1000000) :
    Calls Tryd.prog 75 #[.slice a l c, .int .u64 x] w fun e w' => ∃ a' c' o', e = .returned (.slice a' (l + 8) c') ∧ OwnS .u8 5 w' a' (l + 8) c' (xs ++ be64 x) o' ∧ Chg w.heap.size (fun k => o = some k) w w' ∧ (o' = o ∨ ∃ b, o' = some b ∧ w.heap.size ≤ b) := by
  refine calls_of_ev tysOk extsOk Tryd.func75 rfl rfl rfl ?_
  refine ChkP.go (by decide) ?_
  refine ChkP.go (by decide) ?_
  refine ChkP.go (by decide) ?_
  refine ChkP.go (by decide) ?_
  refine ChkP.go (by decide) ?_
  refine ChkP.go (by decide) ?_
  refine ChkP.go (by decide) ?_
  have hb : Below w.heap.size w (w.alloc (.cells ((be64 x).map (Value.int .u8)).toArray 5)) := (Below.refl _ _).alloc (Nat.le_refl _) _
  have hB := Blk.new w ((be64 x).map (Value.int .u8)) 5
  refine RdP.row' (K := .u8) (xs := be64 x) (Row.of_blk 0 hB ?_) rfl ?_
  · intro i hi; rw [Nat.zero_add, List.getElem?_map, List.getElem?_eq_getElem hi]; rfl
  refine App.own (h.below hb) rfl (by omega) (by decide) fun a' c' o' w' h1 h2 h3 => ?_
  refine ⟨rfl, a', c', o', rfl, h1, ?_, ?_⟩
  · exact (Chg.of_below hb).thenC h2 hb.size (fun _ _ h => h)
  · rcases h3 with h3 | h3
    · exact .inl h3
    · exact .inr ⟨_, h3, hb.size⟩
theorem put64_spec {b l c : Nat} {xs : List Int} {x : Int} {w : World} (h : Buf .u8 5 w b xs c) (hl : l = xs.length) (h8 : 8 ≤ l) :
    Calls Tryd.prog 73 #[.slice (some ⟨b, 0, none⟩) l c, .int .u64 x] w fun e w' => e = .returned (.tuple #[]) ∧ Buf .u8 5 w' b (be64 x ++ xs.drop 8) c ∧ Chg w.heap.size (fun k => k = b) w w' := by
  refine calls_of_ev tysOk extsOk Tryd.func73 rfl rfl rfl ?_
  have hle := h.le
  have hB0 := Buf.drw h
  have hC0 := (Chg.refl w.heap.size (fun k => k = b) w).drw
  generalize hw0 : ({ w with drawn := w.drawn + 1 } : World) = w0 at hB0 hC0
  refine DrawP.any tysOk extsOk mixed (.take 0 (.take 2 (.alt 1 (.alt 3 (.alt 4 (.done) (.done)) (.done)) (.alt 3 (.alt 1 (.alt 4 (.done) (.done)) (.done)) (.done))))) 496 (by kernel_rfl) (by kernel_rfl)
    (S := Unit) (fun _ => []) (fun _ w' => Buf .u8 5 w' b (be64 x ++ xs.drop 8) c ∧ Chg w.heap.size (fun k => k = b) w w') ?_ ?_
  · rw [hw0]
    have hend : ∀ (a' : Option Addr) (c' : Nat) (o' : Option Nat) (w1 : World), OwnS .u8 5 w1 a' (0 + 8) c' ([] ++ be64 x) o' → Chg w0.heap.size (fun k => none = some k) w0 w1 →
        RdP a' ((0 + 8) * 1) (fun vs => StsP ⟨b, 0, none⟩ vs (fun w' => ∃ s : Unit, True ∧ Buf .u8 5 w' b (be64 x ++ xs.drop 8) c ∧ Chg w.heap.size (fun k => k = b) w w') w1) w1 := by
      intro a' c' o' w1 h1 h2
      have hb1 := h2.mono (Nat.le_refl _) (s' := fun _ => False) (fun k _ h => by cases h)
      refine RdP.row' h1.row rfl ?_
      refine StsP.buf (ys := be64 x) 0 (hB0.chg hb1 hB0.lt id) (by show 0 + 8 ≤ _; omega) fun w2 h4 h5 _ => ?_
      rw [List.take_zero, List.nil_append, Nat.zero_add] at h4
      refine ⟨(), trivial, h4, ?_⟩
      exact (hC0.thenC hb1 hC0.size (fun _ _ h => h.elim)).thenC h5 (Nat.le_trans hC0.size hb1.size) (fun _ _ h => h)
    refine ⟨?_, ?_, trivial⟩
    · refine SlcP.first 8 c rfl rfl (by omega) (Nat.le_refl _) ?_
      refine ⟨CallP.intro (app64_spec (OwnS.nil _) (by omega)) ?_, trivial⟩
      rintro e w1 ⟨a', c', o', rfl, h1, h2, h3⟩
      exact ⟨_, rfl, hend a' c' o' w1 h1 h2, trivial⟩
    · refine CallP.intro (app64_spec (OwnS.nil _) (by omega)) ?_
      rintro e w1 ⟨a', c', o', rfl, h1, h2, h3⟩
      refine ⟨_, rfl, ?_, trivial⟩
      refine SlcP.first 8 c rfl rfl (by omega) (Nat.le_refl _) ?_
      exact ⟨hend a' c' o' w1 h1 h2, trivial⟩
  · rintro ⟨⟩ j w' ⟨h1, h2⟩
    exact ⟨rfl, rfl, h1, h2⟩
theorem clone_own {a : Option Addr} {l c : Nat} {xs : List Int} {o : Option Nat} {w : World} (h : OwnS .u8 5 w a l c xs o) (hs : l ≤ 1000000000) :
    Calls Tryd.prog 72 #[.slice a l c] w fun e w' => ∃ a' c' o', e = .returned (.slice a' l c') ∧ OwnS .u8 5 w' a' l c' xs o' ∧ (∀ k, o' = some k → w.heap.size ≤ k) ∧ Below w.heap.size w w' := by
  refine calls_of_ev tysOk extsOk Tryd.func72 rfl rfl rfl ?_
  cases o with
  | none =>
    obtain ⟨rfl, rfl, rfl, rfl⟩ := h
    refine IfP.yes ?_
    exact ⟨rfl, none, 0, none, rfl, OwnS.nil _, (by intro k hk; cases hk), Below.refl _ _⟩
  | some b =>
    obtain ⟨rfl, hl, hB⟩ := h
    refine IfP.no ?_
    have hb1 : Below w.heap.size w (w.alloc (.cells (#[] : Array Value) 5)) := (Below.refl _ _).alloc (Nat.le_refl _) _
    have hE : OwnS .u8 5 (w.alloc (.cells (#[] : Array Value) 5)) (some ⟨w.heap.size, 0, none⟩) 0 0 [] (some w.heap.size) := ⟨rfl, rfl, [], Blk.newA _ _ _, rfl⟩
    refine RdP.row' ((hB.below hb1).row) (by rw [hl]; exact Nat.mul_one _) ?_
    refine App.own hE hl (by omega) (by decide) fun a' c' o' w' h1 h2 h3 => ?_
    rw [Nat.zero_add, List.nil_append] at *
    refine ⟨rfl, a', c', o', rfl, h1, ?_, ?_⟩
    · intro k hk
      rcases h3 with h3 | h3 <;> rw [h3] at hk <;> cases hk
      · exact Nat.le_refl _
      · exact hb1.size
    · exact Chg.below ((Chg.of_below hb1).thenC h2 hb1.size (fun k hk h => by cases h; exact Nat.lt_irrefl _ hk))
theorem hcells_len {hs : List Int} (h : hs.length = 8) (v : Value) (n : Int) : (hcells 3 hs v n).length = 11 := by simp [hcells, h]
theorem hcells_9 {hs : List Int} (h : hs.length = 8) (v : Value) (n : Int) : (hcells 3 hs v n)[9]? = some v := by simp [hcells, h]
theorem hcells_10 {hs : List Int} (h : hs.length = 8) (v : Value) (n : Int) : (hcells 3 hs v n)[10]? = some (.int .u64 n) := by simp [hcells, h]
theorem hcells_set9 {hs : List Int} (h : hs.length = 8) (v v' : Value) (n : Int) : (hcells 3 hs v n).set 9 v' = hcells 3 hs v' n := by
  obtain ⟨x0, x1, x2, x3, x4, x5, x6, x7, rfl⟩ : ∃ a b c d e f g h, hs = [a, b, c, d, e, f, g, h] := by
    match hs, h with
    | [a, b, c, d, e, f, g, h], _ => exact ⟨a, b, c, d, e, f, g, h, rfl⟩
  rfl
theorem hcells_one {hs : List Int} (v : Value) (hv : Value.oneCell' v = true) (n : Int) : ∀ x ∈ hcells 3 hs v n, Value.oneCell' x = true := by
  intro x hx
  simp only [hcells, List.mem_cons, List.mem_append, List.mem_map, List.not_mem_nil, or_false] at hx
  rcases hx with rfl | ⟨_, _, rfl⟩ | rfl | rfl
  · rfl
  · rfl
  · exact hv
  · rfl
theorem copy_spec {hb : Nat} {hs rest : List Int} {n : Int} {wo : Option Nat} {w : World} (h : HashAt w hb hs rest n wo) (hsz : rest.length ≤ 1000000000) :
    Calls Tryd.prog 59 #[.pointer (some ⟨hb, 0, none⟩)] w fun e w' => ∃ cb wo', e = .returned (.pointer (some ⟨cb, 0, none⟩)) ∧ HashAt w' cb hs rest n wo' ∧ w.heap.size ≤ cb ∧ (∀ k, wo' = some k → w.heap.size ≤ k) ∧ Below w.heap.size w w' := by
  obtain ⟨a, l, c, hB, hO, hs8, hwo⟩ := h
  refine calls_of_ev tysOk extsOk Tryd.func59 rfl rfl rfl ?_
  refine IfP.no ?_
  refine NilP.go ?_
  have hlen := hcells_len hs8 (.slice a l c) n
  refine LdAgg.go (o := 0) (n := 11) hB (by omega) ?_
  rw [List.drop_zero, List.take_of_length_le (by omega)]
  refine ChkP.go (by simp [hlen]) ?_
  have hb1 : Below w.heap.size w (w.alloc (.cells inf101.zero.cells 101)) := (Below.refl _ _).alloc (Nat.le_refl _) _
  refine StsP.to (Blk.newA w inf101.zero.cells 101) (hcells_one _ rfl _) (by rw [hlen]; rfl) fun w1 h1 h2 _ => ?_
  have hb2 : Below w.heap.size w w1 := Chg.below ((Chg.of_below hb1).thenC h2 hb1.size (fun k hk e => by cases e; exact Nat.lt_irrefl _ hk))
  refine NilP.go ?_
  refine LdSl.go ((hB.belowS hb2).cell 9 |>.trans (hcells_9 hs8 _ _)) ?_
  refine CallP.intro (clone_own (hO.below hb2) (by rw [hO.len]; omega)) ?_
  rintro e w2 ⟨a', c', o', rfl, h3, h4, h5⟩
  refine ⟨_, rfl, ?_⟩
  have h1 : Blk w1 w.heap.size (hcells 3 hs (.slice a l c) n) 101 := h1
  have h1l := h1.lt
  refine StP.to 9 (h1.belowS h5) rfl (by omega) fun w3 h6 h7 h8 => ?_
  have h7 : Chg w2.heap.size (fun k => k = w.heap.size) w2 w3 := h7
  rw [hcells_set9 hs8] at h6
  have hne : ∀ b, o' = some b → b ≠ w.heap.size := fun b hb e => by have := h4 b hb; omega
  refine ⟨rfl, w.heap.size, o', rfl, ⟨a', l, c', h6, h3.chg h7 h3.lt hne, hs8, fun e => hne _ e rfl⟩, Nat.le_refl _, fun k hk => Nat.le_trans (Nat.le_of_lt h1l) (h4 k hk), ?_⟩
  exact Chg.below (((Chg.of_below (s := fun _ => False) hb2).thenB h5 hb2.size).thenC h7 (Nat.le_trans hb2.size h5.size) (fun k hk e => by cases e; exact Nat.lt_irrefl _ hk))
end Go.Proofs.YthghiokcinpnlaaDoor
