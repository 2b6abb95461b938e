import Derived.Test.YthghiokcinpnlaaDoorLb2
namespace Go.Proofs.YthghiokcinpnlaaDoor
open Go Go.Ev Go.RowKit
set_option maxRecDepth 20000
set_option linter.unusedVariables false

/-! ### numbers of limbs -/
def ints (xs : List Nat) : List Int := xs.map Int.ofNat
theorem ints_length (xs : List Nat) : (ints xs).length = xs.length := List.length_map _
theorem ints_getD (xs : List Nat) (i : Nat) : (ints xs).getD i 0 = ((xs.getD i 0 : Nat) : Int) := by
  unfold ints
  rw [List.getD_eq_getElem?_getD, List.getD_eq_getElem?_getD, List.getElem?_map]
  cases xs[i]? <;> rfl
/-- a row of limbs. -/
def NRow (w : World) (a : Option Addr) (xs : List Nat) : Prop := Row w a .u64 (ints xs)
def Limbs (xs : List Nat) : Prop := ∀ x ∈ xs, x < 18446744073709551616
theorem Limbs.getD {xs : List Nat} (h : Limbs xs) (i : Nat) : xs.getD i 0 < 18446744073709551616 := by
  rw [List.getD_eq_getElem?_getD]
  cases hx : xs[i]? with
  | none => decide
  | some x => exact h x (List.mem_of_getElem? hx)
def trimLen (xs : List Nat) : Nat → Nat
  | 0 => 0
  | n + 1 => if xs.getD n 0 = 0 then trimLen xs n else n + 1
theorem trimLen_le (xs : List Nat) : ∀ n, trimLen xs n ≤ n
  | 0 => Nat.le_refl _
  | n + 1 => by unfold trimLen; split; exact Nat.le_succ_of_le (trimLen_le xs n); exact Nat.le_refl _
def trimmed (xs : List Nat) : List Nat := xs.take (trimLen xs xs.length)
theorem trimmed_length (xs : List Nat) : (trimmed xs).length = trimLen xs xs.length := by unfold trimmed; rw [List.length_take]; exact Nat.min_eq_left (trimLen_le _ _)
theorem Limbs.trimmed {xs : List Nat} (h : Limbs xs) : Limbs (trimmed xs) := fun x hx => h x (List.mem_of_mem_take hx)

theorem trim_spec {xs : List Nat} {a : Option Addr} {l c : Nat} {w : World} (hr : NRow w a xs) (hl : l = xs.length) (hc : l ≤ c) (hs : l ≤ 1000000) :
    Calls Tryd.prog 30 #[.slice a l c] w fun e w' => ∃ a', e = .returned (.slice a' (trimmed xs).length c) ∧ NRow w' a' (trimmed xs) ∧ (∀ p, a' = some p → ∃ q, a = some q ∧ q.block = p.block) ∧ w' = w := by
  refine calls_of_ev tysOk extsOk Tryd.func30 rfl rfl rfl ?_
  have hil := ints_length xs
  refine LoopP.go (S := Nat) 262088 (by kernel_rfl) (fun n => [(3, .int .i64 n)]) (fun n W => n ≤ l ∧ trimLen xs n = trimLen xs l ∧ W = w) (fun n => n) l ⟨rfl, trivial⟩ ⟨Nat.le_refl _, rfl, rfl⟩ ?_
  rintro n j W ⟨h1, h2, hW⟩
  have hW := hW.symm
  subst hW
  rcases n with _ | n
  · iterate 6 refine IfP.neg rfl ?_
    refine IfP.neg rfl ?_
    refine IfP.no ?_
    have hn : trimLen xs 0 = 0 := rfl
    have hlen : (trimmed xs).length = 0 := by rw [trimmed_length, ← hl, ← h2, hn]
    refine SlcP.row (c := c) 0 (0) rfl rfl hr (by omega) hc (by omega) h1 fun a' ha' ho => ?_
    rw [List.drop_zero] at ha'
    refine ⟨rfl, a', ?_, ?_, ho, rfl⟩
    · rw [hlen]; rfl
    · unfold NRow ints trimmed
      rw [← hl, ← h2, hn, List.map_take]; exact ha'
  · have hpos : decide (((n + 1 : Nat) : Int) > 0) = true := decide_eq_true (by omega)
    have hsub : IntKind.i64.wrap (((n + 1 : Nat) : Int) - 1) = (n : Int) := by rw [show (((n + 1 : Nat) : Int) - 1) = (n : Int) by omega]; exact i64_of _ (by omega)
    refine IfP.pos hpos ?_
    iterate 3 refine IfP.yes ?_
    obtain ⟨b, o, ha, hcell⟩ := hr n (by omega)
    have hx : (ints xs)[n]'(by omega) = ((xs.getD n 0 : Nat) : Int) := by
      rw [← ints_getD, List.getD_eq_getElem?_getD, List.getElem?_eq_getElem (by omega)]; rfl
    rw [hx] at hcell
    subst ha
    refine IdxP.at n hsub (by omega) ?_
    refine IfP.yes ?_
    refine LdI.go (n := ((xs.getD n 0 : Nat) : Int)) (show w.cell? ⟨b, o + n * 1, none⟩ = _ by rw [Nat.mul_one]; exact hcell) ?_
    refine IfP.yes ?_
    refine IfP.yes ?_
    refine IfP.beq (fun hz => ?_) (fun hz => ?_)
    · refine ⟨rfl, n, ⟨⟨congrArg (Value.int .i64) hsub, trivial⟩, by omega, ?_, rfl⟩, by omega⟩
      rw [← h2]
      show trimLen xs n = if xs.getD n 0 = 0 then trimLen xs n else n + 1
      rw [if_pos (by omega)]
    · have hn : trimLen xs (n + 1) = n + 1 := by unfold trimLen; rw [if_neg (by omega)]
      have hlen : (trimmed xs).length = n + 1 := by rw [trimmed_length, ← hl, ← h2, hn]
      refine SlcP.row (c := c) 0 (n + 1) rfl rfl hr (by omega) hc (by omega) h1 fun a' ha' ho => ?_
      rw [List.drop_zero] at ha'
      refine ⟨rfl, a', ?_, ?_, ho, rfl⟩
      · rw [hlen]; rfl
      · unfold NRow ints trimmed
        rw [← hl, ← h2, hn, List.map_take]; exact ha'
theorem made_spec {xs : List Nat} {a : Option Addr} {l c : Nat} {w : World} (hr : NRow w a xs) (hl : l = xs.length) (hc : l ≤ c) (hs : l ≤ 1000000) :
    Calls Tryd.prog 33 #[.slice a l c] w fun e w' => ∃ a' c' o', e = .returned (.slice a' (trimmed xs).length c') ∧ OwnS .u64 39 w' a' (trimmed xs).length c' (ints (trimmed xs)) o' ∧ (∀ k, o' = some k → w.heap.size ≤ k) ∧ Below w.heap.size w w' := by
  refine calls_of_ev tysOk extsOk Tryd.func33 rfl rfl rfl ?_
  refine CallP.intro (trim_spec hr hl hc hs) ?_
  rintro e w1 ⟨a', rfl, h1, h2, hw⟩
  have hw := hw.symm
  subst hw
  refine ⟨_, rfl, ?_⟩
  have hlt : (trimmed xs).length ≤ l := by rw [trimmed_length, hl]; exact trimLen_le _ _
  refine RdP.row' h1 (by rw [ints_length]; exact Nat.mul_one _) ?_
  refine App.own (OwnS.nil w) (ints_length _).symm (by omega) (by decide) fun a2 c2 o2 w2 q1 q2 q3 => ?_
  rw [Nat.zero_add, List.nil_append] at *
  refine ⟨rfl, a2, c2, o2, rfl, q1, ?_, Chg.below (q2.mono (Nat.le_refl _) (fun k _ h => by cases h))⟩
  intro k hk
  rcases q3 with q3 | q3 <;> rw [q3] at hk <;> cases hk
  exact Nat.le_refl _
theorem ofN_spec {x : Nat} {w : World} :
    Calls Tryd.prog 35 #[.int .u64 x] w fun e w' => ∃ a' c' o', e = .returned (.slice a' (trimmed [x]).length c') ∧ OwnS .u64 39 w' a' (trimmed [x]).length c' (ints (trimmed [x])) o' ∧ (∀ k, o' = some k → w.heap.size ≤ k) ∧ Below w.heap.size w w' := by
  refine calls_of_ev tysOk extsOk Tryd.func35 rfl rfl rfl ?_
  have hB : Below w.heap.size w (w.alloc (.cells #[.int .u64 x] 39)) := (Below.refl _ _).alloc (Nat.le_refl _) _
  have hR : NRow (w.alloc (.cells #[.int .u64 x] 39)) (some ⟨w.heap.size, 0, none⟩) [x] := Row.of_blk 0 (Blk.newA w #[.int .u64 x] 39) (by
    intro i hi
    have hi0 : i = 0 := by simp [ints] at hi; omega
    subst hi0; rfl)
  refine CallP.intro (made_spec hR rfl (Nat.le_refl 1) (by decide)) ?_
  rintro e w2 ⟨a', c', o', rfl, h1, h2, h3⟩
  exact ⟨_, rfl, rfl, a', c', o', rfl, h1, fun k hk => Nat.le_trans hB.size (h2 k hk), hB.trans (h3.mono hB.size)⟩
end Go.Proofs.YthghiokcinpnlaaDoor
