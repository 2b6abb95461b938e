import Derived.Test.YthghiokcinpnlaaDoorRf3
namespace Go.Proofs.YthghiokcinpnlaaDoor
open Go Go.Ev Go.RowKit
set_option maxRecDepth 20000
set_option linter.unusedVariables false

def rH0 : List Int := [1779033703, 3144134277, 1013904242, 2773480762, 1359893119, 2600822924, 528734635, 1541459225]
def rsha (bs : List Int) : List Int := wordsTo (rfold rH0 (padded bs) ((padded bs).length / 64)) 8
theorem rsha_length (bs : List Int) : (rsha bs).length = 32 := wordsTo_length _ _
theorem rof_spec {a : Option Addr} {l c : Nat} {bs : List Int} {w : World} (hr : Row w a .u8 bs) (hl : l = bs.length) (hsz : l ≤ 1000000) :
    Calls Tryd.prog 45 #[.int .i64 3, .slice a l c] w fun e w' => ∃ a' c' o', e = .returned (.slice a' 32 c') ∧ OwnS .u8 5 w' a' 32 c' (rsha bs) o' ∧ (∀ k, o' = some k → w.heap.size ≤ k) ∧ Below w.heap.size w w' := by
  refine calls_of_ev tysOk extsOk Tryd.func45 rfl rfl rfl ?_
  (repeat (first | refine IfP.yes ?_ | refine IfP.no ?_ | refine NilP.go ?_))
  have b1 : Below w.heap.size w (w.alloc (.cells (rH0.map (Value.int .u32)).toArray 69)) := (Below.refl _ _).alloc (Nat.le_refl _) _
  have x1 := Blk.newA w (rH0.map (Value.int .u32)).toArray 69
  refine CallP.intro (rsha_spec (hb := w.heap.size) (hs := rH0) (hr.below b1) hl hsz x1 rfl) ?_
  rintro e w9 ⟨a', c', o', rfl, t1, t2, t3⟩
  have t3 : Chg (w.alloc (.cells (rH0.map (Value.int .u32)).toArray 69)).heap.size (fun k => k = w.heap.size) (w.alloc (.cells (rH0.map (Value.int .u32)).toArray 69)) w9 := t3
  exact ⟨_, rfl, rfl, a', c', o', rfl, t1, fun k hk => Nat.le_trans b1.size (t2 k hk), Chg.below ((Chg.of_below (s := fun _ => False) b1).thenC t3 b1.size (fun k hk e => by omega))⟩
theorem rblock_spec (w : World) : Calls Tryd.prog 44 #[.int .i64 3] w fun e w' => e = .returned (.int .i64 64) ∧ w' = w := by
  refine calls_of_ev tysOk extsOk Tryd.func44 rfl rfl rfl ?_
  (repeat (first | refine IfP.yes ?_ | refine IfP.no ?_ | refine NilP.go ?_))
  exact ⟨rfl, rfl, rfl⟩

theorem flat_take (parts : List (List Int)) (i : Nat) (hi : i < parts.length) : (parts.take (i + 1)).flatten = (parts.take i).flatten ++ parts[i] := by
  rw [List.take_succ_eq_append_getElem hi, List.flatten_append]; simp
theorem flat_le (parts : List (List Int)) (h : ∀ x ∈ parts, x.length ≤ 100000) : ∀ i, ((parts.take i).flatten).length ≤ 100000 * i
  | 0 => by simp
  | i + 1 => by
    by_cases hi : i < parts.length
    · have := flat_le parts h i
      rw [flat_take parts i hi, List.length_append]
      have := h parts[i] (List.getElem_mem hi)
      omega
    · rw [List.take_of_length_le (by omega)]
      have := flat_le parts h i
      rw [List.take_of_length_le (by omega)] at this
      omega
theorem join_spec {pa : Option Addr} {pl pc : Nat} {parts : List (List Int)} {w : World} (hp : Parts w pa parts) (hpl : pl = parts.length) (h9 : pl ≤ 5) (hs : ∀ x ∈ parts, x.length ≤ 100000) :
    Calls Tryd.prog 28 #[.slice pa pl pc] w fun e w' => ∃ a' c' o', e = .returned (.slice a' parts.flatten.length c') ∧ OwnS .u8 5 w' a' parts.flatten.length c' parts.flatten o' ∧ (∀ k, o' = some k → w.heap.size ≤ k) ∧ Below w.heap.size w w' := by
  refine calls_of_ev tysOk extsOk Tryd.func28 rfl rfl rfl ?_
  refine LoopP.go (S := Nat × Option Addr × Nat × Option Nat) 131064 (by kernel_rfl) (fun s => [(4, .int .i64 s.1), (3, .slice s.2.1 ((parts.take s.1).flatten).length s.2.2.1)])
    (fun s W => s.1 ≤ pl ∧ OwnS .u8 5 W s.2.1 ((parts.take s.1).flatten).length s.2.2.1 (parts.take s.1).flatten s.2.2.2 ∧ (∀ k, s.2.2.2 = some k → w.heap.size ≤ k) ∧ Below w.heap.size w W)
    (fun s => pl - s.1) (0, none, 0, none) ⟨rfl, rfl, trivial⟩ ⟨Nat.zero_le _, OwnS.nil _, (fun k hk => by cases hk), Below.refl _ _⟩ ?_
  rintro ⟨i, oa, oc, oo⟩ j W ⟨k1, k2, k3, k4⟩
  simp only at k1 k2 k3
  refine IfP.dec (fun hlt => ?_) (fun hge => ?_)
  · have hi : i < parts.length := by omega
    obtain ⟨b, o, a, l, c, rfl, p2, p3, p4, p5⟩ := (hp.below k4) i hi
    refine IdxP.at i rfl (by omega) ?_
    refine LdSl.go (b := a) (l := l) (c := c) ?_ ?_
    rotate_left
    · refine RdP.row' p3 ((Nat.mul_one l).trans p4) ?_
      have hf := flat_le parts hs i
      have hx := hs parts[i] (List.getElem_mem hi)
      refine App.own k2 p4 (by show (parts.take i).flatten.length + l ≤ _; omega) (by decide) fun a3 c3 o3 w3 r1 r2 r3 => ?_
      have b3 : Below w.heap.size w w3 := Chg.below ((Chg.of_below (s := fun _ => False) k4).thenC r2 k4.size (fun k hk e => by have := k3 k e; omega))
      have hnext : IntKind.i64.wrap ((i : Int) + 1) = ((i + 1 : Nat) : Int) := by rw [show (i : Int) + 1 = ((i + 1 : Nat) : Int) by omega]; exact i64_of _ (by omega)
      have hfl : (parts.take i).flatten.length + l = (parts.take (i + 1)).flatten.length := by rw [flat_take parts i hi, List.length_append, p4]
      refine ⟨rfl, (i + 1, a3, c3, o3), ⟨⟨congrArg (Value.int .i64) hnext, congrArg (fun n => Value.slice a3 n c3) hfl, trivial⟩, by show i + 1 ≤ pl; omega, ?_, fun k hk => ?_, b3⟩, by show pl - (i + 1) < pl - i; omega⟩
      · show OwnS _ _ _ a3 (parts.take (i + 1)).flatten.length c3 (parts.take (i + 1)).flatten o3
        rw [← hfl, flat_take parts i hi]; exact r1
      · rcases r3 with r3 | r3
        · exact k3 k (r3 ▸ hk)
        · rw [r3] at hk; cases hk; exact k4.size
    · show W.cell? ⟨b, o + i * 1, none⟩ = _
      rw [Nat.mul_one]; exact p2
  · have : i = parts.length := by omega
    subst this
    rw [List.take_length] at k2
    refine ⟨rfl, oa, oc, oo, ?_, k2, k3, k4⟩
    rw [← show (parts.take parts.length).flatten.length = parts.flatten.length by rw [List.take_length]]; rfl

def rxor (c : Int) (key : List Int) : List Int := (padK key).map (fun x => Go.bits .xor .u8 x c)
def rHMAC (key b : List Int) : List Int := rsha (rxor 92 key ++ rsha (rxor 54 key ++ b))
theorem padK_get {key : List Int} {i : Nat} (h : i < key.length) : (padK key).getD i 0 = key.getD i 0 := by
  unfold padK; rw [List.getD_eq_getElem?_getD, List.getElem?_append_left h, ← List.getD_eq_getElem?_getD]
theorem padK_get0 {key : List Int} {i : Nat} (h : key.length ≤ i) : (padK key).getD i 0 = 0 := by
  unfold padK; rw [List.getD_eq_getElem?_getD, List.getElem?_append_right h, List.getElem?_replicate]; split <;> rfl
theorem padK_length {key : List Int} (h : key.length ≤ 64) : (padK key).length = 64 := by simp [padK]; omega

set_option maxHeartbeats 1000000 in
theorem rHMAC_spec {a ba : Option Addr} {l c bl bc : Nat} {key bs : List Int} {w : World} (hr : Row w a .u8 key) (hl : l = key.length) (h64 : l ≤ 64) (hb : Row w ba .u8 bs) (hbl : bl = bs.length) (hbs : bl ≤ 900000) :
    Calls Tryd.prog 27 #[.int .i64 3, .slice a l c, .slice ba bl bc] w fun e w' => ∃ a' c' o', e = .returned (.slice a' 32 c') ∧ OwnS .u8 5 w' a' 32 c' (rHMAC key bs) o' ∧ (∀ k, o' = some k → w.heap.size ≤ k) ∧ Below w.heap.size w w' := by
  refine calls_of_ev tysOk extsOk Tryd.func27 rfl rfl rfl ?_
  refine CallP.same (rblock_spec _) ?_
  (repeat (first | refine IfP.yes ?_ | refine IfP.no ?_ | refine NilP.go ?_))
  refine IfP.neg (decide_eq_false (by omega)) ?_
  refine Mk.to 64 64 rfl rfl (Nat.le_refl _) (by decide) rfl fun w1 m1 b1 s1 => ?_
  refine Mk.to 64 64 rfl rfl (Nat.le_refl _) (by decide) rfl fun w2 m2 b2 s2 => ?_
  have b02 := b1.trans (b2.mono b1.size)
  refine LoopP.go (S := Nat) 2251799545252864 (by kernel_rfl) (fun i => [(10, .int .i64 i)])
    (fun i W => i ≤ 64 ∧ Buf .u8 5 W w.heap.size ((rxor 54 key).take i ++ List.replicate (64 - i) 0) 64 ∧ Buf .u8 5 W w1.heap.size ((rxor 92 key).take i ++ List.replicate (64 - i) 0) 64 ∧ Below w.heap.size w W ∧ w2.heap.size ≤ W.heap.size) (fun i => 64 - i) 0 ⟨rfl, trivial⟩
    ⟨by omega, by simpa using m1.below b2, by simpa using m2, b02, Nat.le_refl _⟩ ?_
  rintro i j W ⟨k1, k2, k3, k4, k5⟩
  have hkl : ∀ c, (rxor c key).length = 64 := fun c => by rw [rxor, List.length_map]; exact padK_length (by omega)
  refine IfP.dec (fun hlt => ?_) (fun hge => ?_)
  · have hi : i < 64 := by omega
    have hnext : IntKind.i64.wrap ((i : Int) + 1) = ((i + 1 : Nat) : Int) := by rw [show (i : Int) + 1 = ((i + 1 : Nat) : Int) by omega]; exact i64_of _ (by omega)
    have hset : ∀ c, ((rxor c key).take i ++ List.replicate (64 - i) 0).set i (Go.bits .xor .u8 ((padK key).getD i 0) c) = (rxor c key).take (i + 1) ++ List.replicate (64 - (i + 1)) 0 := by
      intro c
      rw [show 64 - i = (64 - (i + 1)) + 1 by omega, List.replicate_succ]
      have := set_split ((rxor c key).take i) 0 (Go.bits .xor .u8 ((padK key).getD i 0) c) (List.replicate (64 - (i + 1)) 0)
      rw [show ((rxor c key).take i).length = i by rw [List.length_take, hkl]; omega] at this
      rw [this, List.take_succ_eq_append_getElem (by rw [hkl]; exact hi)]
      have e : (rxor c key)[i]'(by rw [hkl]; exact hi) = Go.bits .xor .u8 ((padK key).getD i 0) c := by
        simp only [rxor, List.getElem_map]
        rw [List.getD_eq_getElem?_getD, List.getElem?_eq_getElem (by rw [padK_length (by omega)]; exact hi)]; rfl
      rw [e]; simp
    have hln : ∀ c, ((rxor c key).take i ++ List.replicate (64 - i) (0 : Int)).length = 64 := fun c => by rw [List.length_append, List.length_take, List.length_replicate, hkl]; omega
    refine IfP.dec (fun hik => ?_) (fun hik => ?_)
    · have hik' : i < key.length := by omega
      refine IdxP.ld i rfl (hr.below k4) hl (by omega) fun _ _ _ => ?_
      rw [← padK_get hik']
      refine IdxP.toBuf i rfl k2 hi (hln 54).symm fun V g1 g2 g3 => ?_
      refine IdxP.toBuf i rfl (k3.chg g2 k3.lt (by omega)) hi (hln 92).symm fun V' g4 g5 g6 => ?_
      rw [hset] at g1 g4
      exact ⟨rfl, i + 1, ⟨⟨congrArg (Value.int .i64) hnext, trivial⟩, by omega, g1.chg g5 g1.lt (by omega), g4, Chg.below (((Chg.of_below (s := fun _ => False) k4).thenC g2 k4.size (fun k hk e => by omega)).thenC g5 (by rw [g3]; exact k4.size) (fun k hk e => by omega)), by omega⟩, by omega⟩
    · have e0 := (padK_get0 (key := key) (i := i) (by omega)).symm
      refine IdxP.toBuf i rfl k2 hi (hln 54).symm fun V g1 g2 g3 => ?_
      refine IdxP.toBuf i rfl (k3.chg g2 k3.lt (by omega)) hi (hln 92).symm fun V' g4 g5 g6 => ?_
      rw [show (Go.bits .xor .u8 0 54) = Go.bits .xor .u8 ((padK key).getD i 0) 54 by rw [← e0], hset] at g1
      rw [show (Go.bits .xor .u8 0 92) = Go.bits .xor .u8 ((padK key).getD i 0) 92 by rw [← e0], hset] at g4
      exact ⟨rfl, i + 1, ⟨⟨congrArg (Value.int .i64) hnext, trivial⟩, by omega, g1.chg g5 g1.lt (by omega), g4, Chg.below (((Chg.of_below (s := fun _ => False) k4).thenC g2 k4.size (fun k hk e => by omega)).thenC g5 (by rw [g3]; exact k4.size) (fun k hk e => by omega)), by omega⟩, by omega⟩
  · have hi : i = 64 := by omega
    subst hi
    have hws : w.heap.size < w1.heap.size := by omega
    rw [List.take_of_length_le (by rw [hkl]; omega), Nat.sub_self, List.replicate_zero, List.append_nil] at k2 k3
    have k2s : OwnS .u8 5 W (some ⟨w.heap.size, 0, none⟩) 64 64 (rxor 54 key) (some w.heap.size) := ⟨rfl, (hkl 54).symm, k2⟩
    refine RdP.row' (hb.below k4) ((Nat.mul_one bl).trans hbl) ?_
    refine App.own k2s hbl (by omega) (by decide) fun a3 c3 o3 w3 r1 r2 r3 => ?_
    have b3 : Below w.heap.size w w3 := Chg.below ((Chg.of_below (s := fun _ => False) k4).thenC r2 k4.size (fun k hk e => by cases e; omega))
    have k33 := k3.chg r2 k3.lt (by intro e; have := Option.some.inj e; omega)
    refine CallP.intro (rof_spec r1.row r1.len (by omega)) ?_
    rintro e w4 ⟨a4, c4, o4, rfl, t1, t2, t3⟩
    refine ⟨_, rfl, ?_⟩
    have b4 := b3.trans (t3.mono b3.size)
    have k34s : OwnS .u8 5 w4 (some ⟨w1.heap.size, 0, none⟩) 64 64 (rxor 92 key) (some w1.heap.size) := ⟨rfl, (hkl 92).symm, k33.below t3⟩
    refine RdP.row' t1.row (rsha_length _).symm ?_
    refine App.own k34s (rsha_length _).symm (by omega) (by decide) fun a5 c5 o5 w5 q1 q2 q3 => ?_
    have b5 : Below w.heap.size w w5 := Chg.below ((Chg.of_below (s := fun _ => False) b4).thenC q2 b4.size (fun k hk e => by cases e; omega))
    refine CallP.intro (rof_spec q1.row q1.len (by omega)) ?_
    rintro e w6 ⟨a6, c6, o6, rfl, u1, u2, u3⟩
    exact ⟨_, rfl, rfl, a6, c6, o6, rfl, u1, fun k hk => Nat.le_trans b5.size (u2 k hk), b5.trans (u3.mono b5.size)⟩

def rhmac (key : List Int) (parts : List (List Int)) : List Int := rHMAC key parts.flatten
theorem rhmac_length {key : List Int} {parts : List (List Int)} : (rhmac key parts).length = 32 := rsha_length _
theorem rhmac_spec {a pa : Option Addr} {l c pl pc : Nat} {key : List Int} {parts : List (List Int)} {w : World} (hr : Row w a .u8 key) (hl : l = key.length) (h64 : l ≤ 64)
    (hp : Parts w pa parts) (hpl : pl = parts.length) (h9 : pl ≤ 5) (hs : ∀ x ∈ parts, x.length ≤ 100000) :
    Calls Tryd.prog 20 #[.slice a l c, .slice pa pl pc] w fun e w' => ∃ a' c' o', e = .returned (.slice a' 32 c') ∧ OwnS .u8 5 w' a' 32 c' (rhmac key parts) o' ∧ (∀ k, o' = some k → w.heap.size ≤ k) ∧ Below w.heap.size w w' := by
  refine calls_of_ev tysOk extsOk Tryd.func20 rfl rfl rfl ?_
  refine CallP.intro (join_spec hp hpl h9 hs) ?_
  rintro e w1 ⟨a1, c1, o1, rfl, t1, t2, t3⟩
  refine ⟨_, rfl, ?_⟩
  have hf : parts.flatten.length ≤ 500000 := by
    have := flat_le parts hs parts.length
    rw [List.take_length] at this
    have : parts.length ≤ 5 := by omega
    omega
  refine CallP.intro (rHMAC_spec (hr.below t3) hl h64 t1.row rfl (by omega)) ?_
  rintro e w2 ⟨a2, c2, o2, rfl, u1, u2, u3⟩
  exact ⟨_, rfl, rfl, a2, c2, o2, rfl, u1, fun k hk => Nat.le_trans t3.size (u2 k hk), t3.trans (u3.mono t3.size)⟩
end Go.Proofs.YthghiokcinpnlaaDoor
