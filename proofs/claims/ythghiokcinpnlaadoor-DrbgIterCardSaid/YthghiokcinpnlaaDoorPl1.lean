import Derived.Test.YthghiokcinpnlaaDoorRf6
namespace Go.Proofs.YthghiokcinpnlaaDoor
open Go Go.Ev Go.RowKit
set_option maxRecDepth 20000
set_option linter.unusedVariables false
set_option linter.unusedSimpArgs false

/-! ### plain law: both HMACs are one -/
theorem or_comm32 (a b : Int) : Go.bits .or .u32 a b = Go.bits .or .u32 b a := by
  unfold Go.bits
  simp only [BitVec.or_comm]
theorem rot_eq (x : Int) (n : Int) (m : Nat) (h1 : (Go.bits .and .u64 (IntKind.u64.wrap (-n)) 31).toNat = m) (h2 : (IntKind.u64.wrap (32 - Go.bits .and .u64 (IntKind.u64.wrap (-n)) 31)).toNat = n.toNat) (h3 : (IntKind.u64.wrap (32 - n)).toNat = m) : rotl32 x (-n) = rr32 x n := by
  unfold rotl32 rr32
  rw [h1, h2, h3, or_comm32]
theorem rot7 (x : Int) : rotl32 x (-7) = rr32 x 7 := rot_eq x 7 25 (by decide) (by decide) (by decide)
theorem sig0_eq (x : Int) : sig0 x = rsig0 x := by
  unfold sig0 rsig0
  rw [rot7, rot_eq x 18 14 (by decide) (by decide) (by decide)]
theorem sig1_eq (x : Int) : sig1 x = rsig1 x := by
  unfold sig1 rsig1
  rw [rot_eq x 17 15 (by decide) (by decide) (by decide), rot_eq x 19 13 (by decide) (by decide) (by decide)]
theorem big1_eq (x : Int) : big1 x = rbig1 x := by
  unfold big1 rbig1
  rw [rot_eq x 6 26 (by decide) (by decide) (by decide), rot_eq x 11 21 (by decide) (by decide) (by decide), rot_eq x 25 7 (by decide) (by decide) (by decide)]
theorem big0_eq (x : Int) : big0 x = rbig0 x := by
  unfold big0 rbig0
  rw [rot_eq x 2 30 (by decide) (by decide) (by decide), rot_eq x 13 19 (by decide) (by decide) (by decide), rot_eq x 22 10 (by decide) (by decide) (by decide)]
theorem sched_eq (p p' : List Int) (h : ∀ i, i < 64 → p.getD i 0 = p'.getD i 0) : ∀ i, sched p i = rsched p' i
  | 0 => rfl
  | i + 1 => by
    rw [sched, rsched, sched_eq p p' h i]
    congr 2
    unfold nextW rnextW
    by_cases hi : i < 16
    · rw [if_pos hi, if_pos hi, h _ (by omega), h _ (by omega), h _ (by omega), h _ (by omega)]
    · rw [if_neg hi, if_neg hi, sig0_eq, sig1_eq]
def KtOk (kt : List Int) : Prop := ∀ i, i < 64 → IntKind.u32.wrap ((kt.getD i 0).fdiv (2 ^ (min (32 : Int).toNat 64))) = k256L.getD i 0
theorem rnd_eq (v : List Int) (kk k' x : Int) (h : IntKind.u32.wrap (kk.fdiv (2 ^ (min (32 : Int).toNat 64))) = k') : rnd v kk x = rrnd v k' x := by
  have e1 : t1 v kk x = rt1 v k' x := by unfold t1 rt1; rw [h, big1_eq]
  have e2 : t2 v = rt2 v := by unfold t2 rt2; rw [big0_eq]
  unfold rnd rrnd
  rw [e1, e2]
theorem rnds_eq {kt : List Int} (hk : KtOk kt) (W v : List Int) : ∀ i, i ≤ 64 → rnds kt W v i = rrnds W v i
  | 0, _ => rfl
  | i + 1, h => by rw [rnds, rrnds, rnds_eq hk W v i (by omega), rnd_eq _ _ _ _ (hk i (by omega))]
def U32 (l : List Int) : Prop := ∀ x ∈ l, 0 ≤ x ∧ x < 4294967296
theorem wrap32_id {x : Int} (h : 0 ≤ x ∧ x < 4294967296) : IntKind.u32.wrap x = x := IntWalk.u32_in _ ⟨h.1, by omega⟩
theorem wrap32_in (x : Int) : 0 ≤ IntKind.u32.wrap x ∧ IntKind.u32.wrap x < 4294967296 := by rw [IntKind.wrap_u32]; omega
theorem addH_eq {h x : Int} (hh : 0 ≤ h ∧ h < 4294967296) : addH h x = IntKind.u32.wrap (h + x) := by
  unfold addH
  rw [wrap32_id hh]
  have := wrap32_in (h + x)
  exact IntWalk.u64_in _ ⟨this.1, by omega⟩
theorem U32.getD {l : List Int} (h : U32 l) (i : Nat) : 0 ≤ l.getD i 0 ∧ l.getD i 0 < 4294967296 := by
  rw [List.getD_eq_getElem?_getD]
  cases hx : l[i]? with
  | none => exact ⟨by simp, by simp⟩
  | some v => exact h v (List.mem_of_getElem? hx)
theorem rsumTo_u32 {h v : List Int} (hh : U32 h) : ∀ i, U32 (rsumTo h v i)
  | 0 => hh
  | i + 1 => fun x hx => by
    rcases List.mem_or_eq_of_mem_set hx with hx | rfl
    · exact rsumTo_u32 hh i x hx
    · exact wrap32_in _
theorem sumTo_eq {h v : List Int} (hh : U32 h) : ∀ i, sumTo h v i = rsumTo h v i
  | 0 => rfl
  | i + 1 => by
    rw [sumTo, rsumTo, sumTo_eq hh i, addH_eq ((rsumTo_u32 hh i).getD i)]
theorem map_wrap32 {h : List Int} (hh : U32 h) : h.map IntKind.u32.wrap = h := by
  conv => rhs; rw [← List.map_id h]
  exact List.map_congr_left fun x hx => wrap32_id (hh x hx)
theorem compress_eq {kt : List Int} (hk : KtOk kt) {h p p' : List Int} (hh : U32 h) (hp : ∀ i, i < 64 → p.getD i 0 = p'.getD i 0) : compress kt h p = rcompress h p' := by
  unfold compress rcompress
  rw [map_wrap32 hh, rnds_eq hk _ _ 64 (by omega), sched_eq p p' hp, sumTo_eq hh]
theorem absorb_eq {kt : List Int} (hk : KtOk kt) {h m : List Int} (hh : U32 h) : ∀ i, absorb kt h m i = rfold h m i ∧ U32 (rfold h m i)
  | 0 => ⟨rfl, hh⟩
  | i + 1 => by
    obtain ⟨e, u⟩ := absorb_eq hk hh (m := m) i
    refine ⟨?_, rsumTo_u32 u 8⟩
    rw [absorb, rfold, e]
    refine compress_eq hk u fun j hj => ?_
    rw [List.getD_eq_getElem?_getD, List.getD_eq_getElem?_getD, List.getElem?_take_of_lt hj]
/-! streaming -/
theorem absorb_add (kt hs all : List Int) (q : Nat) : ∀ i, absorb kt hs all (q + i) = absorb kt (absorb kt hs all q) (all.drop (64 * q)) i
  | 0 => rfl
  | i + 1 => by
    rw [← Nat.add_assoc, absorb, absorb, absorb_add kt hs all q i, List.drop_drop, Nat.mul_add]
theorem absorb_congr (kt hs : List Int) {a b : List Int} : ∀ q, a.take (64 * q) = b.take (64 * q) → absorb kt hs a q = absorb kt hs b q
  | 0, _ => rfl
  | q + 1, h => by
    have h1 : a.take (64 * q) = b.take (64 * q) := by
      have := congrArg (List.take (64 * q)) h
      rwa [List.take_take, List.take_take, Nat.min_eq_left (by omega)] at this
    have h2 : (a.drop (64 * q)).take 64 = (b.drop (64 * q)).take 64 := by
      have := congrArg (List.drop (64 * q)) h
      rwa [List.drop_take, List.drop_take, show 64 * (q + 1) - 64 * q = 64 by omega] at this
    rw [absorb, absorb, absorb_congr kt hs q h1, h2]
theorem mix_stream (kt hs m bs : List Int) : mixH kt (mixH kt hs m) (mixR m ++ bs) = mixH kt hs (m ++ bs) ∧ mixR (mixR m ++ bs) = mixR (m ++ bs) := by
  have hR : mixR m ++ bs = (m ++ bs).drop (64 * (m.length / 64)) := by
    unfold mixR; rw [List.drop_append_of_le_length (by omega)]
  have hl : (m ++ bs).length / 64 = m.length / 64 + (mixR m ++ bs).length / 64 := by
    unfold mixR; simp only [List.length_append, List.length_drop]; omega
  constructor
  · unfold mixH
    rw [hl, absorb_add, ← hR]
    congr 1
    refine absorb_congr kt hs _ ?_
    rw [List.take_append_of_le_length (by omega)]
  · show (mixR m ++ bs).drop (64 * ((mixR m ++ bs).length / 64)) = (m ++ bs).drop (64 * ((m ++ bs).length / 64))
    rw [hl, Nat.mul_add, ← List.drop_drop, ← hR]
/-- the state behind a message. -/
def St (kt m : List Int) : HS := (mixH kt start m, mixR m, IntKind.u64.wrap m.length)
theorem feed_St (kt m bs : List Int) : feed kt (St kt m) bs = St kt (m ++ bs) := by
  obtain ⟨h1, h2⟩ := mix_stream kt start m bs
  unfold feed St
  simp only
  rw [h1, h2]
  congr 2
  rw [IntKind.wrap_u64, IntKind.wrap_u64, IntKind.wrap_u64, IntKind.wrap_u64, List.length_append]
  omega
theorem feeds_St (kt : List Int) : ∀ (parts : List (List Int)) (m : List Int), parts.foldl (feed kt) (St kt m) = St kt (m ++ parts.flatten)
  | [], m => by simp
  | x :: r, m => by rw [List.foldl_cons, feed_St, feeds_St kt r, List.flatten_cons, List.append_assoc]
theorem keyS_St (kt : List Int) (c : Int) (key : List Int) : keyS kt c key = St kt (xorK c key) := feed_St kt [] (xorK c key)
theorem start_eq : start = rH0 := by decide
theorem rH0_u32 : U32 rH0 := by intro x hx; revert x; decide
theorem byte_eq (n k s : Nat) (hs : s ≤ 64) (h : 2 ^ s = 256 ^ k) : IntKind.u8.wrap ((n : Int).fdiv (2 ^ s)) = ((n / 256 ^ k % 256 : Nat) : Int) := by
  rw [fdiv_pow, h, IntKind.wrap_u8]; omega
theorem be64_digs (n : Nat) : be64 (n : Int) = digs n 8 := by
  unfold be64 b8 digs digs digs digs digs digs digs digs digs
  simp only [List.cons.injEq, and_true]
  refine ⟨byte_eq n 7 56 (by decide) (by decide), byte_eq n 6 48 (by decide) (by decide), byte_eq n 5 40 (by decide) (by decide), byte_eq n 4 32 (by decide) (by decide), byte_eq n 3 24 (by decide) (by decide), byte_eq n 2 16 (by decide) (by decide), byte_eq n 1 8 (by decide) (by decide), ?_⟩
  rw [IntKind.wrap_u8]; omega
theorem pad_eq (m : List Int) (h : m.length ≤ 1000000000) : m ++ padding (mixR m).length (IntKind.u64.wrap m.length) = padded m := by
  have hr : (mixR m).length = m.length % 64 := by unfold mixR; rw [List.length_drop]; omega
  have hz : padLen (m.length % 64) - 1 = zPad m.length := by unfold padLen zPad; split <;> omega
  have hn : IntKind.u64.wrap (IntKind.u64.wrap (m.length : Int) * 2 ^ (min (3 : Int).toNat IntKind.u64.bits)) = ((m.length * 8 : Nat) : Int) := by
    rw [u64_of _ (by omega), show ((2 : Int) ^ (min (3 : Int).toNat IntKind.u64.bits)) = 8 by decide, show ((m.length : Int) * 8) = ((m.length * 8 : Nat) : Int) by omega]
    exact u64_of _ (by omega)
  unfold padding padded
  rw [hr, hz, hn, be64_digs]
  simp
theorem out_eq {H : List Int} (hH : U32 H) : ∀ i, outTo H i = wordsTo H i
  | 0 => rfl
  | i + 1 => by rw [outTo, wordsTo, out_eq hH i, wrap32_id (hH.getD i)]
theorem hsum_St {kt : List Int} (hk : KtOk kt) {m : List Int} (h : m.length ≤ 1000000000) : hsum kt (St kt m) = rsha m := by
  obtain ⟨h1, h2⟩ := mix_stream kt start m (padding (mixR m).length (IntKind.u64.wrap m.length))
  show outTo (mixH kt (mixH kt start m) (mixR m ++ padding (mixR m).length (IntKind.u64.wrap m.length))) 8 = _
  rw [h1, pad_eq m h]
  obtain ⟨e, u⟩ := absorb_eq hk rH0_u32 (m := padded m) ((padded m).length / 64)
  unfold mixH
  rw [start_eq, e, out_eq u]; rfl
theorem hmac_eq {kt : List Int} (hk : KtOk kt) {key : List Int} {parts : List (List Int)} (hl : key.length ≤ 64) (h : parts.flatten.length ≤ 900000) : hmac kt key parts = rhmac key parts := by
  have hx : ∀ c, (xorK c key).length = 64 := fun c => by rw [xorK, List.length_map]; exact padK_length hl
  have e1 : hsum kt (parts.foldl (feed kt) (keyS kt 54 key)) = rsha (rxor 54 key ++ parts.flatten) := by
    rw [keyS_St, feeds_St, hsum_St hk (by rw [List.length_append, hx]; omega)]; rfl
  unfold hmac
  rw [e1, keyS_St, feed_St, hsum_St hk (by rw [List.length_append, hx, rsha_length]; omega)]
  rfl
/-! the generators -/
theorem updKV_eq {kt : List Int} (hk : KtOk kt) {K V data : List Int} (hK : K.length ≤ 64) (hV : V.length = 32) (hd : data.length ≤ 100000) : updKV kt (K, V) data = rupdKV (K, V) data := by
  unfold updKV rupdKV
  simp only
  have e1 : hmac kt K [V, [0], data] = rhmac K [V, [0], data] := hmac_eq hk hK (by simp; omega)
  have e2 : hmac kt (rhmac K [V, [0], data]) [V] = rhmac (rhmac K [V, [0], data]) [V] := hmac_eq hk (by rw [rhmac_length]; omega) (by simp; omega)
  rw [e1, e2]
  have e3 : hmac kt (rhmac K [V, [0], data]) [rhmac (rhmac K [V, [0], data]) [V], [1], data] = rhmac (rhmac K [V, [0], data]) [rhmac (rhmac K [V, [0], data]) [V], [1], data] := hmac_eq hk (by rw [rhmac_length]; omega) (by simp [rhmac_length]; omega)
  rw [e3, hmac_eq hk (by rw [rhmac_length]; omega) (by simp [rhmac_length])]
theorem newKV_eq {kt : List Int} (hk : KtOk kt) {data : List Int} (hd : data.length ≤ 100000) : newKV kt data = rnewKV data := updKV_eq hk (by decide) (by decide) hd
theorem vIt_eq {kt : List Int} (hk : KtOk kt) {K V : List Int} (hK : K.length ≤ 64) (hV : V.length = 32) : ∀ i, vIt kt K V i = rvIt K V i
  | 0 => rfl
  | i + 1 => by rw [vIt, rvIt, vIt_eq hk hK hV i, hmac_eq hk hK (by simp [rvIt_length hV])]
theorem outIt_eq {kt : List Int} (hk : KtOk kt) {K V : List Int} (hK : K.length ≤ 64) (hV : V.length = 32) : ∀ i, outIt kt K V i = routIt K V i
  | 0 => rfl
  | i + 1 => by rw [outIt, routIt, outIt_eq hk hK hV i, vIt_eq hk hK hV]
theorem bytesOf_eq {kt : List Int} (hk : KtOk kt) {K V : List Int} (hK : K.length ≤ 64) (hV : V.length = 32) (n : Nat) : bytesOf kt K V n = rbytesOf K V n := by unfold bytesOf rbytesOf; rw [outIt_eq hk hK hV]
theorem bytesSt_eq {kt : List Int} (hk : KtOk kt) {K V : List Int} (hK : K.length ≤ 64) (hV : V.length = 32) (n : Nat) : bytesSt kt K V n = rbytesSt K V n := by
  unfold bytesSt rbytesSt; rw [vIt_eq hk hK hV, updKV_eq hk hK (rvIt_length hV _) (by simp)]
theorem rupdKV_length {K V data : List Int} : (rupdKV (K, V) data).1.length = 32 ∧ (rupdKV (K, V) data).2.length = 32 := by
  unfold rupdKV
  simp only
  split <;> exact ⟨rhmac_length, rhmac_length⟩
end Go.Proofs.YthghiokcinpnlaaDoor
