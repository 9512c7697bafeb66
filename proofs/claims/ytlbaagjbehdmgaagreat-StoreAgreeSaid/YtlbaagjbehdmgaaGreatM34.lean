/- Pages that are read back: the fields of roots, of pages of entries, of pages of the index. A state that stands on its pages is read from them. What a change writes, and that the new state is legal. Disks: calls that are not interrupted; a store that stands; Make and Open. The order of bodies, the least entry, entries by houses. -/
import Derived.Test.YtlbaagjbehdmgaaGreatM30
import Derived.Test.YtlbaagjbehdmgaaGreatM33
import Derived.Test.YtlbaagjbehdmgaaGreatM24
import Derived.Test.YtlbaagjbehdmgaaGreatM22
namespace Go.Proofs.YtlbaagjbehdmgaaGreat
theorem num_low (k n : Nat) : num (low k n) = n % 256 ^ k := by
  induction k generalizing n with
  | zero => simp [low, num, Nat.mod_one]
  | succ k ih =>
    have e : low (k + 1) n = UInt8.ofNat (n % 256) :: low k (n / 256) := by
      simp only [low, List.range_succ_eq_map, List.map_cons, List.map_map, Nat.pow_zero, Nat.div_one, List.cons.injEq, true_and]
      apply List.map_congr_left
      intro i _
      simp only [Function.comp_apply, Nat.succ_eq_add_one]
      rw [Nat.div_div_eq_div_mul, Nat.pow_succ, Nat.mul_comm]
    rw [e]
    simp only [num, ih, UInt8.toNat_ofNat']
    have h8 : n % 256 % 2 ^ 8 = n % 256 := Nat.mod_eq_of_lt (Nat.mod_lt _ (by decide))
    rw [h8, show 256 ^ (k + 1) = 256 * 256 ^ k by rw [Nat.pow_succ, Nat.mul_comm], Nat.mod_mul]
/-- what was laid is read -/
theorem lay_read {α : Type} (xs : List α) (o : Nat) (l : List α) (h : o + l.length ≤ xs.length) : ((lay xs o l).drop o).take l.length = l := by
  apply List.ext_getElem?
  intro j
  by_cases hj : j < l.length
  · rw [List.getElem?_take_of_lt hj, List.getElem?_drop, lay_get _ _ _ _ h, if_pos (by omega), Nat.add_sub_cancel_left]
  · rw [List.getElem?_eq_none (by simp; omega), List.getElem?_eq_none (by omega)]
/-- what lies apart of it is read as it was -/
theorem lay_apart {α : Type} (xs : List α) (o : Nat) (l : List α) (a k : Nat) (h : o + l.length ≤ xs.length) (hd : a + k ≤ o ∨ o + l.length ≤ a) : ((lay xs o l).drop a).take k = (xs.drop a).take k := by
  apply List.ext_getElem?
  intro j
  by_cases hj : j < k
  · rw [List.getElem?_take_of_lt hj, List.getElem?_take_of_lt hj, List.getElem?_drop, List.getElem?_drop, lay_get _ _ _ _ h, if_neg (by omega)]
  · rw [List.getElem?_eq_none (by simp; omega), List.getElem?_eq_none (by simp; omega)]
theorem lay_get_apart {α : Type} (xs : List α) (o : Nat) (l : List α) (a : Nat) (h : o + l.length ≤ xs.length) (hd : a < o ∨ o + l.length ≤ a) : (lay xs o l)[a]? = xs[a]? := by
  rw [lay_get _ _ _ _ h, if_neg (by omega)]
theorem lay_take {α : Type} (xs : List α) (o : Nat) (l : List α) (k : Nat) (h : o + l.length ≤ xs.length) (hd : k ≤ o) : (lay xs o l).take k = xs.take k := by
  have := lay_apart xs o l 0 k h (Or.inl (by omega))
  simpa using this
theorem zeros_length (n : Nat) : (zeros n).length = n := by simp [zeros]

/-! ### a page with its sum -/
theorem seal_take {p : List UInt8} (hp : p.length = 64) (at_ k : Nat) (h : k ≤ 56) : (sealP at_ p).take k = p.take k := lay_take _ _ _ _ (by simp [hp]) h
theorem seal_mid {p : List UInt8} (hp : p.length = 64) (at_ a k : Nat) (h : a + k ≤ 56) : ((sealP at_ p).drop a).take k = (p.drop a).take k := lay_apart _ _ _ _ _ (by simp [hp]) (Or.inl h)
theorem seal_get {p : List UInt8} (hp : p.length = 64) (at_ a : Nat) (h : a < 56) : (sealP at_ p)[a]? = p[a]? := lay_get_apart _ _ _ _ (by simp [hp]) (Or.inl h)
theorem sumOf_congr {p q : List UInt8} (at_ : Nat) (h : p.take 56 = q.take 56) : sumOf p at_ = sumOf q at_ := by unfold sumOf; rw [h]
theorem sumOf_lt (p : List UInt8) (at_ : Nat) : sumOf p at_ < 18446744073709551616 := fnv_lt _
theorem seal_sound {p : List UInt8} (hp : p.length = 64) (at_ : Nat) : soundP at_ (sealP at_ p) = true := by
  have h1 : (sealP at_ p).drop 56 = low 8 (sumOf p at_) := by
    have := lay_read p 56 (low 8 (sumOf p at_)) (by simp [hp])
    rw [low_length] at this
    unfold sealP
    rw [List.take_of_length_le (by rw [List.length_drop, lay_length _ _ _ (by simp [hp]), hp]; exact Nat.le_refl _)] at this
    exact this
  unfold soundP
  rw [h1, num_low, sumOf_congr at_ (seal_take hp at_ 56 (Nat.le_refl _)), Nat.mod_eq_of_lt (sumOf_lt p at_)]
  simp

/-! ### the root -/
theorem low2_num (n : Nat) (h : n < 65536) : num (low 2 n) = n := by rw [num_low]; exact Nat.mod_eq_of_lt h
theorem low8_num (n : Nat) (h : n < 18446744073709551616) : num (low 8 n) = n := by rw [num_low]; exact Nat.mod_eq_of_lt h
def rr1 (S : St) : List UInt8 := lay (zeros 64) 0 (low 8 S.gen)
def rr2 (S : St) : List UInt8 := lay (rr1 S) 8 [UInt8.ofNat S.houses]
def rr3 (S : St) : List UInt8 := lay (rr2 S) 9 (low 2 S.entries.length)
theorem rr1_length (S : St) : (rr1 S).length = 64 := by unfold rr1; rw [lay_length _ _ _ (by simp [zeros])]; simp [zeros]
theorem rr2_length (S : St) : (rr2 S).length = 64 := by unfold rr2; rw [lay_length _ _ _ (by simp [rr1_length])]; exact rr1_length S
theorem rr3_length (S : St) : (rr3 S).length = 64 := by unfold rr3; rw [lay_length _ _ _ (by simp [rr2_length])]; exact rr2_length S
theorem rootRaw_cases (S : St) : (S.index = [] ∧ rootRaw S = rr3 S) ∨ ∃ x l, S.index = x :: l ∧ rootRaw S = lay (rr3 S) 11 (low 2 x) := by
  unfold rootRaw
  cases h : S.index with
  | nil => exact .inl ⟨rfl, rfl⟩
  | cons x l => exact .inr ⟨x, l, rfl, rfl⟩
theorem zeros_mid (n a k : Nat) (h : a + k ≤ n) : ((zeros n).drop a).take k = zeros k := by
  simp only [zeros, List.drop_replicate, List.take_replicate]
  congr 1; omega
theorem rootRaw_low (S : St) : (∀ a k, a + k ≤ 11 → ((rootRaw S).drop a).take k = ((rr3 S).drop a).take k) ∧ (∀ a, a < 11 → (rootRaw S)[a]? = (rr3 S)[a]?) := by
  rcases rootRaw_cases S with ⟨_, h⟩ | ⟨x, l, _, h⟩
  · rw [h]; exact ⟨fun _ _ _ => rfl, fun _ _ => rfl⟩
  · rw [h]
    exact ⟨fun a k hk => lay_apart _ _ _ _ _ (by simp [rr3_length]) (Or.inl hk), fun a ha => lay_get_apart _ _ _ _ (by simp [rr3_length]) (Or.inl ha)⟩
theorem root_gen (S : St) (h : S.gen < 18446744073709551616) : num ((rootRaw S).take 8) = S.gen := by
  have h1 := (rootRaw_low S).1 0 8 (by omega)
  simp only [List.drop_zero] at h1
  rw [h1]
  have h2 : (rr3 S).take 8 = (rr1 S).take 8 := by
    unfold rr3 rr2
    rw [lay_take _ _ _ _ (by have := rr2_length S; unfold rr2 at this; simp [this]) (by omega), lay_take _ _ _ _ (by simp [rr1_length]) (by omega)]
  have h3 := lay_read (zeros 64) 0 (low 8 S.gen) (by simp [zeros])
  rw [low_length, List.drop_zero] at h3
  rw [h2]
  unfold rr1
  rw [h3, low8_num _ h]
theorem root_houses (S : St) (h : S.houses < 256) : (((rootRaw S)[8]?).getD 0).toNat = S.houses := by
  rw [(rootRaw_low S).2 8 (by omega)]
  unfold rr3
  rw [lay_get_apart _ _ _ _ (by simp [rr2_length]) (by omega)]
  unfold rr2
  rw [lay_get _ _ _ _ (by simp [rr1_length]), if_pos (by simp)]
  simp [Nat.mod_eq_of_lt h]
theorem root_many (S : St) (h : S.entries.length < 65536) : num (((rootRaw S).drop 9).take 2) = S.entries.length := by
  rw [(rootRaw_low S).1 9 2 (by omega)]
  have h3 := lay_read (rr2 S) 9 (low 2 S.entries.length) (by simp [rr2_length])
  rw [low_length] at h3
  unfold rr3
  rw [h3, low2_num _ h]
theorem num_zeros : ∀ k, num (zeros k) = 0
  | 0 => rfl
  | k + 1 => by
    have : zeros (k + 1) = 0 :: zeros k := rfl
    rw [this]
    simp [num, num_zeros k]
theorem rr3_tail (S : St) (a k : Nat) (ha : 11 ≤ a) (h : a + k ≤ 64) : ((rr3 S).drop a).take k = zeros k := by
  unfold rr3
  rw [lay_apart _ _ _ _ _ (by simp [rr2_length]) (Or.inr (by simp; omega))]
  unfold rr2
  rw [lay_apart _ _ _ _ _ (by simp [rr1_length]) (Or.inr (by simp; omega))]
  unfold rr1
  rw [lay_apart _ _ _ _ _ (by simp [zeros]) (Or.inr (by simp; omega)), zeros_mid _ _ _ h]
theorem root_index (S : St) (h : ∀ x ∈ S.index, x < 65536) : num (((rootRaw S).drop 11).take 2) = S.index.headD 0 := by
  rcases rootRaw_cases S with ⟨e, hr⟩ | ⟨x, l, e, hr⟩
  · rw [hr, rr3_tail S 11 2 (Nat.le_refl _) (by omega), num_zeros, e]; rfl
  · have h3 := lay_read (rr3 S) 11 (low 2 x) (by simp [rr3_length])
    rw [low_length] at h3
    rw [hr, h3, low2_num _ (h x (by rw [e]; exact List.mem_cons_self)), e]; rfl
theorem seal_rootf (S : St) : rGen (sealP S.at_ (rootRaw S)) = num ((rootRaw S).take 8) ∧ rHouses (sealP S.at_ (rootRaw S)) = (((rootRaw S)[8]?).getD 0).toNat ∧ rMany (sealP S.at_ (rootRaw S)) = num (((rootRaw S).drop 9).take 2) ∧ rIndex (sealP S.at_ (rootRaw S)) = num (((rootRaw S).drop 11).take 2) := by
  have hl := rootRaw_length S
  refine ⟨?_, ?_, ?_, ?_⟩
  · unfold rGen; rw [seal_take hl _ _ (by omega)]
  · unfold rHouses; rw [seal_get hl _ _ (by omega)]
  · unfold rMany; rw [seal_mid hl _ _ _ (by omega)]
  · unfold rIndex; rw [seal_mid hl _ _ _ (by omega)]

/-! ### parts of lists: pages with a next one, a number, a content -/
def partRaw (nx : Nat) (m : Nat) : List UInt8 := lay (lay (zeros 64) 0 (low 2 nx)) 2 [UInt8.ofNat m]
theorem partRaw_length (nx : Nat) (m : Nat) : (partRaw nx m).length = 64 := by
  unfold partRaw
  have h1 : (lay (zeros 64) 0 (low 2 nx)).length = 64 := by rw [lay_length _ _ _ (by simp [zeros]), zeros_length]
  rw [lay_length _ _ _ (by rw [h1]; simp), h1]
theorem part_next (nx m : Nat) (h : nx < 65536) : num ((partRaw nx m).take 2) = nx := by
  unfold partRaw
  have h1 : (lay (zeros 64) 0 (low 2 nx)).length = 64 := by rw [lay_length _ _ _ (by simp [zeros]), zeros_length]
  rw [lay_take _ _ _ _ (by rw [h1]; simp) (by omega)]
  have h3 := lay_read (zeros 64) 0 (low 2 nx) (by simp [zeros])
  rw [low_length, List.drop_zero] at h3
  rw [h3, low2_num _ h]
theorem part_many (nx m : Nat) (h : m < 256) : (((partRaw nx m)[2]?).getD 0).toNat = m := by
  unfold partRaw
  have h1 : (lay (zeros 64) 0 (low 2 nx)).length = 64 := by rw [lay_length _ _ _ (by simp [zeros]), zeros_length]
  rw [lay_get _ _ _ _ (by rw [h1]; simp), if_pos (by simp)]
  simp [Nat.mod_eq_of_lt h]
/-- a page of an entry -/
theorem piece_next (pages : List Nat) (e : Ent) (i at_ : Nat) (h : nextOf pages i < 65536) : nextPg (sealP at_ (pieceRaw pages e i)) = nextOf pages i := by
  have hl := pieceRaw_length pages e i
  unfold nextPg
  rw [seal_take hl _ _ (by omega)]
  show num ((lay (partRaw (nextOf pages i) (pieceOf e i).length) 3 (pieceOf e i)).take 2) = _
  rw [lay_take _ _ _ _ (by rw [partRaw_length]; have := pieceOf_le e i; omega) (by omega), part_next _ _ h]
theorem piece_many (pages : List Nat) (e : Ent) (i at_ : Nat) : manyOf (sealP at_ (pieceRaw pages e i)) = (pieceOf e i).length := by
  have hl := pieceRaw_length pages e i
  unfold manyOf
  rw [seal_get hl _ _ (by omega)]
  show (((lay (partRaw (nextOf pages i) (pieceOf e i).length) 3 (pieceOf e i))[2]?).getD 0).toNat = _
  have := pieceOf_le e i
  rw [lay_get_apart _ _ _ _ (by rw [partRaw_length]; omega) (by omega), part_many _ _ (by omega)]
theorem piece_content (pages : List Nat) (e : Ent) (i at_ : Nat) : contentOf (sealP at_ (pieceRaw pages e i)) = pieceOf e i := by
  have hl := pieceRaw_length pages e i
  have := pieceOf_le e i
  unfold contentOf
  rw [piece_many, seal_mid hl _ _ _ (by omega)]
  exact lay_read (partRaw (nextOf pages i) (pieceOf e i).length) 3 (pieceOf e i) (by rw [partRaw_length]; omega)
/-- a page of the index -/
theorem nameInto_low (l : List Placed) (p : List UInt8) (hp : p.length = 64) : ∀ k, k ≤ 26 → (nameInto l k p).take 2 = p.take 2 ∧ (nameInto l k p)[2]? = p[2]? := by
  intro k
  induction k with
  | zero => intro _; exact ⟨rfl, rfl⟩
  | succ k ih =>
    intro hk
    have hl := nameInto_length l p hp k (by omega)
    rw [nameInto_succ, lay_take _ _ _ _ (by rw [hl, low_length]; omega) (by omega), lay_get_apart _ _ _ _ (by rw [hl, low_length]; omega) (by omega)]
    exact ih (by omega)
theorem nameInto_get (l : List Placed) (p : List UInt8) (hp : p.length = 64) (j : Nat) : ∀ k, k ≤ 26 → j < k → ((nameInto l k p).drop (3 + 2 * j)).take 2 = low 2 (firstOf l j) := by
  intro k
  induction k with
  | zero => intro _ h; omega
  | succ k ih =>
    intro hk hj
    have hl := nameInto_length l p hp k (by omega)
    rw [nameInto_succ]
    by_cases e : j = k
    · subst e
      have := lay_read (nameInto l j p) (3 + 2 * j) (low 2 (firstOf l j)) (by rw [hl, low_length]; omega)
      rwa [low_length] at this
    · rw [lay_apart _ _ _ _ _ (by rw [hl, low_length]; omega) (Or.inl (by omega))]
      exact ih (by omega) (by omega)
theorem idxRaw_length (S : St) (i : Nat) : (idxRaw S i).length = 64 := nameInto_length _ _ (partRaw_length (nextOf S.index i) (namedOf S i).length) _ (namedOf_le S i)
theorem idxRaw_part (S : St) (i : Nat) : idxRaw S i = nameInto (namedOf S i) (namedOf S i).length (partRaw (nextOf S.index i) (namedOf S i).length) := rfl
theorem idx_next (S : St) (i at_ : Nat) (h : nextOf S.index i < 65536) : nextPg (sealP at_ (idxRaw S i)) = nextOf S.index i := by
  unfold nextPg
  rw [seal_take (idxRaw_length S i) _ _ (by omega)]
  rw [idxRaw_part]
  rw [(nameInto_low _ _ (partRaw_length (nextOf S.index i) (namedOf S i).length) _ (namedOf_le S i)).1]
  exact part_next _ _ h
theorem idx_many (S : St) (i at_ : Nat) : manyOf (sealP at_ (idxRaw S i)) = (namedOf S i).length := by
  unfold manyOf
  rw [seal_get (idxRaw_length S i) _ _ (by omega)]
  rw [idxRaw_part]
  rw [(nameInto_low _ _ (partRaw_length (nextOf S.index i) (namedOf S i).length) _ (namedOf_le S i)).2]
  exact part_many _ _ (by have := namedOf_le S i; omega)
theorem idx_name (S : St) (i at_ j : Nat) (hj : j < (namedOf S i).length) (hx : firstOf (namedOf S i) j < 65536) : nameOf (sealP at_ (idxRaw S i)) j = firstOf (namedOf S i) j := by
  have := namedOf_le S i
  unfold nameOf
  rw [seal_mid (idxRaw_length S i) _ _ _ (by omega)]
  rw [idxRaw_part]
  rw [nameInto_get _ _ (partRaw_length (nextOf S.index i) (namedOf S i).length) j _ (namedOf_le S i) hj, low2_num _ hx]
end Go.Proofs.YtlbaagjbehdmgaaGreat

namespace Go.Proofs.YtlbaagjbehdmgaaGreat
/-- a list of pages, each of which names the next one -/
def Linked (pages : List (List UInt8)) (most : Nat) : List Nat → Prop
  | [] => False
  | [x] => ∃ p, pages[x]? = some p ∧ 2 ≤ x ∧ soundP x p = true ∧ nextPg p = 0 ∧ 1 ≤ manyOf p ∧ manyOf p ≤ most
  | x :: y :: r => (∃ p, pages[x]? = some p ∧ 2 ≤ x ∧ soundP x p = true ∧ nextPg p = y ∧ 1 ≤ manyOf p ∧ manyOf p = most) ∧ Linked pages most (y :: r)
theorem linked_ge {pages : List (List UInt8)} {most : Nat} : ∀ {l : List Nat}, Linked pages most l → ∀ x ∈ l, 2 ≤ x
  | [], h, _, _ => h.elim
  | [x], ⟨_, _, h, _⟩, y, hy => by rw [List.mem_singleton.1 hy]; exact h
  | x :: y :: r, ⟨⟨_, _, h, _⟩, h2⟩, z, hz => by
    rcases List.mem_cons.1 hz with rfl | hz
    · exact h
    · exact linked_ge h2 z hz
theorem linked_of (pages : List (List UInt8)) (most : Nat) : ∀ (l : List Nat), l ≠ [] →
    (∀ k x, l[k]? = some x → ∃ p, pages[x]? = some p ∧ 2 ≤ x ∧ soundP x p = true ∧ nextPg p = nextOf l k ∧ 1 ≤ manyOf p ∧ manyOf p ≤ most ∧ (k + 1 < l.length → manyOf p = most)) → Linked pages most l
  | [], h, _ => absurd rfl h
  | [x], _, h => by
    obtain ⟨p, h1, h2, h3, h4, h5, h6, _⟩ := h 0 x rfl
    exact ⟨p, h1, h2, h3, h4.trans rfl, h5, h6⟩
  | x :: y :: r, _, h => by
    obtain ⟨p, h1, h2, h3, h4, h5, h6, h7⟩ := h 0 x rfl
    refine ⟨⟨p, h1, h2, h3, h4.trans rfl, h5, h7 (by simp)⟩, linked_of pages most (y :: r) (by simp) fun k z hz => ?_⟩
    obtain ⟨q, g1, g2, g3, g4, g5, g6, g7⟩ := h (k + 1) z (by simpa using hz)
    exact ⟨q, g1, g2, g3, g4.trans (by simp [nextOf]), g5, g6, fun hk => g7 (by simp at hk ⊢; omega)⟩
theorem canRead_of {pages : List (List UInt8)} {met : List Nat} {x : Nat} {p : List UInt8} (h1 : pages[x]? = some p) (h2 : 2 ≤ x) (h3 : soundP x p = true) (h4 : x ∉ met) : canRead pages met x = true := by
  simp [canRead, h1, h2, h3, h4]
theorem chain_read (pages : List (List UInt8)) (most : Nat) : ∀ (l : List Nat) (f : Nat) (met : List Nat), Linked pages most l → l.Nodup → (∀ x ∈ l, x ∉ met) → l.length ≤ f → chainP pages most f met (l.headD 0) = some l
  | [], _, _, h, _, _, _ => h.elim
  | [x], 0, _, _, _, _, hf => by simp at hf
  | [x], f + 1, met, ⟨p, h1, h2, h3, h4, h5, h6⟩, _, hm, _ => by
    unfold chainP
    rw [List.headD_cons, if_pos (canRead_of h1 h2 h3 (hm x List.mem_cons_self)), h1]
    dsimp only [Option.getD_some]
    rw [if_neg (by simp [badPart, h4]; omega), if_pos h4]
  | x :: y :: r, 0, _, _, _, _, hf => by simp at hf
  | x :: y :: r, f + 1, met, ⟨⟨p, h1, h2, h3, h4, h5, h6⟩, hr⟩, hd, hm, hf => by
    unfold chainP
    rw [List.headD_cons, if_pos (canRead_of h1 h2 h3 (hm x List.mem_cons_self)), h1]
    dsimp only [Option.getD_some]
    have hy := linked_ge hr y List.mem_cons_self
    obtain ⟨hx, hd'⟩ := List.nodup_cons.1 hd
    rw [if_neg (by simp [badPart, h6]; omega), if_neg (by omega), h4]
    have := chain_read pages most (y :: r) f (x :: met) hr hd' (fun z hz => fun hc => by
      rcases List.mem_cons.1 hc with rfl | hc
      · exact hx hz
      · exact hm z (List.mem_cons_of_mem _ hz) hc) (by simp at hf ⊢; omega)
    rw [List.headD_cons] at this
    rw [this]; rfl

/-! ### what an entry's pages hold -/
theorem payload_len2 (e : Ent) : (payload e).length = e.body.length + 2 := by simp [payload]
theorem pieceOf_length (e : Ent) (i : Nat) (h : i < npieces e) : 1 ≤ (pieceOf e i).length ∧ (pieceOf e i).length ≤ 53 ∧ (i + 1 < npieces e → (pieceOf e i).length = 53) := by
  have := payload_len2 e
  unfold npieces at *
  simp only [pieceOf, List.length_take, List.length_drop]
  omega
theorem pieces_join (l : List UInt8) : ∀ n, ((List.range n).map fun i => (l.drop (i * 53)).take 53).flatten = l.take (n * 53) := by
  intro n
  induction n with
  | zero => simp
  | succ n ih =>
    rw [List.range_succ, List.map_append, List.flatten_append, ih]
    simp only [List.map_cons, List.map_nil, List.flatten_cons, List.flatten_nil, List.append_nil]
    rw [show (n + 1) * 53 = n * 53 + 53 by omega, List.take_add]
/-- the pages of an entry hold it -/
def HoldsE (pages : List (List UInt8)) (p : Placed) : Prop := ∀ x ∈ pieceWrites p.e p.pages, pages[x.1]? = some x.2
theorem holdsE_get {pages : List (List UInt8)} {p : Placed} (h : HoldsE pages p) (k x : Nat) (hx : p.pages[k]? = some x) : pages[x]? = some (sealP x (pieceRaw p.pages p.e k)) := by
  have hk := (List.getElem?_eq_some_iff.1 hx).1
  have := h (pieceWrite p.pages p.e k) (by unfold pieceWrites; exact List.mem_map.2 ⟨k, List.mem_range.2 hk, rfl⟩)
  simp only [pieceWrite, hx, Option.getD_some] at this
  exact this
theorem nextOf_lt {l : List Nat} (h : ∀ x ∈ l, x < 1024) (i : Nat) : nextOf l i < 65536 := by
  unfold nextOf
  cases hq : l[i + 1]? with
  | none => simp
  | some x => have := h x (List.mem_of_getElem? hq); simp; omega
theorem entry_linked {pages : List (List UInt8)} {p : Placed} (h : HoldsE pages p) (hlen : p.pages.length = npieces p.e) (hx : ∀ x ∈ p.pages, 2 ≤ x ∧ x < 1024) : Linked pages 53 p.pages := by
  have h1 := npieces_pos p.e
  refine linked_of pages 53 p.pages (fun e => by rw [e] at hlen; simp at hlen; omega) fun k x hk => ?_
  have hkl := (List.getElem?_eq_some_iff.1 hk).1
  obtain ⟨a1, a2, a3⟩ := pieceOf_length p.e k (by omega)
  refine ⟨_, holdsE_get h k x hk, (hx x (List.mem_of_getElem? hk)).1, seal_sound (pieceRaw_length _ _ _) x, piece_next _ _ _ _ (nextOf_lt (fun y hy => (hx y hy).2) k), ?_, ?_, fun hk' => ?_⟩
  · rw [piece_many]; exact a1
  · rw [piece_many]; exact a2
  · rw [piece_many]; exact a3 (by omega)
theorem entry_joined {pages : List (List UInt8)} {p : Placed} (h : HoldsE pages p) (hlen : p.pages.length = npieces p.e) : joined pages p.pages = payload p.e := by
  have hj : ∀ k, k ≤ p.pages.length → joinTo pages p.pages k = ((List.range k).map fun i => (((payload p.e).drop (i * 53)).take 53)).flatten := by
    intro k
    induction k with
    | zero => intro _; simp [joinTo]
    | succ k ih =>
      intro hk
      rw [joinTo_succ pages p.pages k p.pages[k] (by simp), ih (by omega), holdsE_get h k p.pages[k] (by simp), Option.getD_some, piece_content, List.range_succ, List.map_append, List.flatten_append]
      simp [pieceOf]
  unfold joined
  rw [hj _ (Nat.le_refl _), pieces_join, List.take_of_length_le]
  rw [hlen, payload_len2]
  unfold npieces; omega
theorem entry_read {pages : List (List UInt8)} {p : Placed} (met : List Nat) (h : HoldsE pages p) (hlen : p.pages.length = npieces p.e) (hx : ∀ x ∈ p.pages, 2 ≤ x ∧ x < 1024) (hv : p.e.valid = true) (hd : p.pages.Nodup) (hm : ∀ x ∈ p.pages, x ∉ met) (hf : p.pages.length ≤ pages.length) :
    entryP pages met (p.pages.headD 0) = some p := by
  unfold entryP
  rw [chain_read pages 53 p.pages pages.length met (entry_linked h hlen hx) hd hm hf]
  dsimp only
  rw [entry_joined h hlen]
  obtain ⟨⟨a, b, c⟩, pp⟩ := p
  simp only [Ent.valid, Bool.and_eq_true, decide_eq_true_eq] at hv
  obtain ⟨⟨⟨⟨h1, h2⟩, h3⟩, h4⟩, h5⟩ := hv
  have e1 : ((UInt8.ofNat a.toNat).toNat : Int) = a := by rw [UInt8.toNat_ofNat']; omega
  have e2 : ((UInt8.ofNat b.toNat).toNat : Int) = b := by rw [UInt8.toNat_ofNat']; omega
  simp only [payload, List.cons_append, List.nil_append]
  rw [e1, e2]

/-! ### a state on its pages -/
structure Holds (pages : List (List UInt8)) (S : St) : Prop where
  root : pages[S.at_]? = some (sealP S.at_ (rootRaw S))
  idx : ∀ x ∈ idxWrites S, pages[x.1]? = some x.2
  ent : ∀ p ∈ S.entries, HoldsE pages p
/-- a state that is whole on n pages -/
structure Legal (S : St) (n : Nat) : Prop where
  ok : S.ok
  gen1 : 1 ≤ S.gen
  few : n ≤ 1024
  two : 2 ≤ n
  follows : ∀ k p, S.entries[k]? = some p → followsP S.houses (S.entries.take k) p.e = true
  ilen : S.index.length = (S.entries.length + 25) / 26
  plen : ∀ p ∈ S.entries, p.pages.length = npieces p.e
  nodup : (usesOf S).Nodup
  rng : ∀ x ∈ usesOf S, 2 ≤ x ∧ x < n
theorem usesOf_eq (S : St) : usesOf S = S.index ++ (S.entries.map (·.pages)).flatten := by unfold usesOf usesTo; rw [List.take_length]
theorem holds_idx {pages : List (List UInt8)} {S : St} (h : Holds pages S) (k x : Nat) (hx : S.index[k]? = some x) : pages[x]? = some (sealP x (idxRaw S k)) := by
  have hk := (List.getElem?_eq_some_iff.1 hx).1
  have := h.idx (idxWrite S k) (by unfold idxWrites; exact List.mem_map.2 ⟨k, List.mem_range.2 hk, rfl⟩)
  simp only [idxWrite, hx, Option.getD_some] at this
  exact this
theorem namedOf_length (S : St) (i : Nat) (h : i < S.index.length) (hi : S.index.length = (S.entries.length + 25) / 26) : 1 ≤ (namedOf S i).length ∧ (namedOf S i).length ≤ 26 ∧ (i + 1 < S.index.length → (namedOf S i).length = 26) := by
  simp only [namedOf, List.length_take, List.length_drop]
  omega
theorem Legal.mem_index {S : St} {n : Nat} (L : Legal S n) {x : Nat} (h : x ∈ S.index) : 2 ≤ x ∧ x < 1024 := by
  have := L.rng x (by rw [usesOf_eq]; exact List.mem_append_left _ h)
  have := L.few
  omega
theorem Legal.mem_page {S : St} {n : Nat} (L : Legal S n) {p : Placed} (hp : p ∈ S.entries) {x : Nat} (h : x ∈ p.pages) : 2 ≤ x ∧ x < 1024 := by
  have := L.rng x (by rw [usesOf_eq]; exact List.mem_append_right _ (List.mem_flatten.2 ⟨_, List.mem_map.2 ⟨p, hp, rfl⟩, h⟩))
  have := L.few
  omega
theorem index_linked {pages : List (List UInt8)} {S : St} {n : Nat} (h : Holds pages S) (L : Legal S n) (hne : S.index ≠ []) : Linked pages 26 S.index := by
  refine linked_of pages 26 S.index hne fun k x hk => ?_
  have hkl := (List.getElem?_eq_some_iff.1 hk).1
  obtain ⟨a1, a2, a3⟩ := namedOf_length S k hkl L.ilen
  refine ⟨_, holds_idx h k x hk, (L.mem_index (List.mem_of_getElem? hk)).1, seal_sound (idxRaw_length _ _) x, idx_next _ _ _ (nextOf_lt (fun y hy => (L.mem_index hy).2) k), ?_, ?_, fun hk' => ?_⟩
  · rw [idx_many]; exact a1
  · rw [idx_many]; exact a2
  · rw [idx_many]; exact a3 (by omega)
theorem chunks {α : Type} (l : List α) : ∀ k, ((List.range k).map fun i => (l.drop (i * 26)).take 26).flatten = l.take (k * 26) := by
  intro k
  induction k with
  | zero => simp
  | succ k ih =>
    rw [List.range_succ, List.map_append, List.flatten_append, ih]
    simp only [List.map_cons, List.map_nil, List.flatten_cons, List.flatten_nil, List.append_nil]
    rw [show (k + 1) * 26 = k * 26 + 26 by omega, List.take_add]
theorem names_page {pages : List (List UInt8)} {S : St} {n : Nat} (h : Holds pages S) (L : Legal S n) (k x : Nat) (hk : S.index[k]? = some x) : namesOf ((pages[x]?).getD []) = (namedOf S k).map fun p => p.pages.headD 0 := by
  rw [holds_idx h k x hk, Option.getD_some]
  unfold namesOf
  rw [idx_many]
  apply List.ext_getElem?
  intro j
  rw [List.getElem?_map, List.getElem?_map]
  by_cases hj : j < (namedOf S k).length
  · rw [List.getElem?_range hj, List.getElem?_eq_getElem hj, Option.map_some, Option.map_some]
    have hf : firstOf (namedOf S k) j = ((namedOf S k)[j]).pages.headD 0 := by unfold firstOf; rw [List.getElem?_eq_getElem hj]
    have hmem : (namedOf S k)[j] ∈ S.entries := by
      have h1 : (namedOf S k)[j] ∈ namedOf S k := List.getElem_mem hj
      exact List.mem_of_mem_drop (List.mem_of_mem_take h1)
    rw [idx_name S k x j hj ?_, hf]
    rw [hf]
    cases hp : ((namedOf S k)[j]).pages with
    | nil => simp
    | cons a r =>
      have := (L.mem_page hmem (x := a) (by rw [hp]; exact List.mem_cons_self)).2
      simp; omega
  · rw [List.getElem?_eq_none (by simpa using hj), List.getElem?_eq_none (by omega)]
    rfl
theorem names_all {pages : List (List UInt8)} {S : St} {n : Nat} (h : Holds pages S) (L : Legal S n) : names pages S.index = S.entries.map fun p => p.pages.headD 0 := by
  have hm : (S.index.map fun i => namesOf ((pages[i]?).getD [])) = (List.range S.index.length).map fun i => (((S.entries.map fun p => p.pages.headD 0).drop (i * 26)).take 26) := by
    apply List.ext_getElem?
    intro k
    rw [List.getElem?_map, List.getElem?_map]
    by_cases hk : k < S.index.length
    · rw [List.getElem?_range hk, List.getElem?_eq_getElem hk, Option.map_some, Option.map_some, names_page h L k _ (by simp)]
      simp [namedOf]
    · rw [List.getElem?_eq_none (by omega), List.getElem?_eq_none (by simpa using hk)]
      rfl
  unfold names
  rw [hm, chunks, List.take_of_length_le]
  have := L.ilen
  simp; omega
theorem fold_read (pages : List (List UInt8)) (h : Nat) (hn : pages.length ≤ 1024) : ∀ (rest : List Placed) (met : List Nat) (acc : List Placed), (∀ p ∈ rest, HoldsE pages p ∧ p.pages.length = npieces p.e ∧ (∀ x ∈ p.pages, 2 ≤ x ∧ x < pages.length) ∧ p.e.valid = true) →
    ((rest.map (·.pages)).flatten).Nodup → (∀ x ∈ (rest.map (·.pages)).flatten, x ∉ met) → (∀ k p, rest[k]? = some p → followsP h (acc ++ rest.take k) p.e = true) →
    ∃ m, rootFold pages h (met, acc) (rest.map fun p => p.pages.headD 0) = some (m, acc ++ rest) := by
  intro rest
  induction rest with
  | nil => intro met acc _ _ _ _; exact ⟨met, by simp [rootFold]⟩
  | cons p rest ih =>
    intro met acc hh hd hm hf
    obtain ⟨g1, g2, g3, g4⟩ := hh p List.mem_cons_self
    simp only [List.map_cons, List.flatten_cons] at hd hm
    obtain ⟨d1, d2, d3⟩ := List.nodup_append.1 hd
    have hlen : p.pages.length ≤ pages.length := by
      have h4 := npieces_le p.e g4
      cases hq : p.pages with
      | nil => simp
      | cons a r =>
        have : p.pages.length ≤ pages.length := by
          exact nodup_len _ _ d1 (fun x hx => (g3 x hx).2)
        rw [hq] at this; exact this
    have he := entry_read met g1 g2 (fun x hx => ⟨(g3 x hx).1, by have := (g3 x hx).2; omega⟩) g4 d1 (fun x hx => hm x (List.mem_append_left _ hx)) hlen
    have hfo := hf 0 p rfl
    simp only [List.take_zero, List.append_nil] at hfo
    simp only [List.map_cons, rootFold, rootStep, he, hfo, if_true]
    obtain ⟨m, hm'⟩ := ih (p.pages.reverse ++ met) (acc ++ [p]) (fun q hq => hh q (List.mem_cons_of_mem _ hq)) d2 (fun x hx hc => by
      rcases List.mem_append.1 hc with hc | hc
      · exact d3 x (List.mem_reverse.1 hc) x hx rfl
      · exact hm x (List.mem_append_right _ hx) hc) (fun k q hq => by
        have := hf (k + 1) q (by simpa using hq)
        simpa using this)
    exact ⟨m, by rw [hm']; simp⟩
/-- what stands on the pages is read -/
theorem root_read {pages : List (List UInt8)} {S : St} (h : Holds pages S) (L : Legal S pages.length) : rootP pages S.at_ = some S := by
  have ok := L.ok
  obtain ⟨f1, f2, f3, f4⟩ := seal_rootf S
  have hg := ok.gen
  have e1 : rGen (sealP S.at_ (rootRaw S)) = S.gen := by rw [f1, root_gen S (by omega)]
  have e2 : rHouses (sealP S.at_ (rootRaw S)) = S.houses := by rw [f2, root_houses S (by have := ok.houses; omega)]
  have e3 : rMany (sealP S.at_ (rootRaw S)) = S.entries.length := by rw [f3, root_many S (by have := ok.few; omega)]
  have e4 : rIndex (sealP S.at_ (rootRaw S)) = S.index.headD 0 := by rw [f4, root_index S (fun x hx => by have := (L.mem_index hx).2; omega)]
  have hi := L.ilen
  have hiff : (S.entries.length = 0) ↔ S.index.headD 0 = 0 := by
    constructor
    · intro h0
      have : S.index = [] := List.eq_nil_of_length_eq_zero (by omega)
      rw [this]; rfl
    · intro h0
      cases hx : S.index with
      | nil => rw [hx] at hi; simp at hi; omega
      | cons a r =>
        rw [hx] at h0
        have := (L.mem_index (x := a) (by rw [hx]; exact List.mem_cons_self)).1
        simp at h0; omega
  have hbad : rootBad S.at_ (sealP S.at_ (rootRaw S)) = false := by
    have := L.gen1; have := ok.houses1; have := ok.houses
    unfold rootBad
    rw [seal_sound (rootRaw_length S), e1, e2, e3, e4]
    simp
    refine ⟨⟨⟨⟨?_, ?_⟩, ?_⟩, ?_⟩, ?_⟩ <;> first | omega | skip
    simpa using hiff
  unfold rootP
  rw [h.root]
  dsimp only [Option.getD_some]
  rw [if_neg (by rw [hbad]; simp), e3]
  by_cases h0 : S.entries.length = 0
  · rw [if_pos h0, e2, e1]
    have hE : S.entries = [] := List.eq_nil_of_length_eq_zero h0
    have hI : S.index = [] := List.eq_nil_of_length_eq_zero (by omega)
    obtain ⟨a, b, c, d, e⟩ := S
    dsimp only at hE hI ⊢
    rw [hE, hI]
  · rw [if_neg h0, e4]
    have hne : S.index ≠ [] := fun e => by rw [e] at hi; simp at hi; omega
    have hnd := L.nodup
    rw [usesOf_eq] at hnd
    obtain ⟨d1, d2, d3⟩ := List.nodup_append.1 hnd
    have hlen : S.index.length ≤ pages.length := nodup_len _ _ d1 (fun x hx => (L.rng x (by rw [usesOf_eq]; exact List.mem_append_left _ hx)).2)
    rw [chain_read pages 26 S.index pages.length [] (index_linked h L hne) d1 (fun _ _ h => by cases h) hlen]
    dsimp only
    rw [names_all h L, e2, List.append_nil]
    obtain ⟨m, hm⟩ := fold_read pages S.houses L.few S.entries S.index.reverse [] (fun p hp => ⟨h.ent p hp, L.plen p hp, fun x hx => L.rng x (by rw [usesOf_eq]; exact List.mem_append_right _ (List.mem_flatten.2 ⟨_, List.mem_map.2 ⟨p, hp, rfl⟩, hx⟩)), (ok.each p hp).1⟩) d2 (fun x hx hc => d3 x (List.mem_reverse.1 hc) x hx rfl) (fun k p hk => by simpa using L.follows k p hk)
    rw [hm]
    dsimp only
    rw [List.nil_append, if_pos rfl, e1]
end Go.Proofs.YtlbaagjbehdmgaaGreat

namespace Go.Proofs.YtlbaagjbehdmgaaGreat
/-- a list of entries made over a state: those that have pages are the state's -/
structure Mix (cur : St) (l : List Placed) : Prop where
  old : (l.filter fun p => !p.pages.isEmpty).Sublist cur.entries
  valid : ∀ p ∈ l, p.e.valid = true
  follows : ∀ k p, l[k]? = some p → followsP cur.houses (l.take k) p.e = true
  ne : l ≠ []
  few : l.length ≤ 512
def oldPages (l : List Placed) : List Nat := ((l.filter fun p => !p.pages.isEmpty).map (·.pages)).flatten
def allPages (l : List Placed) : List Nat := (l.map (·.pages)).flatten
theorem usesOf_all (S : St) : usesOf S = S.index ++ allPages S.entries := usesOf_eq S
theorem allPages_append (a b : List Placed) : allPages (a ++ b) = allPages a ++ allPages b := by simp [allPages]
theorem oldPages_append (a b : List Placed) : oldPages (a ++ b) = oldPages a ++ oldPages b := by simp [oldPages]
theorem given_take_succ (l : List Placed) (free : List Nat) (k : Nat) (p : Placed) (h : l[k]? = some p) : (given l free).take (k + 1) = (given l free).take k ++ [givenAt l free k p] := by
  have hk := (List.getElem?_eq_some_iff.1 h).1
  have hk' : k < (given l free).length := by rw [given_length]; exact hk
  have h1 := given_get l free k
  rw [h, Option.map_some, List.getElem?_eq_getElem hk'] at h1
  rw [List.take_succ_eq_append_getElem hk', Option.some.inj h1]
/-- which pages the entries have behind the giving -/
theorem given_perm (l : List Placed) (free : List Nat) : ∀ k, k ≤ l.length → (allPages ((given l free).take k)).Perm (oldPages (l.take k) ++ free.take (needTo l k)) := by
  intro k
  induction k with
  | zero => intro _; simp [allPages, oldPages, needTo]
  | succ k ih =>
    intro hk
    have hp : l[k]? = some l[k] := by simp
    have h1 := ih (by omega)
    rw [given_take_succ l free k l[k] hp, allPages_append, List.take_succ_eq_append_getElem (show k < l.length by omega), oldPages_append, needTo_succ l k _ hp]
    by_cases he : l[k].pages = []
    · have ha : asks l[k] = npieces l[k].e := by simp [asks, he]
      have e1 : allPages [givenAt l free k l[k]] = (free.drop (needTo l k)).take (npieces l[k].e) := by simp [allPages, givenAt, he]
      have e2 : oldPages [l[k]] = [] := by simp [oldPages, he]
      rw [e1, e2, ha, List.append_nil, List.take_add, ← List.append_assoc]
      exact h1.append_right _
    · have ha : asks l[k] = 0 := by simp [asks, he]
      have e1 : allPages [givenAt l free k l[k]] = l[k].pages := by simp [allPages, givenAt, he]
      have e2 : oldPages [l[k]] = l[k].pages := by simp [oldPages, he]
      rw [e1, e2, ha, Nat.add_zero]
      refine (h1.append_right _).trans ?_
      rw [List.append_assoc, List.append_assoc]
      exact List.Perm.append_left _ List.perm_append_comm
theorem next_perm (cur : St) (l : List Placed) (free : List Nat) : (usesOf (cur.next l free)).Perm (oldPages l ++ free.take (needOf l)) := by
  have h := given_perm l free l.length (Nat.le_refl _)
  rw [List.take_length, List.take_of_length_le (by rw [given_length]; exact Nat.le_refl _)] at h
  rw [usesOf_all]
  show ((free.drop (needTo l l.length)).take (idxMany l) ++ allPages (given l free)).Perm _
  rw [show needOf l = needTo l l.length + idxMany l by unfold needOf; omega, List.take_add, ← List.append_assoc]
  exact List.perm_append_comm.trans (h.append_right _)
theorem mem_freeTo {used : List Nat} {k x : Nat} : x ∈ freeTo used k ↔ x < k ∧ 2 ≤ x ∧ x ∉ used := by
  simp [freeTo]
theorem freeTo_nodup (used : List Nat) (k : Nat) : (freeTo used k).Nodup := List.nodup_range.sublist List.filter_sublist
theorem usedOf_cur {cur : St} {F : Option St} {x : Nat} (h : x ∈ usesOf cur) : x ∈ usedOf cur F := by
  cases F with
  | none => exact h
  | some T => exact List.mem_append_left _ h
theorem allPages_sublist {a b : List Placed} (h : a.Sublist b) : (allPages a).Sublist (allPages b) := by
  induction h with
  | slnil => exact List.Sublist.refl _
  | cons a _ ih => exact ih.trans (by simp [allPages])
  | cons_cons a _ ih =>
    simp only [allPages, List.map_cons, List.flatten_cons] at *
    exact List.Sublist.append (List.Sublist.refl _) ih
theorem Mix.old_sub {cur : St} {l : List Placed} (h : Mix cur l) : (oldPages l).Sublist (usesOf cur) := by
  rw [usesOf_all]
  exact (allPages_sublist h.old).trans (List.sublist_append_right _ _)
theorem follows_take (H : Int) (a b : List Placed) (e : Ent) (h : a.map (·.e) = b.map (·.e)) : followsP H a e = followsP H b e := by
  have : a.getLast?.map (·.e) = b.getLast?.map (·.e) := by rw [← List.getLast?_map, ← List.getLast?_map, h]
  unfold followsP
  cases ha : a.getLast? with
  | none =>
    cases hb : b.getLast? with
    | none => rfl
    | some q => rw [ha, hb] at this; cases this
  | some p =>
    cases hb : b.getLast? with
    | none => rw [ha, hb] at this; cases this
    | some q =>
      rw [ha, hb] at this
      simp only [Option.map_some, Option.some.injEq] at this
      simp only [this]
theorem given_ents (l : List Placed) (free : List Nat) : (given l free).map (·.e) = l.map (·.e) := by
  apply List.ext_getElem?
  intro k
  rw [List.getElem?_map, List.getElem?_map, given_get]
  cases l[k]? with
  | none => rfl
  | some p => simp [givenAt_e]
theorem given_mem {l : List Placed} {free : List Nat} {p : Placed} (h : p ∈ given l free) : ∃ k q, l[k]? = some q ∧ p = givenAt l free k q := by
  obtain ⟨k, hk⟩ := List.getElem?_of_mem h
  rw [given_get] at hk
  cases hq : l[k]? with
  | none => rw [hq] at hk; cases hk
  | some q =>
    rw [hq] at hk
    exact ⟨k, q, hq, (Option.some.inj hk).symm⟩
theorem give_len {l : List Placed} {free : List Nat} (hn : needOf l ≤ free.length) {k : Nat} {p : Placed} (h : l[k]? = some p) (he : p.pages = []) : ((free.drop (needTo l k)).take (npieces p.e)).length = npieces p.e := by
  have hk := (List.getElem?_eq_some_iff.1 h).1
  have hs := needTo_succ l k p h
  have hm := needTo_mono l (k + 1) l.length (by omega)
  have ha : asks p = npieces p.e := by simp [asks, he]
  rw [List.length_take, List.length_drop]
  unfold needOf at hn
  omega
/-- the new state is legal -/
theorem next_legal {cur : St} {l : List Placed} {n : Nat} {F : Option St} (L : Legal cur n) (M : Mix cur l) (hn : needOf l ≤ (freeTo (usedOf cur F) n).length) (hg : (cur.gen : Int) ≠ 9223372036854775807) : Legal (cur.next l (freeTo (usedOf cur F) n)) n := by
  have hp := next_perm cur l (freeTo (usedOf cur F) n)
  have hfew := L.few
  have hnd : (oldPages l ++ (freeTo (usedOf cur F) n).take (needOf l)).Nodup := by
    refine List.nodup_append.2 ⟨L.nodup.sublist M.old_sub, (freeTo_nodup _ _).sublist (List.take_sublist _ _), fun x hx y hy e => ?_⟩
    subst e
    exact (mem_freeTo.1 (List.mem_of_mem_take hy)).2.2 (usedOf_cur (M.old_sub.subset hx))
  have hr : ∀ x ∈ usesOf (cur.next l (freeTo (usedOf cur F) n)), 2 ≤ x ∧ x < n := fun x hx => by
    rcases List.mem_append.1 (hp.mem_iff.1 hx) with h | h
    · exact L.rng x (M.old_sub.subset h)
    · have := mem_freeTo.1 (List.mem_of_mem_take h)
      exact ⟨this.2.1, this.1⟩
  have hfit : Fit l := by
    refine ⟨M.ne, by have := M.few; omega, fun p hp => ⟨M.valid p hp, ?_⟩⟩
    by_cases he : p.pages = []
    · rw [he]; simp
    · have hm : p ∈ cur.entries := M.old.subset (List.mem_filter.2 ⟨hp, by simp [he]⟩)
      obtain ⟨_, _, h3, h4⟩ := L.ok.each p hm
      exact ⟨h3, h4⟩
  refine ⟨next_ok L.ok hfit hn (fun x hx => by have := mem_freeTo.1 hx; omega) hg, ?_, L.few, L.two, ?_, next_index hn, ?_, hp.nodup_iff.2 hnd, hr⟩
  · simp [St.next]
  · intro k p hk
    rw [show (cur.next l (freeTo (usedOf cur F) n)).entries = given l (freeTo (usedOf cur F) n) from rfl] at hk ⊢
    rw [given_get] at hk
    cases hq : l[k]? with
    | none => rw [hq] at hk; cases hk
    | some q =>
      rw [hq] at hk
      simp only [Option.map_some, Option.some.injEq] at hk
      subst hk
      rw [givenAt_e, follows_take _ _ (l.take k) _ (by rw [List.map_take, given_ents, ← List.map_take])]
      exact M.follows k q hq
  · intro p hpm
    obtain ⟨k, q, hq, rfl⟩ := given_mem hpm
    rw [givenAt_e]
    unfold givenAt
    split
    · rename_i he
      exact give_len hn hq he
    · rename_i he
      exact L.plen q (M.old.subset (List.mem_filter.2 ⟨List.mem_of_getElem? hq, by simp [he]⟩))

/-! ### the writes of a change -/
theorem pieceWrites_keys (e : Ent) (pages : List Nat) : (pieceWrites e pages).map (·.1) = pages := by
  apply List.ext_getElem?
  intro k
  rw [List.getElem?_map]
  unfold pieceWrites
  rw [List.getElem?_map]
  by_cases hk : k < pages.length
  · rw [List.getElem?_range hk]
    simp [pieceWrite, hk]
  · rw [List.getElem?_eq_none (by simpa using hk), List.getElem?_eq_none (by omega)]
    rfl
theorem idxWrites_keys (S : St) : (idxWrites S).map (·.1) = S.index := by
  apply List.ext_getElem?
  intro k
  rw [List.getElem?_map]
  unfold idxWrites
  rw [List.getElem?_map]
  by_cases hk : k < S.index.length
  · rw [List.getElem?_range hk]
    simp [idxWrite, hk]
  · rw [List.getElem?_eq_none (by simpa using hk), List.getElem?_eq_none (by omega)]
    rfl
theorem newWr_keys {l : List Placed} {free : List Nat} : ∀ k, k ≤ l.length → (newWr l free k).map (·.1) = free.take (needTo l k) := by
  intro k
  induction k with
  | zero => intro _; simp [newWr, needTo]
  | succ k ih =>
    intro hk
    have hp : l[k]? = some l[k] := by simp
    rw [needTo_succ l k _ hp]
    by_cases he : l[k].pages = []
    · have ha : asks l[k] = npieces l[k].e := by simp [asks, he]
      rw [newWr_hit l free k _ hp he, List.map_append, ih (by omega), pieceWrites_keys, ha, List.take_add]
    · have ha : asks l[k] = 0 := by simp [asks, he]
      rw [newWr_miss l free k _ hp he, ih (by omega), ha, Nat.add_zero]
/-- all that a change writes ahead of the root -/
def chWrites (cur : St) (l : List Placed) (free : List Nat) : List (Nat × List UInt8) := newWr l free l.length ++ idxWrites (cur.next l free)
theorem chWrites_keys {cur : St} {l : List Placed} {free : List Nat} : (chWrites cur l free).map (·.1) = free.take (needOf l) := by
  unfold chWrites
  rw [List.map_append, newWr_keys l.length (Nat.le_refl _), idxWrites_keys]
  show _ ++ (free.drop (needTo l l.length)).take (idxMany l) = _
  rw [show needOf l = needTo l l.length + idxMany l by unfold needOf; omega, List.take_add]
theorem idxWrites_64b (S : St) : ∀ x ∈ idxWrites S, x.2.length = 64 := by
  intro x hx
  simp only [idxWrites, List.mem_map] at hx
  obtain ⟨i, _, rfl⟩ := hx
  exact sealP_length _ _ (idxRaw_length _ _)
theorem chWrites_64 (cur : St) (l : List Placed) (free : List Nat) : ∀ x ∈ chWrites cur l free, x.2.length = 64 := by
  intro x hx
  rcases List.mem_append.1 hx with h | h
  · exact newWr_64 _ _ _ x h
  · exact idxWrites_64b _ x h
theorem mem_newWr {l : List Placed} {free : List Nat} {k : Nat} {p : Placed} (h : l[k]? = some p) (he : p.pages = []) : ∀ m, k < m → ∀ x ∈ pieceWrites p.e ((free.drop (needTo l k)).take (npieces p.e)), x ∈ newWr l free m := by
  intro m
  induction m with
  | zero => intro hm; omega
  | succ m ih =>
    intro hm x hx
    by_cases e : k = m
    · subst e
      rw [newWr_hit l free k p h he]
      exact List.mem_append_right _ hx
    · have := ih (by omega) x hx
      show x ∈ newWr l free m ++ _
      exact List.mem_append_left _ this

/-! ### pages that are written -/
theorem applyW_miss : ∀ (l : List (Nat × List UInt8)) (pages : List (List UInt8)) (i : Nat), i ∉ l.map (·.1) → (applyW pages l)[i]? = pages[i]?
  | [], _, _, _ => rfl
  | x :: l, pages, i, h => by
    simp only [List.map_cons, List.mem_cons, not_or] at h
    show (applyW (pages.set x.1 x.2) l)[i]? = _
    rw [applyW_miss l _ i h.2, List.getElem?_set, if_neg (fun e => h.1 e.symm)]
theorem applyW_hit : ∀ (l : List (Nat × List UInt8)) (pages : List (List UInt8)) (x : Nat × List UInt8), x ∈ l → (l.map (·.1)).Nodup → x.1 < pages.length → (applyW pages l)[x.1]? = some x.2
  | [], _, _, h, _, _ => by cases h
  | y :: l, pages, x, h, hd, hx => by
    simp only [List.map_cons] at hd
    obtain ⟨h1, h2⟩ := List.nodup_cons.1 hd
    show (applyW (pages.set y.1 y.2) l)[x.1]? = _
    rcases List.mem_cons.1 h with rfl | h
    · rw [applyW_miss l _ _ h1, List.getElem?_set, if_pos rfl, if_pos hx]
    · exact applyW_hit l _ x h h2 (by rw [List.length_set]; exact hx)
theorem applyW_append (pages : List (List UInt8)) (a b : List (Nat × List UInt8)) : applyW pages (a ++ b) = applyW (applyW pages a) b := by simp [applyW]
/-- pages that agree where a state lies hold it alike -/
theorem Holds.congr {pages pages' : List (List UInt8)} {S : St} (h : Holds pages S) (hr : pages'[S.at_]? = pages[S.at_]?) (he : ∀ x ∈ usesOf S, pages'[x]? = pages[x]?) : Holds pages' S := by
  refine ⟨hr.trans h.root, fun x hx => ?_, fun p hp x hx => ?_⟩
  · rw [he x.1 ?_]
    · exact h.idx x hx
    · rw [usesOf_eq]
      refine List.mem_append_left _ ?_
      rw [← idxWrites_keys S]
      exact List.mem_map.2 ⟨x, hx, rfl⟩
  · rw [he x.1 ?_]
    · exact h.ent p hp x hx
    · rw [usesOf_eq]
      refine List.mem_append_right _ (List.mem_flatten.2 ⟨p.pages, List.mem_map.2 ⟨p, hp, rfl⟩, ?_⟩)
      rw [← pieceWrites_keys p.e p.pages]
      exact List.mem_map.2 ⟨x, hx, rfl⟩
/-- pages that bear what a change writes hold the new state, save its root -/
theorem next_holds {cur : St} {l : List Placed} {n : Nat} {F : Option St} {pages pages' : List (List UInt8)} (H : Holds pages cur) (M : Mix cur l)
    (hw : ∀ x ∈ chWrites cur l (freeTo (usedOf cur F) n), pages'[x.1]? = some x.2) (hu : ∀ x ∈ usesOf cur, pages'[x]? = pages[x]?) (hr : pages'[1 - cur.at_]? = some (sealP (1 - cur.at_) (rootRaw (cur.next l (freeTo (usedOf cur F) n))))) :
    Holds pages' (cur.next l (freeTo (usedOf cur F) n)) := by
  refine ⟨hr, fun x hx => hw x (List.mem_append_right _ hx), fun p hp => ?_⟩
  obtain ⟨k, q, hq, rfl⟩ := given_mem hp
  have hk := (List.getElem?_eq_some_iff.1 hq).1
  unfold givenAt
  split
  · rename_i he
    intro x hx
    exact hw x (List.mem_append_left _ (mem_newWr hq he l.length hk x hx))
  · rename_i he
    have hm : q ∈ cur.entries := M.old.subset (List.mem_filter.2 ⟨List.mem_of_getElem? hq, by simp [he]⟩)
    intro x hx
    rw [hu x.1 ?_]
    · exact H.ent q hm x hx
    · rw [usesOf_eq]
      refine List.mem_append_right _ (List.mem_flatten.2 ⟨q.pages, List.mem_map.2 ⟨q, hm, rfl⟩, ?_⟩)
      rw [← pieceWrites_keys q.e q.pages]
      exact List.mem_map.2 ⟨x, hx, rfl⟩
end Go.Proofs.YtlbaagjbehdmgaaGreat

namespace Go.Proofs.YtlbaagjbehdmgaaGreat
/-! ### disks: the writes of one call, none interrupted -/
theorem write_quiet {D : Dsk} {x : Nat × List UInt8} (hu : D.down = false) (ha : D.armed = 0) (h1 : x.1 < D.now.length) (h2 : x.2.length = 64) : D.write x.1 x.2 = (0, D.put x.1 x.2) := by
  have h3 : hasP D (x.1 : Int) = true := by simp [hasP]; omega
  unfold Dsk.write
  rw [if_neg (by simp [hu]), if_pos (by simp [h3, h2])]
  have h4 : (D.put x.1 x.2).fails = (false, D.put x.1 x.2) := by unfold Dsk.fails; rw [if_pos (show (D.put x.1 x.2).armed = 0 from ha)]
  rw [Int.toNat_natCast]
  unfold Dsk.wres
  rw [h4]; rfl
theorem sync_quiet {D : Dsk} (hu : D.down = false) (ha : D.armed = 0) : D.sync = (0, { D with safe := applyW D.safe D.writes, writes := [] }) := by
  unfold Dsk.sync
  rw [if_neg (by simp [hu])]
  simp only [Dsk.fails, if_pos ha]
  rw [if_neg (by simp)]
  simp only [Dsk.syncTo, List.take_length]
/-- a disk with writes in the pages that are read -/
def Dsk.puts (D : Dsk) (l : List (Nat × List UInt8)) : Dsk := { D with now := applyW D.now l, writes := D.writes ++ l }
theorem puts_cons (D : Dsk) (x : Nat × List UInt8) (l : List (Nat × List UInt8)) : (D.put x.1 x.2).puts l = D.puts (x :: l) := by
  simp [Dsk.puts, Dsk.put, applyW]
theorem all_quiet : ∀ (l : List (Nat × List UInt8)) (D : Dsk), D.down = false → D.armed = 0 → (∀ x ∈ l, x.1 < D.now.length ∧ x.2.length = 64) →
    D.all l = (0, { D with now := applyW D.now l, safe := applyW D.safe (D.writes ++ l), writes := [] })
  | [], D, hu, ha, _ => by
    show D.sync = _
    rw [sync_quiet hu ha, List.append_nil]; rfl
  | x :: l, D, hu, ha, h => by
    obtain ⟨h1, h2⟩ := h x List.mem_cons_self
    unfold Dsk.all
    rw [write_quiet hu ha h1 h2]
    dsimp only
    rw [if_pos rfl, all_quiet l (D.put x.1 x.2) hu ha (fun y hy => by
      have := h y (List.mem_cons_of_mem _ hy)
      simp only [Dsk.put, List.length_set]; exact this)]
    simp [Dsk.put, applyW]

/-- a disk that bears a store: no write that is not safe, the present root whole, the other one whole or bad -/
structure Inv (D : Dsk) (S : St) (F : Option St) : Prop where
  ok : D.ok
  up : D.down = false
  wr : D.writes = []
  same : D.safe = D.now
  legal : Legal S D.now.length
  holds : Holds D.now S
  other : match F with
    | some T => Legal T D.now.length ∧ Holds D.now T ∧ T.at_ = 1 - S.at_ ∧ T.gen < S.gen
    | none => rootBad (1 - S.at_) ((D.now[1 - S.at_]?).getD []) = true
theorem root_bad {pages : List (List UInt8)} {i : Nat} (h : rootBad i ((pages[i]?).getD []) = true) : rootP pages i = none := by
  unfold rootP
  dsimp only
  rw [if_pos h]
theorem Inv.open {D : Dsk} {S : St} {F : Option St} (h : Inv D S F) : openP D = (0, some (S, F)) := by
  have h0 := root_read h.holds h.legal
  have h2 := h.legal.two
  have hat := h.legal.ok.at_
  unfold openP
  rw [if_neg (by simp [h.up]), if_neg (by omega)]
  have h1 : rootP D.now (1 - S.at_) = F := by
    have ho := h.other
    cases F with
    | none => exact root_bad ho
    | some T =>
      obtain ⟨a, b, c, _⟩ := ho
      rw [← c]; exact root_read b a
  have hp : pickP (rootP D.now 0) (rootP D.now 1) = some (S, F) := by
    rcases Nat.le_one_iff_eq_zero_or_eq_one.1 hat with e | e
    · rw [e] at h0 h1
      rw [h0, show (1 : Nat) = 1 - 0 from rfl, h1]
      cases F with
      | none => rfl
      | some T =>
        have := h.other.2.2.2
        simp [pickP]; omega
    · rw [e] at h0 h1
      rw [h0, show rootP D.now 0 = F from h1]
      cases F with
      | none => rfl
      | some T =>
        have := h.other.2.2.2
        simp [pickP]; omega
  rw [hp]

theorem oneWrite_at {pages : List (List UInt8)} {i : Nat} {v : List UInt8} (h : i < pages.length) : (applyW pages [(i, v)])[i]? = some v := by
  simp [applyW, h]
/-- the pages behind a change -/
def chPages (pages : List (List UInt8)) (cur : St) (l : List Placed) (free : List Nat) : List (List UInt8) :=
  applyW (applyW pages (chWrites cur l free)) [(1 - cur.at_, sealP (1 - cur.at_) (rootRaw (cur.next l free)))]
theorem chPages_length (pages : List (List UInt8)) (cur : St) (l : List Placed) (free : List Nat) : (chPages pages cur l free).length = pages.length := by
  unfold chPages; rw [applyW_length, applyW_length]
theorem Inv.free_eq {D : Dsk} {S : St} {F : Option St} : freeOf D S F = freeTo (usedOf S F) D.now.length := rfl
/-- what a free page is -/
theorem chKeys {D : Dsk} {S : St} {F : Option St} {l : List Placed} {x : Nat × List UInt8} (h : x ∈ chWrites S l (freeOf D S F)) : x.1 < D.now.length ∧ 2 ≤ x.1 ∧ x.1 ∉ usedOf S F := by
  have : x.1 ∈ (chWrites S l (freeOf D S F)).map (·.1) := List.mem_map.2 ⟨x, h, rfl⟩
  rw [chWrites_keys] at this
  exact mem_freeTo.1 (List.mem_of_mem_take this)
theorem chPages_used {D : Dsk} {S : St} {F : Option St} (h : Inv D S F) (l : List Placed) {i : Nat} (hi : i ∈ usesOf S) : (chPages D.now S l (freeOf D S F))[i]? = D.now[i]? := by
  unfold chPages
  have h2 := h.legal.rng i hi
  have hat := h.legal.ok.at_
  rw [applyW_miss _ _ _ (by simp; omega), applyW_miss]
  intro hm
  rw [chWrites_keys] at hm
  exact (mem_freeTo.1 (List.mem_of_mem_take hm)).2.2 (usedOf_cur hi)
theorem chPages_root {D : Dsk} {S : St} {F : Option St} (h : Inv D S F) (l : List Placed) : (chPages D.now S l (freeOf D S F))[S.at_]? = D.now[S.at_]? := by
  unfold chPages
  have hat := h.legal.ok.at_
  rw [applyW_miss _ _ _ (by simp; omega), applyW_miss]
  intro hm
  rw [chWrites_keys] at hm
  have := (mem_freeTo.1 (List.mem_of_mem_take hm)).2.1
  omega
theorem chWrites_nodup {D : Dsk} {S : St} {F : Option St} {l : List Placed} : ((chWrites S l (freeOf D S F)).map (·.1)).Nodup := by
  rw [chWrites_keys]
  exact (freeTo_nodup _ _).sublist (List.take_sublist _ _)
/-- behind a change the new state lies on the pages, and the elder one still does -/
theorem chPages_holds {D : Dsk} {S : St} {F : Option St} (h : Inv D S F) {l : List Placed} (M : Mix S l) : Holds (chPages D.now S l (freeOf D S F)) (S.next l (freeOf D S F)) ∧ Holds (chPages D.now S l (freeOf D S F)) S := by
  refine ⟨next_holds h.holds M (fun x hx => ?_) (fun x hx => chPages_used h l hx) ?_, h.holds.congr (chPages_root h l) (fun x hx => chPages_used h l hx)⟩
  · obtain ⟨a, b, _⟩ := chKeys hx
    have hat := h.legal.ok.at_
    unfold chPages
    rw [applyW_miss _ _ _ (by simp; omega)]
    exact applyW_hit _ _ x hx (chWrites_nodup (D := D) (F := F)) a
  · have hat := h.legal.ok.at_
    have := h.legal.two
    unfold chPages
    exact oneWrite_at (by rw [applyW_length]; omega)
/-- a change for which there is no room -/
theorem change_full {D : Dsk} {S : St} {F : Option St} {l : List Placed} (h : (freeOf D S F).length < needOf l ∨ S.gen = 9223372036854775807) : changeP D S F l = (92, D, S, F) := by
  unfold changeP
  dsimp only
  rw [if_pos h]
theorem chDsk_ok {D : Dsk} {S : St} {F : Option St} (h : Inv D S F) (l : List Placed) (a : Nat) (dn : Bool) (f : Int) : Dsk.ok { D with safe := chPages D.now S l (freeOf D S F), now := chPages D.now S l (freeOf D S F), writes := [], armed := a, down := dn, falls := f } := by
  have h64 : ∀ p ∈ chPages D.now S l (freeOf D S F), p.length = 64 := by
    unfold chPages
    refine applyW_64 _ (fun x hx => ?_) _ (applyW_64 _ (chWrites_64 _ _ _) _ h.ok.now64)
    rw [List.mem_singleton.1 hx]
    exact sealP_length _ _ (rootRaw_length _)
  exact ⟨rfl, by rw [chPages_length]; exact h.ok.few, h64, h64, fun x hx => by cases hx⟩
/-- the disk behind a change that is done -/
def chDsk (D : Dsk) (S : St) (F : Option St) (l : List Placed) : Dsk := { D with safe := chPages D.now S l (freeOf D S F), now := chPages D.now S l (freeOf D S F), writes := [] }
/-- a change that is done -/
theorem Inv.change {D : Dsk} {S : St} {F : Option St} (h : Inv D S F) {l : List Placed} (ha : D.armed = 0) (hn : needOf l ≤ (freeOf D S F).length) (hg : S.gen ≠ 9223372036854775807) :
    changeP D S F l = (0, chDsk D S F l, S.next l (freeOf D S F), some S) := by
  have hat := h.legal.ok.at_
  have h2 := h.legal.two
  unfold changeP
  dsimp only
  rw [if_neg (by omega)]
  have e1 := all_quiet (chWrites S l (freeOf D S F)) D h.up ha (fun x hx => ⟨(chKeys hx).1, chWrites_64 _ _ _ x hx⟩)
  rw [show newWr l (freeOf D S F) l.length ++ idxWrites (S.next l (freeOf D S F)) = chWrites S l (freeOf D S F) from rfl, e1]
  dsimp only
  rw [if_neg (by simp)]
  have e2 := all_quiet [((S.next l (freeOf D S F)).at_, sealP (S.next l (freeOf D S F)).at_ (rootRaw (S.next l (freeOf D S F))))] { D with now := applyW D.now (chWrites S l (freeOf D S F)), safe := applyW D.safe (D.writes ++ chWrites S l (freeOf D S F)), writes := [] } h.up ha (fun x hx => by
    rw [List.mem_singleton.1 hx]
    refine ⟨?_, sealP_length _ _ (rootRaw_length _)⟩
    simp only [St.next, applyW_length]
    omega)
  rw [e2]
  dsimp only
  rw [if_neg (by simp), h.wr, h.same]
  simp only [List.nil_append]
  rfl
theorem Inv.changed {D : Dsk} {S : St} {F : Option St} (h : Inv D S F) {l : List Placed} (M : Mix S l) (hn : needOf l ≤ (freeOf D S F).length) (hg : S.gen ≠ 9223372036854775807) (a : Nat) (f : Int) :
    Inv { chDsk D S F l with armed := a, falls := f } (S.next l (freeOf D S F)) (some S) := by
  have hat := h.legal.ok.at_
  obtain ⟨h1, h2⟩ := chPages_holds h M
  have hl : (chPages D.now S l (freeOf D S F)).length = D.now.length := chPages_length _ _ _ _
  refine ⟨chDsk_ok h l _ _ _, h.up, rfl, rfl, ?_, h1, ?_, h2, ?_, ?_⟩
  · show Legal _ (chPages D.now S l (freeOf D S F)).length
    rw [hl]; exact next_legal h.legal M hn (by omega)
  · show Legal _ (chPages D.now S l (freeOf D S F)).length
    rw [hl]; exact h.legal
  · simp only [St.next]; omega
  · simp [St.next]

/-! ### a new store -/
theorem firstSt_legal (n houses : Nat) (h1 : 1 ≤ houses) (h8 : houses ≤ 8) (hn : 2 ≤ n) (hn2 : n ≤ 1024) : Legal (firstSt houses) n := by
  refine ⟨⟨by simp [firstSt], h1, h8, by simp [firstSt], by simp [firstSt], by simp [firstSt], by simp [firstSt], by simp [firstSt]⟩, by simp [firstSt], hn2, hn, by simp [firstSt], by simp [firstSt], by simp [firstSt], by simp [usesOf, usesTo, firstSt], by simp [usesOf, usesTo, firstSt]⟩
theorem zeros_bad : rootBad 1 (zeros 64) = true := by
  have : rHouses (zeros 64) = 0 := by decide
  simp [rootBad, this]
theorem make_inv {D : Dsk} {houses : Nat} (ok : D.ok) (hu : D.down = false) (ha : D.armed = 0) (hw : D.writes = []) (hs : D.safe = D.now) (h2 : 2 ≤ D.now.length) (h1 : 1 ≤ houses) (h8 : houses ≤ 8) :
    ∃ D', makeP D houses = (0, D', some (firstSt houses)) ∧ Inv D' (firstSt houses) none ∧ D'.armed = 0 ∧ D'.falls = D.falls ∧ D'.now.length = D.now.length := by
  unfold makeP
  rw [if_neg (by omega), if_neg (by simp [hu]), if_neg (by omega)]
  have e1 := all_quiet [(0, zeros 64), (1, zeros 64)] D hu ha (fun x hx => by
    simp only [List.mem_cons, List.not_mem_nil, or_false] at hx
    rcases hx with rfl | rfl
    · exact ⟨by simp; omega, by simp [zeros]⟩
    · exact ⟨by simp; omega, by simp [zeros]⟩)
  rw [e1]
  dsimp only
  rw [if_neg (by simp), Int.toNat_natCast]
  have e2 := all_quiet [(0, sealP 0 (rootRaw (firstSt houses)))] { D with now := applyW D.now [(0, zeros 64), (1, zeros 64)], safe := applyW D.safe (D.writes ++ [(0, zeros 64), (1, zeros 64)]), writes := [] } hu ha (fun x hx => by
    rw [List.mem_singleton.1 hx]
    exact ⟨by simp only [applyW_length]; omega, sealP_length _ _ (rootRaw_length _)⟩)
  rw [e2]
  dsimp only
  rw [if_neg (by simp), hw, hs]
  simp only [List.nil_append]
  have hp : applyW (applyW D.now [(0, zeros 64), (1, zeros 64)]) [(0, sealP 0 (rootRaw (firstSt houses)))] = applyW (applyW D.now [(0, zeros 64), (1, zeros 64)]) [(0, sealP 0 (rootRaw (firstSt houses)))] := rfl
  generalize hP : applyW (applyW D.now [(0, zeros 64), (1, zeros 64)]) [(0, sealP 0 (rootRaw (firstSt houses)))] = P at *
  have hl : P.length = D.now.length := by rw [← hP, applyW_length, applyW_length]
  have h64 : ∀ p ∈ P, p.length = 64 := by
    rw [← hP]
    refine applyW_64 _ (fun x hx => ?_) _ (applyW_64 _ (fun x hx => ?_) _ ok.now64)
    · rw [List.mem_singleton.1 hx]; exact sealP_length _ _ (rootRaw_length _)
    · simp only [List.mem_cons, List.not_mem_nil, or_false] at hx
      rcases hx with rfl | rfl <;> simp [zeros]
  have p0 : P[0]? = some (sealP 0 (rootRaw (firstSt houses))) := by rw [← hP]; exact oneWrite_at (by rw [applyW_length]; omega)
  have p1 : P[1]? = some (zeros 64) := by
    rw [← hP, applyW_miss _ _ _ (by simp)]
    exact applyW_hit _ _ (1, zeros 64) (by simp) (by simp) (by simp; omega)
  refine ⟨_, rfl, ⟨⟨rfl, by rw [hl]; exact ok.few, h64, h64, fun x hx => by cases hx⟩, hu, rfl, rfl, ?_, ?_, ?_⟩, ha, rfl, hl⟩
  · show Legal _ P.length
    rw [hl]; exact firstSt_legal _ _ h1 h8 h2 ok.few
  · exact ⟨p0, fun x hx => by simp [idxWrites, firstSt] at hx, fun p hp => by simp [firstSt] at hp⟩
  · show rootBad 1 ((P[1]?).getD []) = true
    rw [p1]; exact zeros_bad
end Go.Proofs.YtlbaagjbehdmgaaGreat

namespace Go.Proofs.YtlbaagjbehdmgaaGreat
/-! ### the order of bodies -/
def blt : List UInt8 → List UInt8 → Bool
  | _, [] => false
  | [], _ :: _ => true
  | a :: x, b :: y => decide (a < b) || (a == b && blt x y)
theorem blt_irrefl : ∀ a, blt a a = false
  | [] => rfl
  | a :: x => by simp [blt, blt_irrefl x]
theorem blt_trans : ∀ a b c, blt a b = true → blt b c = true → blt a c = true
  | _, _, [], _, h => by cases ‹List UInt8› <;> simp [blt] at h
  | [], _, _ :: _, _, _ => rfl
  | _ :: _, [], _ :: _, h, _ => by simp [blt] at h
  | a :: x, b :: y, c :: z, h1, h2 => by
    simp only [blt, Bool.or_eq_true, decide_eq_true_eq, Bool.and_eq_true, beq_iff_eq] at *
    rcases h1 with h1 | ⟨rfl, h1⟩
    · rcases h2 with h2 | ⟨rfl, h2⟩
      · exact .inl (UInt8.lt_trans h1 h2)
      · exact .inl h1
    · rcases h2 with h2 | ⟨rfl, h2⟩
      · exact .inl h2
      · exact .inr ⟨rfl, blt_trans x y z h1 h2⟩
theorem blt_total : ∀ a b, blt a b = false → blt b a = false → a = b
  | [], [], _, _ => rfl
  | [], _ :: _, h, _ => by simp [blt] at h
  | _ :: _, [], _, h => by simp [blt] at h
  | a :: x, b :: y, h1, h2 => by
    simp only [blt, Bool.or_eq_false_iff, decide_eq_false_iff_not, Bool.and_eq_false_iff, beq_eq_false_iff_ne] at h1 h2
    have e : a = b := by
      rcases UInt8.lt_or_lt_of_ne (a := a) (b := b) |> fun f => Classical.em (a = b) with e | e
      · exact e
      · rcases UInt8.lt_or_lt_of_ne e with h | h
        · exact absurd h h1.1
        · exact absurd h h2.1
    subst e
    have h3 : blt x y = false := by rcases h1.2 with h | h; exact absurd rfl h; exact h
    have h4 : blt y x = false := by rcases h2.2 with h | h; exact absurd rfl h; exact h
    rw [blt_total x y h3 h4]
theorem blt_asymm {a b : List UInt8} (h : blt a b = true) : blt b a = false := by
  cases hb : blt b a with
  | false => rfl
  | true => have := blt_trans a b a h hb; rw [blt_irrefl] at this; cases this
/-- the lesser of two -/
def bmin (a b : List UInt8) : List UInt8 := if blt b a = true then b else a
theorem bmin_le_left (a b : List UInt8) : blt a (bmin a b) = false := by
  unfold bmin; split
  · rename_i h; exact blt_asymm h
  · exact blt_irrefl a
theorem bmin_le_right (a b : List UInt8) : blt b (bmin a b) = false := by
  unfold bmin; split
  · exact blt_irrefl b
  · rename_i h; simpa using h

/-! ### the least of the entries given -/
def least1 (h n : Int) (acc : Option Ent) (e : Ent) : Option Ent :=
  if e.valid = true ∧ e.house = h ∧ e.no = n then (match acc with | none => some e | some x => if blt e.body x.body = true then some e else some x) else acc
def leastP (L : List Ent) (h n : Int) : Option Ent := L.foldl (least1 h n) none
theorem leastP_snoc (L : List Ent) (e : Ent) (h n : Int) : leastP (L ++ [e]) h n = least1 h n (leastP L h n) e := by simp [leastP]
/-- what the least one is -/
def IsLeast (L : List Ent) (h n : Int) : Option Ent → Prop
  | none => ∀ e ∈ L, e.valid = true → e.house = h → e.no = n → False
  | some x => x ∈ L ∧ x.valid = true ∧ x.house = h ∧ x.no = n ∧ ∀ e ∈ L, e.valid = true → e.house = h → e.no = n → blt e.body x.body = false
theorem leastP_is (L : List Ent) (h n : Int) : IsLeast L h n (leastP L h n) := by
  have key : ∀ (M : List Ent) (P : List Ent) (acc : Option Ent), IsLeast P h n acc → IsLeast (P ++ M) h n (M.foldl (least1 h n) acc) := by
    intro M
    induction M with
    | nil => intro P acc hp; rw [List.append_nil]; exact hp
    | cons e M ih =>
      intro P acc hp
      rw [show P ++ e :: M = (P ++ [e]) ++ M by simp, List.foldl_cons]
      apply ih
      unfold least1
      split
      · rename_i hc
        obtain ⟨c1, c2, c3⟩ := hc
        cases acc with
        | none =>
          refine ⟨by simp, c1, c2, c3, fun x hx h1 h2 h3 => ?_⟩
          rcases List.mem_append.1 hx with hx | hx
          · exact (hp x hx h1 h2 h3).elim
          · rw [List.mem_singleton.1 hx]; exact blt_irrefl _
        | some y =>
          obtain ⟨p1, p2, p3, p4, p5⟩ := hp
          dsimp only
          split
          · rename_i hlt
            refine ⟨by simp, c1, c2, c3, fun x hx h1 h2 h3 => ?_⟩
            rcases List.mem_append.1 hx with hx | hx
            · have := p5 x hx h1 h2 h3
              cases hb : blt x.body e.body with
              | false => rfl
              | true => rw [blt_trans _ _ _ hb hlt] at this; cases this
            · rw [List.mem_singleton.1 hx]; exact blt_irrefl _
          · rename_i hlt
            refine ⟨by simp [p1], p2, p3, p4, fun x hx h1 h2 h3 => ?_⟩
            rcases List.mem_append.1 hx with hx | hx
            · exact p5 x hx h1 h2 h3
            · rw [List.mem_singleton.1 hx]; simpa using hlt
      · rename_i hc
        cases acc with
        | none =>
          intro x hx h1 h2 h3
          rcases List.mem_append.1 hx with hx | hx
          · exact hp x hx h1 h2 h3
          · rw [List.mem_singleton.1 hx] at h1 h2 h3; exact hc ⟨h1, h2, h3⟩
        | some y =>
          obtain ⟨p1, p2, p3, p4, p5⟩ := hp
          refine ⟨by simp [p1], p2, p3, p4, fun x hx h1 h2 h3 => ?_⟩
          rcases List.mem_append.1 hx with hx | hx
          · exact p5 x hx h1 h2 h3
          · rw [List.mem_singleton.1 hx] at h1 h2 h3; exact absurd ⟨h1, h2, h3⟩ hc
  have := key L [] none (fun x hx => by cases hx)
  simpa [leastP] using this
theorem isLeast_unique {L M : List Ent} {h n : Int} {a b : Option Ent} (hm : ∀ e, e ∈ L ↔ e ∈ M) (ha : IsLeast L h n a) (hb : IsLeast M h n b) : a = b := by
  cases a with
  | none =>
    cases b with
    | none => rfl
    | some y =>
      obtain ⟨p1, p2, p3, p4, _⟩ := hb
      exact (ha y ((hm y).2 p1) p2 p3 p4).elim
  | some x =>
    obtain ⟨q1, q2, q3, q4, q5⟩ := ha
    cases b with
    | none => exact (hb x ((hm x).1 q1) q2 q3 q4).elim
    | some y =>
      obtain ⟨p1, p2, p3, p4, p5⟩ := hb
      have e1 := q5 y ((hm y).2 p1) p2 p3 p4
      have e2 := p5 x ((hm x).1 q1) q2 q3 q4
      have := blt_total _ _ e2 e1
      obtain ⟨a1, a2, a3⟩ := x
      obtain ⟨b1, b2, b3⟩ := y
      dsimp only at q3 q4 p3 p4 this
      rw [q3, q4, p3, p4, this]
theorem leastP_congr {L M : List Ent} (hm : ∀ e, e ∈ L ↔ e ∈ M) (h n : Int) : leastP L h n = leastP M h n := isLeast_unique hm (leastP_is L h n) (leastP_is M h n)
/-- its body -/
def leastB (L : List Ent) (h n : Nat) : Option (List UInt8) := (leastP L h n).map (·.body)
theorem leastP_eq {L : List Ent} {h n : Nat} {e : Ent} (hl : leastP L h n = some e) : e = ⟨h, n, e.body⟩ := by
  have := leastP_is L h n
  rw [hl] at this
  obtain ⟨_, _, h1, h2, _⟩ := this
  obtain ⟨a, b, c⟩ := e
  dsimp only at h1 h2
  rw [h1, h2]
theorem leastP_far (L : List Ent) (h n : Nat) (hn : 64 ≤ n) : leastP L h n = none := by
  have := leastP_is L h n
  cases hl : leastP L h n with
  | none => rfl
  | some e =>
    rw [hl] at this
    obtain ⟨_, h1, _, h2, _⟩ := this
    simp [Ent.valid] at h1
    omega

/-! ### Take, of entries with pages -/
def takeHouse (L : List Ent) (h : Nat) : Nat → Nat → List Placed × Nat → List Placed × Nat
  | 0, _, st => st
  | f + 1, no, st =>
    let pos := posOf (st.1.map (·.e)) h no
    let there := hitL (st.1.map (·.e)) pos h no
    match leastP L h no with
    | some e => if there = false ∨ blt e.body (((st.1[pos]?).map (·.e.body)).getD []) = true then takeHouse L h f (no + 1) (withRow st.1 pos there ⟨e, []⟩, st.2 + 1) else takeHouse L h f (no + 1) st
    | none => if there = true then takeHouse L h f (no + 1) st else st
def takeAll (L : List Ent) (l : List Placed) : Nat → List Placed × Nat
  | 0 => (l, 0)
  | h + 1 => takeHouse L h 65 0 (takeAll L l h)
/-- Store.Take: how many, the error, the disk, the states -/
def takeP (D : Dsk) (cur : St) (former : Option St) (falls : Int) (L : List Ent) : Nat × Int × Dsk × St × Option St :=
  if D.falls ≠ falls then (0, 91, D, cur, former) else
  let r := takeAll L cur.entries cur.houses
  if r.2 = 0 then (0, 0, D, cur, former) else
  let c := changeP D cur former r.1
  if c.1 ≠ 0 then (0, c) else (r.2, c)

/-! ### entries by houses -/
def houseL (h : Nat) (bs : List (List UInt8)) : List Ent := bs.mapIdx fun i b => ⟨h, i, b⟩
def joinH (B : Nat → List (List UInt8)) : Nat → List Ent
  | 0 => []
  | H + 1 => joinH B H ++ houseL H (B H)
theorem houseL_length (h : Nat) (bs : List (List UInt8)) : (houseL h bs).length = bs.length := by simp [houseL]
theorem houseL_get (h : Nat) (bs : List (List UInt8)) (i : Nat) : (houseL h bs)[i]? = (bs[i]?).map fun b => ⟨h, i, b⟩ := by simp [houseL]
theorem houseL_mem {h : Nat} {bs : List (List UInt8)} {e : Ent} : e ∈ houseL h bs ↔ ∃ (i : Nat) (b : List UInt8), bs[i]? = some b ∧ e = ⟨h, i, b⟩ := by
  constructor
  · intro he
    obtain ⟨i, hi⟩ := List.getElem?_of_mem he
    rw [houseL_get] at hi
    cases hb : bs[i]? with
    | none => rw [hb] at hi; cases hi
    | some b => rw [hb] at hi; exact ⟨i, b, hb, (Option.some.inj hi).symm⟩
  · rintro ⟨i, b, hb, rfl⟩
    exact List.mem_of_getElem? (i := i) (by rw [houseL_get, hb]; rfl)
theorem joinH_mem {B : Nat → List (List UInt8)} {H : Nat} {e : Ent} : e ∈ joinH B H ↔ ∃ (h i : Nat) (b : List UInt8), h < H ∧ (B h)[i]? = some b ∧ e = ⟨h, i, b⟩ := by
  induction H with
  | zero => simp [joinH]
  | succ H ih =>
    rw [joinH, List.mem_append, ih, houseL_mem]
    constructor
    · rintro (⟨h, i, b, h1, h2, h3⟩ | ⟨i, b, h2, h3⟩)
      · exact ⟨h, i, b, by omega, h2, h3⟩
      · exact ⟨H, i, b, by omega, h2, h3⟩
    · rintro ⟨h, i, b, h1, h2, h3⟩
      by_cases e : h = H
      · subst e; exact .inr ⟨i, b, h2, h3⟩
      · exact .inl ⟨h, i, b, by omega, h2, h3⟩
/-- behind house h -/
def tailH (B : Nat → List (List UInt8)) (h : Nat) : Nat → List Ent
  | 0 => []
  | k + 1 => tailH B h k ++ houseL (h + 1 + k) (B (h + 1 + k))
theorem joinH_split (B : Nat → List (List UInt8)) (h k : Nat) : joinH B (h + 1 + k) = joinH B h ++ (houseL h (B h) ++ tailH B h k) := by
  induction k with
  | zero => simp [joinH, tailH]
  | succ k ih => rw [← Nat.add_assoc, joinH, ih, tailH]; simp
theorem tailH_mem {B : Nat → List (List UInt8)} {h k : Nat} {e : Ent} (he : e ∈ tailH B h k) : (h : Int) < e.house := by
  induction k with
  | zero => cases he
  | succ k ih =>
    rcases List.mem_append.1 he with he | he
    · exact ih he
    · obtain ⟨i, b, _, rfl⟩ := houseL_mem.1 he
      dsimp only; omega
def updB (B : Nat → List (List UInt8)) (h : Nat) (bs : List (List UInt8)) : Nat → List (List UInt8) := fun k => if k = h then bs else B k
theorem updB_same (B : Nat → List (List UInt8)) (h : Nat) (bs : List (List UInt8)) : updB B h bs h = bs := by simp [updB]
theorem updB_ne (B : Nat → List (List UInt8)) {h k : Nat} (bs : List (List UInt8)) (e : k ≠ h) : updB B h bs k = B k := by simp [updB, e]
theorem joinH_congr {B B' : Nat → List (List UInt8)} {H : Nat} (h : ∀ k, k < H → B k = B' k) : joinH B H = joinH B' H := by
  induction H with
  | zero => rfl
  | succ H ih => rw [joinH, joinH, ih (fun k hk => h k (by omega)), h H (by omega)]
theorem tailH_congr {B B' : Nat → List (List UInt8)} {h k : Nat} (hh : ∀ j, h < j → B j = B' j) : tailH B h k = tailH B' h k := by
  induction k with
  | zero => rfl
  | succ k ih => rw [tailH, tailH, ih, hh _ (by omega)]
theorem joinH_upd (B : Nat → List (List UInt8)) (h k : Nat) (bs : List (List UInt8)) : joinH (updB B h bs) (h + 1 + k) = joinH B h ++ (houseL h bs ++ tailH B h k) := by
  rw [joinH_split, updB_same, joinH_congr (B' := B) (fun j hj => updB_ne B bs (by omega)), tailH_congr (B' := B) (fun j hj => updB_ne B bs (by omega))]
theorem filter_lt_house (h n : Nat) (bs : List (List UInt8)) : ∀ k, k ≤ bs.length → (((houseL h bs).take k).filter fun a => a.lt h n).length = min n k := by
  intro k
  induction k with
  | zero => intro _; simp
  | succ k ih =>
    intro hk
    have hl : k < (houseL h bs).length := by rw [houseL_length]; omega
    rw [List.take_succ_eq_append_getElem hl, List.filter_append, List.length_append, ih (by omega)]
    have hg : (houseL h bs)[k] = ⟨h, k, bs[k]⟩ := by
      have := houseL_get h bs k
      rw [List.getElem?_eq_getElem hl, List.getElem?_eq_getElem (show k < bs.length by omega)] at this
      exact Option.some.inj this
    rw [hg]
    by_cases e : k < n
    · have : Ent.lt ⟨h, k, bs[k]⟩ h n = true := by simp [Ent.lt]; omega
      simp [this]; omega
    · have : Ent.lt ⟨h, k, bs[k]⟩ h n = false := by simp [Ent.lt]; omega
      simp [this]; omega
theorem posOf_join (B : Nat → List (List UInt8)) (h k n : Nat) (hn : n ≤ (B h).length) : posOf (joinH B (h + 1 + k)) h n = (joinH B h).length + n := by
  unfold posOf
  rw [joinH_split, List.filter_append, List.filter_append, List.length_append, List.length_append]
  have e1 : (joinH B h).filter (fun a => a.lt h n) = joinH B h := List.filter_eq_self.2 (fun e he => by
    obtain ⟨h', i, b, hh, _, rfl⟩ := joinH_mem.1 he
    simp [Ent.lt]; omega)
  have e2 : (tailH B h k).filter (fun a => a.lt h n) = [] := List.filter_eq_nil_iff.2 (fun e he => by
    have := tailH_mem he
    simp [Ent.lt]; omega)
  have e3 := filter_lt_house h n (B h) (B h).length (Nat.le_refl _)
  rw [List.take_of_length_le (by rw [houseL_length]; exact Nat.le_refl _)] at e3
  rw [e1, e2, e3]
  simp; omega
theorem hitL_join (B : Nat → List (List UInt8)) (h k n : Nat) (hn : n ≤ (B h).length) : hitL (joinH B (h + 1 + k)) ((joinH B h).length + n) h n = decide (n < (B h).length) := by
  unfold hitL
  rw [joinH_split, List.getElem?_append_right (by omega), Nat.add_sub_cancel_left]
  by_cases e : n < (B h).length
  · rw [List.getElem?_append_left (by rw [houseL_length]; exact e), houseL_get, List.getElem?_eq_getElem e]
    simp only [Option.map_some]
    rw [decide_eq_true e]
    simp [cmpKey_eq]
  · have e' : n = (B h).length := by omega
    rw [List.getElem?_append_right (by rw [houseL_length]; omega), houseL_length, e', Nat.sub_self, decide_eq_false (by omega)]
    cases hq : (tailH B h k)[0]? with
    | none => rfl
    | some a =>
      have := tailH_mem (List.mem_of_getElem? hq)
      simp only [beq_eq_false_iff_ne, ne_eq, cmpKey_eq]
      omega
theorem withRow_join (B : Nat → List (List UInt8)) (h k n : Nat) (b : List UInt8) (hn : n ≤ (B h).length) :
    withRow (joinH B (h + 1 + k)) ((joinH B h).length + n) (decide (n < (B h).length)) ⟨h, n, b⟩ = joinH (updB B h (if n < (B h).length then (B h).set n b else B h ++ [b])) (h + 1 + k) := by
  rw [joinH_upd]
  unfold withRow
  by_cases e : n < (B h).length
  · rw [decide_eq_true e, if_pos rfl, if_pos e, joinH_split, List.set_append_right _ _ (by omega), Nat.add_sub_cancel_left, List.set_append_left _ _ (by rw [houseL_length]; exact e)]
    congr 2
    apply List.ext_getElem?
    intro j
    rw [List.getElem?_set, houseL_length, houseL_get, houseL_get, List.getElem?_set]
    by_cases ej : n = j
    · subst ej; simp [e]
    · simp [ej]
  · have e' : n = (B h).length := by omega
    rw [decide_eq_false e, if_neg (by simp), if_neg e, joinH_split]
    rw [List.take_append, List.take_of_length_le (show (joinH B h).length ≤ (joinH B h).length + n by omega), Nat.add_sub_cancel_left, List.take_append, List.take_of_length_le (by rw [houseL_length]; omega), houseL_length, show n - (B h).length = 0 by omega, List.take_zero, List.append_nil]
    rw [List.drop_append, List.drop_of_length_le (show (joinH B h).length ≤ (joinH B h).length + n by omega), Nat.add_sub_cancel_left, List.nil_append, List.drop_append, List.drop_of_length_le (by rw [houseL_length]; omega), houseL_length, show n - (B h).length = 0 by omega, List.drop_zero, List.nil_append]
    have : houseL h (B h ++ [b]) = houseL h (B h) ++ [⟨h, n, b⟩] := by
      rw [e']; simp [houseL]
    rw [this]; simp
theorem joinH_at (B : Nat → List (List UInt8)) (h k n : Nat) (hn : n < (B h).length) : (joinH B (h + 1 + k))[(joinH B h).length + n]? = some ⟨h, n, (B h)[n]⟩ := by
  rw [joinH_split, List.getElem?_append_right (by omega), Nat.add_sub_cancel_left, List.getElem?_append_left (by rw [houseL_length]; exact hn), houseL_get, List.getElem?_eq_getElem hn]
  rfl
end Go.Proofs.YtlbaagjbehdmgaaGreat
