/- Take again, and in any order; Add of what is there; what is wanted. -/
import Derived.Test.YtlbaagjbehdmgaaGreatM35
namespace Go.Proofs.YtlbaagjbehdmgaaGreat
/-! ### Take, again and in any order; Add of what is there; what is wanted -/
theorem newB_congr {L M : List Ent} (hm : ∀ e, e ∈ L ↔ e ∈ M) (B : Nat → List (List UInt8)) (h : Nat) : newB L B h = newB M B h := by
  have : leastB L h = leastB M h := by
    funext i
    unfold leastB
    rw [leastP_congr hm]
  unfold newB
  rw [this]
theorem bmin_self (a : List UInt8) : bmin a a = a := by unfold bmin; split <;> rfl
/-- taken again, nothing turns -/
theorem newB_again (L : List Ent) {B : Nat → List (List UInt8)} {h : Nat} (hl : (B h).length ≤ 64) : newB L (newB L B) h = newB L B h := by
  obtain ⟨G, _⟩ := newB_grown L B h hl
  have hR : (newB L B h).length ≤ 64 := by
    by_cases c : (newB L B h).length ≤ 64
    · exact c
    · have h1 := G.new 64 hl (by omega)
      rw [List.getElem?_eq_getElem (by omega)] at h1
      have := (leastB_mem h1).2
      simp [Ent.valid] at this
  obtain ⟨G2, _⟩ := newB_grown L (newB L B) h hR
  refine G2.unique ⟨Nat.le_refl _, fun i b hb => ?_, fun i h1 h2 => by omega, G.stop⟩
  rw [hb]
  cases hm : leastB L h i with
  | none => rfl
  | some c =>
    dsimp only
    have hil := (List.getElem?_eq_some_iff.1 hb).1
    by_cases c1 : i < (B h).length
    · have h1 := G.old i (B h)[i] (by simp [c1])
      rw [hb, hm] at h1
      dsimp only at h1
      rw [Option.some.inj h1]
      unfold bmin
      by_cases c2 : blt c (B h)[i] = true
      · rw [if_pos c2, blt_irrefl]; simp
      · rw [if_neg c2, if_neg c2]
    · have h1 := G.new i (by omega) hil
      rw [hb, hm] at h1
      rw [← Option.some.inj h1, bmin_self]
theorem ByH.find {S : St} {B : Nat → List (List UInt8)} (hb : ByH S B) {h i : Nat} {b : List UInt8} (hh : h < S.houses) (hi : (B h)[i]? = some b) : (entsOf S)[posOf (entsOf S) h i]? = some ⟨h, i, b⟩ := by
  have hil := (List.getElem?_eq_some_iff.1 hi).1
  obtain ⟨k, hk⟩ : ∃ k, S.houses = h + 1 + k := ⟨S.houses - (h + 1), by omega⟩
  rw [hb.ents, hk, posOf_join B h k i (by omega), joinH_at B h k i hil]
  rw [List.getElem?_eq_getElem hil] at hi
  rw [Option.some.inj hi]
/-- Add of what is there -/
theorem add_there {D : Dsk} {S : St} {F : Option St} {B : Nat → List (List UInt8)} (hb : ByH S B) (h8 : S.houses ≤ 8) {e : Ent} (he : e ∈ entsOf S) : addP D S F D.falls e = (0, D, S, F) := by
  rw [hb.ents] at he
  obtain ⟨v, _, hlt⟩ := join_valid h8 hb.len hb.body e he
  obtain ⟨h, i, b, hh, hi, rfl⟩ := joinH_mem.1 he
  unfold addP
  rw [if_neg (by simp), if_neg (fun hc => by
    rcases hc with hc | hc
    · rw [v] at hc; cases hc
    · dsimp only at hc hlt; omega), if_pos (hb.find hh hi)]
theorem ByH.good {S : St} {B : Nat → List (List UInt8)} (hb : ByH S B) (h8 : S.houses ≤ 8) (hs : Sorted (entsOf S)) : S.good :=
  ⟨hs, fun p hp => by
    have : p.e ∈ joinH B S.houses := by rw [← hb.ents]; exact List.mem_map.2 ⟨p, hp, rfl⟩
    exact (join_valid h8 hb.len hb.body _ this).2.2⟩
/-- how many entries a house has -/
theorem count_join (B : Nat → List (List UInt8)) (h : Nat) : ∀ H, (joinH B H).countP (fun e => e.house == (h : Int)) = if h < H then (B h).length else 0
  | 0 => by simp [joinH]
  | H + 1 => by
    rw [joinH, List.countP_append, count_join B h H]
    by_cases e : h = H
    · subst e
      have : (houseL h (B h)).countP (fun e => e.house == (h : Int)) = (B h).length := by
        rw [← houseL_length h (B h), List.countP_eq_length]
        intro x hx
        obtain ⟨i, b, _, rfl⟩ := houseL_mem.1 hx
        simp
      rw [this, if_neg (by omega), if_pos (by omega)]; omega
    · have : (houseL H (B H)).countP (fun e => e.house == (h : Int)) = 0 := by
        rw [List.countP_eq_zero]
        intro x hx
        obtain ⟨i, b, _, rfl⟩ := houseL_mem.1 hx
        simp; omega
      rw [this]
      by_cases c : h < H
      · rw [if_pos c, if_pos (by omega)]; omega
      · rw [if_neg c, if_neg (by omega)]
theorem haveOf_join {S : St} {B : Nat → List (List UInt8)} (hb : ByH S B) : haveOf S = (List.range S.houses).map fun h => (B h).length := by
  unfold haveOf haveTo
  rw [← entries_len, List.take_length, hb.ents]
  apply List.map_congr_left
  intro h hh
  have := List.mem_range.1 hh
  rw [count_join, if_pos this]
theorem fromOf_mem {S : St} {h no : Int} {e : Ent} : e ∈ fromOf S h no ↔ e ∈ entsOf S ∧ e.house = h ∧ no ≤ e.no := by
  unfold fromOf fromE
  simp [List.mem_filter]
theorem fromOf_none {S : St} {B : Nat → List (List UInt8)} (hb : ByH S B) {h : Nat} {no : Int} (hn : ((B h).length : Int) ≤ no) : fromOf S h no = [] := by
  rw [List.eq_nil_iff_forall_not_mem]
  intro e he
  obtain ⟨h1, h2, h3⟩ := fromOf_mem.1 he
  rw [hb.ents] at h1
  obtain ⟨k, i, b, g1, g2, rfl⟩ := joinH_mem.1 h1
  have := (List.getElem?_eq_some_iff.1 g2).1
  dsimp only at h2 h3
  have : k = h := by omega
  subst this
  omega
/-- two entries one behind the other -/
theorem next_follows {H : Int} {es : List Ent} (hf : ∀ k e, es[k]? = some e → followsE H (es.take k) e = true) {k : Nat} {p e : Ent} (hp : es[k]? = some p) (he : es[k + 1]? = some e) : (e.house = p.house ∧ e.no = p.no + 1) ∨ (p.house < e.house ∧ e.no = 0) := by
  have h1 := hf (k + 1) e he
  have hk := (List.getElem?_eq_some_iff.1 hp).1
  have hl : (es.take (k + 1)).getLast? = some p := by
    rw [List.take_succ_eq_append_getElem hk, List.getLast?_append]
    rw [List.getElem?_eq_getElem hk] at hp
    simp [Option.some.inj hp]
  unfold followsE at h1
  rw [hl] at h1
  simp only [Bool.and_eq_true, comesAfter, Bool.or_eq_true, beq_iff_eq, decide_eq_true_eq] at h1
  exact h1.2
end Go.Proofs.YtlbaagjbehdmgaaGreat
