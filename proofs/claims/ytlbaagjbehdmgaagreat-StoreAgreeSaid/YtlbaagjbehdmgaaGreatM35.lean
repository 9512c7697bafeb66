/- What Take makes of a house. States by houses; room. Take of a store that stands; calls that are interrupted; what survives. A change that is interrupted, and what is found then. Take of a store that stands: its three ends. -/
import Derived.Test.YtlbaagjbehdmgaaGreatM34
namespace Go.Proofs.YtlbaagjbehdmgaaGreat
/-! ### what Take makes of a house -/
def growB (m : Nat → Option (List UInt8)) : Nat → Nat → List (List UInt8) × Nat → List (List UInt8) × Nat
  | 0, _, st => st
  | f + 1, no, st => match m no with
    | some b => if no < st.1.length then (if blt b ((st.1[no]?).getD []) = true then growB m f (no + 1) (st.1.set no b, st.2 + 1) else growB m f (no + 1) st) else growB m f (no + 1) (st.1 ++ [b], st.2 + 1)
    | none => if no < st.1.length then growB m f (no + 1) st else st
def hasPg (p : Placed) : Bool := !p.pages.isEmpty
theorem withRow_hasPg (l : List Placed) (pos : Nat) (hit : Bool) (e : Ent) (hp : hit = true → pos < l.length) : ((withRow l pos hit ⟨e, []⟩).filter hasPg).Sublist (l.filter hasPg) := by
  have h0 : hasPg ⟨e, []⟩ = false := rfl
  unfold withRow
  cases hit with
  | true =>
    rw [if_pos rfl, List.set_eq_take_append_cons_drop, if_pos (hp rfl), List.filter_append, List.filter_cons, h0]
    have : l = l.take pos ++ l[pos]'(hp rfl) :: l.drop (pos + 1) := by rw [← List.drop_eq_getElem_cons (hp rfl), List.take_append_drop]
    conv => rhs; rw [this, List.filter_append]
    refine List.Sublist.append (List.Sublist.refl _) ?_
    rw [if_neg (by simp)]
    exact (List.sublist_cons_self _ _).filter _
  | false =>
    rw [if_neg (by simp), List.filter_append, List.filter_cons, h0, if_neg (by simp), ← List.filter_append, List.take_append_drop]
    exact List.Sublist.refl _
theorem withRow_map' {α β : Type} (f : α → β) (l : List α) (pos : Nat) (hit : Bool) (x : α) : (withRow l pos hit x).map f = withRow (l.map f) pos hit (f x) := by
  unfold withRow
  split <;> simp [List.map_take, List.map_drop, List.map_set]
theorem takeHouse_grow (L : List Ent) (h k : Nat) : ∀ (f no : Nat) (st : List Placed × Nat) (B : Nat → List (List UInt8)), st.1.map (·.e) = joinH B (h + 1 + k) → no ≤ (B h).length →
    (takeHouse L h f no st).1.map (·.e) = joinH (updB B h (growB (leastB L h) f no (B h, st.2)).1) (h + 1 + k) ∧ (takeHouse L h f no st).2 = (growB (leastB L h) f no (B h, st.2)).2 ∧
    ((takeHouse L h f no st).1.filter hasPg).Sublist (st.1.filter hasPg)
  | 0, no, st, B, hB, hn => by
    refine ⟨?_, rfl, List.Sublist.refl _⟩
    show st.1.map _ = joinH (updB B h (B h)) _
    rw [hB, joinH_congr (fun j _ => ?_)]
    by_cases e : j = h
    · subst e; rw [updB_same]
    · rw [updB_ne _ _ e]
  | f + 1, no, st, B, hB, hn => by
    have hpos := posOf_join B h k no hn
    have hhit := hitL_join B h k no hn
    have hself : joinH B (h + 1 + k) = joinH (updB B h (B h)) (h + 1 + k) := joinH_congr (fun j _ => by
      by_cases e : j = h
      · subst e; rw [updB_same]
      · rw [updB_ne _ _ e])
    unfold takeHouse growB
    rw [hB]
    dsimp only
    rw [hpos, hhit]
    cases hl : leastP L h no with
    | none =>
      have hb : leastB L h no = none := by simp [leastB, hl]
      rw [hb]
      dsimp only
      by_cases e : no < (B h).length
      · rw [if_pos (by simpa using e), if_pos e]
        exact takeHouse_grow L h k f (no + 1) st B hB (by omega)
      · rw [if_neg (by simpa using e), if_neg e]
        exact ⟨hB.trans hself, rfl, List.Sublist.refl _⟩
    | some x =>
      have hx := leastP_eq hl
      have hb : leastB L h no = some x.body := by simp [leastB, hl]
      rw [hb]
      dsimp only
      have hw := withRow_join B h k no x.body hn
      have hwm : (withRow st.1 ((joinH B h).length + no) (decide (no < (B h).length)) ⟨x, []⟩).map (·.e) = joinH (updB B h (if no < (B h).length then (B h).set no x.body else B h ++ [x.body])) (h + 1 + k) := by
        rw [withRow_map', hB]
        dsimp only
        conv => lhs; rw [hx]
        exact hw
      have hsub : ((withRow st.1 ((joinH B h).length + no) (decide (no < (B h).length)) ⟨x, []⟩).filter hasPg).Sublist (st.1.filter hasPg) := withRow_hasPg _ _ _ _ (fun hh => by
        have h1 : no < (B h).length := by simpa using hh
        have h2 := joinH_at B h k no h1
        have h3 := (List.getElem?_eq_some_iff.1 h2).1
        rw [← hB, List.length_map] at h3
        exact h3)
      by_cases e : no < (B h).length
      · have hbody : ((st.1[(joinH B h).length + no]?).map (·.e.body)).getD [] = ((B h)[no]?).getD [] := by
          have h2 := joinH_at B h k no e
          rw [← hB, List.getElem?_map] at h2
          cases hq : st.1[(joinH B h).length + no]? with
          | none => rw [hq] at h2; cases h2
          | some q =>
            rw [hq] at h2
            simp only [Option.map_some, Option.some.injEq] at h2
            simp [h2, e]
        rw [if_pos e]
        by_cases hlt : blt x.body (((B h)[no]?).getD []) = true
        · rw [if_pos hlt, if_pos (.inr (by rw [hbody]; exact hlt))]
          rw [if_pos e] at hwm
          have ih := takeHouse_grow L h k f (no + 1) (withRow st.1 ((joinH B h).length + no) (decide (no < (B h).length)) ⟨x, []⟩, st.2 + 1) _ hwm (by rw [updB_same, List.length_set]; omega)
          rw [updB_same] at ih
          refine ⟨ih.1.trans (joinH_congr fun j _ => ?_), ih.2.1, ih.2.2.trans hsub⟩
          by_cases ej : j = h
          · subst ej; rw [updB_same, updB_same]
          · rw [updB_ne _ _ ej, updB_ne _ _ ej, updB_ne _ _ ej]
        · rw [if_neg hlt, if_neg (fun hc => by
            rcases hc with hc | hc
            · simp at hc; omega
            · rw [hbody] at hc; exact hlt hc)]
          exact takeHouse_grow L h k f (no + 1) st B hB (by omega)
      · rw [if_neg e, if_pos (.inl (by simpa using e))]
        rw [if_neg e] at hwm
        have ih := takeHouse_grow L h k f (no + 1) (withRow st.1 ((joinH B h).length + no) (decide (no < (B h).length)) ⟨x, []⟩, st.2 + 1) _ hwm (by rw [updB_same, List.length_append]; simp; omega)
        rw [updB_same] at ih
        refine ⟨ih.1.trans (joinH_congr fun j _ => ?_), ih.2.1, ih.2.2.trans hsub⟩
        by_cases ej : j = h
        · subst ej; rw [updB_same, updB_same]
        · rw [updB_ne _ _ ej, updB_ne _ _ ej, updB_ne _ _ ej]
theorem growB_count (m : Nat → Option (List UInt8)) : ∀ (f no : Nat) (own : List (List UInt8)) (n : Nat), (growB m f no (own, n)).1 = (growB m f no (own, 0)).1 ∧ (growB m f no (own, n)).2 = n + (growB m f no (own, 0)).2
  | 0, _, _, _ => ⟨rfl, rfl⟩
  | f + 1, no, own, n => by
    unfold growB
    cases m no with
    | none =>
      dsimp only
      split
      · exact growB_count m f (no + 1) own n
      · exact ⟨rfl, rfl⟩
    | some b =>
      dsimp only
      split
      · split
        · have h1 := growB_count m f (no + 1) (own.set no b) (n + 1)
          have h2 := growB_count m f (no + 1) (own.set no b) (0 + 1)
          exact ⟨h1.1.trans h2.1.symm, by rw [h1.2, h2.2]; omega⟩
        · exact growB_count m f (no + 1) own n
      · have h1 := growB_count m f (no + 1) (own ++ [b]) (n + 1)
        have h2 := growB_count m f (no + 1) (own ++ [b]) (0 + 1)
        exact ⟨h1.1.trans h2.1.symm, by rw [h1.2, h2.2]; omega⟩
def newB (L : List Ent) (B : Nat → List (List UInt8)) (h : Nat) : List (List UInt8) := (growB (leastB L h) 65 0 (B h, 0)).1
def newN (L : List Ent) (B : Nat → List (List UInt8)) (h : Nat) : Nat := (growB (leastB L h) 65 0 (B h, 0)).2
def sumN (f : Nat → Nat) : Nat → Nat
  | 0 => 0
  | k + 1 => sumN f k + f k
theorem takeAll_grow (L : List Ent) (l : List Placed) (B : Nat → List (List UInt8)) (H : Nat) (hB : l.map (·.e) = joinH B H) : ∀ h, h ≤ H →
    (takeAll L l h).1.map (·.e) = joinH (fun k => if k < h then newB L B k else B k) H ∧ (takeAll L l h).2 = sumN (newN L B) h ∧ ((takeAll L l h).1.filter hasPg).Sublist (l.filter hasPg)
  | 0, _ => ⟨by show l.map _ = _; rw [hB]; exact joinH_congr (fun k _ => by simp), rfl, List.Sublist.refl _⟩
  | h + 1, hh => by
    obtain ⟨i1, i2, i3⟩ := takeAll_grow L l B H hB h (by omega)
    obtain ⟨k, rfl⟩ : ∃ k, H = h + 1 + k := ⟨H - (h + 1), by omega⟩
    have ht := takeHouse_grow L h k 65 0 (takeAll L l h) _ i1 (Nat.zero_le _)
    rw [if_neg (Nat.lt_irrefl h)] at ht
    have hc := growB_count (leastB L h) 65 0 (B h) (takeAll L l h).2
    show (takeHouse L h 65 0 (takeAll L l h)).1.map _ = _ ∧ _
    refine ⟨ht.1.trans (joinH_congr fun j _ => ?_), ?_, ht.2.2.trans i3⟩
    · by_cases e : j = h
      · subst e
        rw [updB_same, hc.1, if_pos (by omega)]; rfl
      · rw [updB_ne _ _ e]
        by_cases e2 : j < h
        · rw [if_pos e2, if_pos (by omega)]
        · rw [if_neg e2, if_neg (by omega)]
    · show (takeHouse L h 65 0 (takeAll L l h)).2 = _
      rw [ht.2.1, hc.2, i2]; rfl
/-- what a house has behind a Take -/
structure Grown (m : Nat → Option (List UInt8)) (own own' : List (List UInt8)) : Prop where
  len : own.length ≤ own'.length
  old : ∀ i b, own[i]? = some b → own'[i]? = some (match m i with | none => b | some c => bmin b c)
  new : ∀ i, own.length ≤ i → i < own'.length → m i = own'[i]?
  stop : m own'.length = none
theorem Grown.unique {m : Nat → Option (List UInt8)} {own a b : List (List UInt8)} (ha : Grown m own a) (hb : Grown m own b) : a = b := by
  have key : ∀ {a b : List (List UInt8)}, Grown m own a → Grown m own b → a.length ≤ b.length := by
    intro a b ha hb
    by_cases h : a.length ≤ b.length
    · exact h
    · have h1 := hb.stop
      have h2 := ha.new b.length hb.len (by omega)
      rw [h1, List.getElem?_eq_getElem (by omega)] at h2
      cases h2
  have hl : a.length = b.length := Nat.le_antisymm (key ha hb) (key hb ha)
  apply List.ext_getElem?
  intro i
  by_cases h1 : i < own.length
  · rw [ha.old i own[i] (by simp), hb.old i own[i] (by simp)]
  · by_cases h2 : i < a.length
    · rw [← ha.new i (by omega) h2, ← hb.new i (by omega) (by omega)]
    · rw [List.getElem?_eq_none (by omega), List.getElem?_eq_none (by omega)]
/-- in the midst of a Take -/
structure Growing (m : Nat → Option (List UInt8)) (own : List (List UInt8)) (n no : Nat) (st : List (List UInt8) × Nat) : Prop where
  le : no ≤ st.1.length
  len : own.length ≤ st.1.length
  done : ∀ i b, i < no → own[i]? = some b → st.1[i]? = some (match m i with | none => b | some c => bmin b c)
  todo : ∀ i, no ≤ i → st.1[i]? = own[i]?
  new : ∀ i, own.length ≤ i → i < st.1.length → m i = st.1[i]?
  cnt : n ≤ st.2
  iff : st.2 = n ↔ st.1 = own
theorem growB_grown (m : Nat → Option (List UInt8)) (own : List (List UInt8)) (n : Nat) (hm : ∀ i, 64 ≤ i → m i = none) (ho : own.length ≤ 64) : ∀ (f no : Nat) (st : List (List UInt8) × Nat), f + no = 65 → Growing m own n no st →
    Grown m own (growB m f no st).1 ∧ n ≤ (growB m f no st).2 ∧ ((growB m f no st).2 = n ↔ (growB m f no st).1 = own)
  | 0, no, st, hf, G => by
    have h1 := G.le
    have : st.1.length ≤ 64 := by
      by_cases h : st.1.length ≤ 64
      · exact h
      · have := G.new 64 (by omega) (by omega)
        rw [hm 64 (Nat.le_refl _), List.getElem?_eq_getElem (by omega)] at this
        cases this
    omega
  | f + 1, no, st, hf, G => by
    unfold growB
    cases hq : m no with
    | none =>
      dsimp only
      by_cases e : no < st.1.length
      · rw [if_pos e]
        refine growB_grown m own n hm ho f (no + 1) st (by omega) ⟨e, G.len, fun i b hi hb => ?_, fun i hi => G.todo i (by omega), G.new, G.cnt, G.iff⟩
        by_cases ei : i = no
        · subst ei
          rw [hq, G.todo i (Nat.le_refl _)]; exact hb
        · exact G.done i b (by omega) hb
      · rw [if_neg e]
        have hl : st.1.length = no := by have := G.le; omega
        refine ⟨⟨G.len, fun i b hb => ?_, G.new, by rw [hl]; exact hq⟩, G.cnt, G.iff⟩
        have hi := (List.getElem?_eq_some_iff.1 hb).1
        have := G.len
        exact G.done i b (by omega) hb
    | some c =>
      dsimp only
      by_cases e : no < st.1.length
      · rw [if_pos e]
        have ht := G.todo no (Nat.le_refl _)
        have hown : no < own.length := by
          by_cases h : no < own.length
          · exact h
          · rw [List.getElem?_eq_getElem e, List.getElem?_eq_none (by omega)] at ht; cases ht
        have hx : st.1[no]? = some own[no] := by rw [ht]; simp
        rw [hx, Option.getD_some]
        by_cases hlt : blt c own[no] = true
        · rw [if_pos hlt]
          refine growB_grown m own n hm ho f (no + 1) (st.1.set no c, st.2 + 1) (by omega) ⟨by simp; omega, by simp; exact G.len, fun i b hi hb => ?_, fun i hi => ?_, fun i h1 h2 => ?_, by have := G.cnt; dsimp only; omega, ?_⟩
          · dsimp only
            by_cases ei : i = no
            · subst ei
              rw [List.getElem?_set, if_pos rfl, if_pos e, hq]
              have : own[i] = b := by rw [List.getElem?_eq_getElem hown] at hb; exact Option.some.inj hb
              subst this
              simp [bmin, hlt]
            · rw [List.getElem?_set, if_neg (fun h => ei h.symm)]
              exact G.done i b (by omega) hb
          · dsimp only
            rw [List.getElem?_set, if_neg (by omega)]
            exact G.todo i (by omega)
          · dsimp only at h2 ⊢
            rw [List.length_set] at h2
            rw [List.getElem?_set, if_neg (by omega)]
            exact G.new i h1 h2
          · dsimp only
            refine ⟨fun h => by have := G.cnt; omega, fun h => ?_⟩
            have h3 : (st.1.set no c)[no]? = own[no]? := by rw [h]
            rw [List.getElem?_set, if_pos rfl, if_pos e, List.getElem?_eq_getElem hown] at h3
            have h4 := Option.some.inj h3
            rw [h4, blt_irrefl] at hlt
            cases hlt
        · rw [if_neg hlt]
          refine growB_grown m own n hm ho f (no + 1) st (by omega) ⟨e, G.len, fun i b hi hb => ?_, fun i hi => G.todo i (by omega), G.new, G.cnt, G.iff⟩
          by_cases ei : i = no
          · subst ei
            rw [hq, G.todo i (Nat.le_refl _), hb]
            have : own[i] = b := by rw [List.getElem?_eq_getElem hown] at hb; exact Option.some.inj hb
            subst this
            simp [bmin, hlt]
          · exact G.done i b (by omega) hb
      · rw [if_neg e]
        have hl : st.1.length = no := by have := G.le; omega
        have hlo := G.len
        refine growB_grown m own n hm ho f (no + 1) (st.1 ++ [c], st.2 + 1) (by omega) ⟨by simp; omega, by simp; omega, fun i b hi hb => ?_, fun i hi => ?_, fun i h1 h2 => ?_, by have := G.cnt; dsimp only; omega, ?_⟩
        · dsimp only
          have hi2 := (List.getElem?_eq_some_iff.1 hb).1
          rw [List.getElem?_append_left (by omega)]
          exact G.done i b (by omega) hb
        · dsimp only
          rw [List.getElem?_eq_none (by simp; omega), List.getElem?_eq_none (by omega)]
        · dsimp only at h2 ⊢
          by_cases ei : i = no
          · subst ei
            rw [hq, List.getElem?_append_right (by omega), hl, Nat.sub_self]; rfl
          · rw [List.getElem?_append_left (by simp at h2; omega)]
            exact G.new i h1 (by simp at h2; omega)
        · dsimp only
          refine ⟨fun h => by have := G.cnt; omega, fun h => ?_⟩
          have : (st.1 ++ [c]).length = own.length := by rw [h]
          simp at this; omega
theorem newB_grown (L : List Ent) (B : Nat → List (List UInt8)) (h : Nat) (ho : (B h).length ≤ 64) : Grown (leastB L h) (B h) (newB L B h) ∧ (newN L B h = 0 ↔ newB L B h = B h) := by
  have := growB_grown (leastB L h) (B h) 0 (fun i hi => by simp [leastB, leastP_far L h i hi]) ho 65 0 (B h, 0) rfl ⟨Nat.zero_le _, Nat.le_refl _, fun i b hi => by omega, fun _ _ => rfl, fun i h1 h2 => by dsimp only at h2; omega, Nat.le_refl _, by simp⟩
  exact ⟨this.1, this.2.2⟩
theorem sumN_zero (f : Nat → Nat) : ∀ k, sumN f k = 0 ↔ ∀ i, i < k → f i = 0
  | 0 => by simp [sumN]
  | k + 1 => by
    simp only [sumN]
    have ih := sumN_zero f k
    constructor
    · intro h i hi
      by_cases e : i = k
      · subst e; omega
      · exact ih.1 (by omega) i (by omega)
    · intro h
      have h1 := ih.2 (fun i hi => h i (by omega))
      have h2 := h k (by omega)
      omega
/-- Take, of a state by houses -/
theorem take_spec (L : List Ent) (l : List Placed) (B : Nat → List (List UInt8)) (H : Nat) (hB : l.map (·.e) = joinH B H) (hlen : ∀ h, h < H → (B h).length ≤ 64) :
    (takeAll L l H).1.map (·.e) = joinH (newB L B) H ∧ (takeAll L l H).2 = sumN (newN L B) H ∧ ((takeAll L l H).1.filter hasPg).Sublist (l.filter hasPg) ∧
    ((takeAll L l H).2 = 0 ↔ ∀ h, h < H → newB L B h = B h) := by
  obtain ⟨h1, h2, h3⟩ := takeAll_grow L l B H hB H (Nat.le_refl _)
  refine ⟨h1.trans (joinH_congr fun k hk => by rw [if_pos hk]), h2, h3, ?_⟩
  rw [h2, sumN_zero]
  constructor
  · intro h i hi
    exact (newB_grown L B i (hlen i hi)).2.1 (h i hi)
  · intro h i hi
    exact (newB_grown L B i (hlen i hi)).2.2 (h i hi)
end Go.Proofs.YtlbaagjbehdmgaaGreat

namespace Go.Proofs.YtlbaagjbehdmgaaGreat
/-! ### states by houses -/
structure ByH (S : St) (B : Nat → List (List UInt8)) : Prop where
  ents : entsOf S = joinH B S.houses
  len : ∀ h, h < S.houses → (B h).length ≤ 64
  body : ∀ h, h < S.houses → ∀ b ∈ B h, b.length ≤ 180
theorem join_valid {B : Nat → List (List UInt8)} {H : Nat} (h8 : H ≤ 8) (len : ∀ h, h < H → (B h).length ≤ 64) (body : ∀ h, h < H → ∀ b ∈ B h, b.length ≤ 180) : ∀ e ∈ joinH B H, e.valid = true ∧ 0 ≤ e.house ∧ e.house < H := by
  intro e he
  obtain ⟨h, i, b, h1, h2, rfl⟩ := joinH_mem.1 he
  have h3 := len h h1
  have h4 := (List.getElem?_eq_some_iff.1 h2).1
  have h5 := body h h1 b (List.mem_of_getElem? h2)
  refine ⟨?_, by dsimp only; omega, by dsimp only; omega⟩
  simp [Ent.valid]; omega
/-- does an entry come next? -/
def followsE (H : Int) (es : List Ent) (e : Ent) : Bool := e.valid && decide (e.house < H) && (match es.getLast? with | some q => comesAfter q e | none => e.no == 0)
theorem followsP_E (H : Int) (l : List Placed) (e : Ent) : followsP H l e = followsE H (l.map (·.e)) e := by
  unfold followsP followsE
  rw [List.getLast?_map]
  cases l.getLast? <;> rfl
theorem houseL_last (h : Nat) (bs : List (List UInt8)) (i : Nat) (hi : i < bs.length) : ((houseL h bs).take (i + 1)).getLast? = some ⟨h, i, bs[i]⟩ := by
  have hl : i < (houseL h bs).length := by rw [houseL_length]; exact hi
  rw [List.take_succ_eq_append_getElem hl, List.getLast?_append]
  have := houseL_get h bs i
  rw [List.getElem?_eq_getElem hl, List.getElem?_eq_getElem hi] at this
  simp only [List.getLast?_singleton]
  exact this
theorem join_follows {B : Nat → List (List UInt8)} : ∀ (H : Nat), H ≤ 8 → (∀ h, h < H → (B h).length ≤ 64) → (∀ h, h < H → ∀ b ∈ B h, b.length ≤ 180) →
    ∀ (G : Int), (H : Int) ≤ G → ∀ k e, (joinH B H)[k]? = some e → followsE G ((joinH B H).take k) e = true
  | 0, _, _, _, _, _, k, e, hk => by simp [joinH] at hk
  | H + 1, h8, len, body, G, hG, k, e, hk => by
    have hv := join_valid h8 len body e (List.mem_of_getElem? hk)
    have ih := join_follows H (by omega) (fun h hh => len h (by omega)) (fun h hh => body h (by omega)) G (by omega)
    rw [joinH] at hk ⊢
    by_cases hlt : k < (joinH B H).length
    · rw [List.getElem?_append_left hlt] at hk
      rw [List.take_append_of_le_length (by omega)]
      exact ih k e hk
    · rw [List.getElem?_append_right (by omega), houseL_get] at hk
      have hi : k - (joinH B H).length < (B H).length := by
        by_cases h : k - (joinH B H).length < (B H).length
        · exact h
        · rw [List.getElem?_eq_none (by omega)] at hk; cases hk
      rw [List.getElem?_eq_getElem hi] at hk
      simp only [Option.map_some, Option.some.injEq] at hk
      rw [List.take_append, List.take_of_length_le (by omega)]
      generalize hik : k - (joinH B H).length = i at *
      unfold followsE
      have hh1 : decide (e.house < G) = true := by
        have := hv.2.2
        simp; omega
      rw [hv.1, hh1]
      simp only [Bool.true_and]
      cases i with
      | zero =>
        rw [List.take_zero, List.append_nil]
        cases hq : (joinH B H).getLast? with
        | none => subst hk; simp
        | some q =>
          have hm := List.mem_of_getLast? hq
          obtain ⟨h', i', b', g1, _, rfl⟩ := joinH_mem.1 hm
          subst hk
          simp [comesAfter]; omega
      | succ i =>
        rw [List.getLast?_append, houseL_last H (B H) i (by omega)]
        subst hk
        simp [comesAfter]
theorem mix_of_join {cur : St} {l : List Placed} {B : Nat → List (List UInt8)} (h8 : cur.houses ≤ 8) (hB : l.map (·.e) = joinH B cur.houses) (len : ∀ h, h < cur.houses → (B h).length ≤ 64) (body : ∀ h, h < cur.houses → ∀ b ∈ B h, b.length ≤ 180)
    (hs : (l.filter hasPg).Sublist (cur.entries.filter hasPg)) (hne : l ≠ []) : Mix cur l := by
  have hmem : ∀ p ∈ l, p.e ∈ joinH B cur.houses := fun p hp => by rw [← hB]; exact List.mem_map.2 ⟨p, hp, rfl⟩
  refine ⟨hs.trans List.filter_sublist, fun p hp => (join_valid h8 len body _ (hmem p hp)).1, fun k p hk => ?_, hne, ?_⟩
  · rw [followsP_E, List.map_take, hB]
    exact join_follows cur.houses h8 len body _ (Int.le_refl _) k p.e (by rw [← hB, List.getElem?_map, hk]; rfl)
  · have hl : l.length = (joinH B cur.houses).length := by rw [← hB, List.length_map]
    have key : ∀ H, H ≤ cur.houses → (joinH B H).length ≤ H * 64 := by
      intro H
      induction H with
      | zero => intro _; simp [joinH]
      | succ H ih =>
        intro hH
        rw [joinH, List.length_append, houseL_length]
        have := ih (by omega)
        have := len H (by omega)
        omega
    have := key cur.houses (Nat.le_refl _)
    omega
theorem newB_ok {L : List Ent} {B : Nat → List (List UInt8)} {h : Nat} (hl : (B h).length ≤ 64) (hb : ∀ b ∈ B h, b.length ≤ 180) : (newB L B h).length ≤ 64 ∧ ∀ b ∈ newB L B h, b.length ≤ 180 := by
  obtain ⟨G, _⟩ := newB_grown L B h hl
  have hL : ∀ i b, leastB L h i = some b → i < 64 ∧ b.length ≤ 180 := fun i b hq => by
    unfold leastB at hq
    cases hp : leastP L h i with
    | none => rw [hp] at hq; cases hq
    | some e =>
      rw [hp] at hq
      have := leastP_is L h i
      rw [hp] at this
      obtain ⟨_, v, _, v2, _⟩ := this
      simp [Ent.valid] at v
      simp only [Option.map_some, Option.some.injEq] at hq
      subst hq
      omega
  have hlen : (newB L B h).length ≤ 64 := by
    by_cases c : (newB L B h).length ≤ 64
    · exact c
    · have h1 := G.new 64 hl (by omega)
      rw [List.getElem?_eq_getElem (by omega)] at h1
      have := hL 64 _ h1
      omega
  refine ⟨hlen, fun b hb' => ?_⟩
  obtain ⟨i, hi⟩ := List.getElem?_of_mem hb'
  have hil := (List.getElem?_eq_some_iff.1 hi).1
  by_cases c : i < (B h).length
  · have h1 := G.old i (B h)[i] (by simp [c])
    rw [hi] at h1
    have h2 := hb _ (List.getElem_mem c)
    cases hm : leastB L h i with
    | none =>
      rw [hm] at h1
      dsimp only at h1
      rw [Option.some.inj h1]; exact h2
    | some c' =>
      rw [hm] at h1
      dsimp only at h1
      rw [Option.some.inj h1]
      unfold bmin
      split
      · exact (hL i c' hm).2
      · exact h2
  · have h1 := G.new i (by omega) hil
    rw [hi] at h1
    exact (hL i b h1).2

/-! ### room -/
theorem nodup_sub_length {α : Type} [DecidableEq α] : ∀ (l m : List α), l.Nodup → (∀ x ∈ l, x ∈ m) → l.length ≤ m.length
  | [], _, _, _ => Nat.zero_le _
  | a :: l, m, hd, hs => by
    obtain ⟨h1, h2⟩ := List.nodup_cons.1 hd
    have ha := hs a List.mem_cons_self
    have := nodup_sub_length l (m.erase a) h2 (fun x hx => (List.mem_erase_of_ne (fun e => h1 (by rw [← e]; exact hx))).2 (hs x (List.mem_cons_of_mem _ hx)))
    rw [List.length_erase_of_mem ha] at this
    have := List.length_pos_of_mem ha
    simp; omega
theorem freeTo_split (used : List Nat) : ∀ n, 2 ≤ n → (freeTo used n).length + ((List.range n).filter fun x => decide (2 ≤ x) && decide (x ∈ used)).length = n - 2 := by
  intro n h
  induction n with
  | zero => omega
  | succ n ih =>
    by_cases e : n = 1
    · subst e; simp [freeTo, List.range_succ]
    · have := ih (by omega)
      have h2 : decide (2 ≤ n) = true := decide_eq_true (by omega)
      rw [freeTo_succ _ _ (by omega), List.range_succ, List.filter_append, List.length_append]
      by_cases hu : n ∈ used
      · rw [if_pos hu]; simp [hu, h2]; omega
      · rw [if_neg hu]; simp [hu]; omega
theorem freeTo_many (used : List Nat) (n : Nat) (h : 2 ≤ n) : n - 2 ≤ (freeTo used n).length + used.length := by
  have h1 := freeTo_split used n h
  have h2 := nodup_sub_length ((List.range n).filter fun x => decide (2 ≤ x) && decide (x ∈ used)) used (List.nodup_range.sublist List.filter_sublist) (fun x hx => by
    have := (List.mem_filter.1 hx).2
    simp at this; exact this.2)
  omega
theorem freeTo_exact (used : List Nat) (n : Nat) (h : 2 ≤ n) (hd : used.Nodup) (hr : ∀ x ∈ used, 2 ≤ x ∧ x < n) : (freeTo used n).length + used.length = n - 2 := by
  have h1 := freeTo_split used n h
  have h2 := nodup_sub_length used ((List.range n).filter fun x => decide (2 ≤ x) && decide (x ∈ used)) hd (fun x hx => by
    have := hr x hx
    exact List.mem_filter.2 ⟨List.mem_range.2 this.2, by simp [hx, this.1]⟩)
  have h3 := freeTo_many used n h
  omega
theorem allPages_le (l : List Placed) (hv : ∀ p ∈ l, p.e.valid = true) (hl : ∀ p ∈ l, p.pages.length = npieces p.e) : (allPages l).length ≤ 4 * l.length := by
  induction l with
  | nil => simp [allPages]
  | cons p l ih =>
    have h1 := npieces_le p.e (hv p List.mem_cons_self)
    have h2 := hl p List.mem_cons_self
    have h3 := ih (fun q hq => hv q (List.mem_cons_of_mem _ hq)) (fun q hq => hl q (List.mem_cons_of_mem _ hq))
    simp only [allPages, List.map_cons, List.flatten_cons, List.length_append, List.length_cons] at *
    omega
theorem Legal.uses_le {S : St} {n : Nat} (L : Legal S n) : (usesOf S).length ≤ (S.entries.length + 25) / 26 + 4 * S.entries.length := by
  rw [usesOf_all, List.length_append, L.ilen]
  have := allPages_le S.entries (fun p hp => (L.ok.each p hp).1) L.plen
  omega
theorem needTo_le' (l : List Placed) (hv : ∀ p ∈ l, p.e.valid = true) : ∀ k, k ≤ l.length → needTo l k ≤ k * 4 := by
  intro k
  induction k with
  | zero => intro _; simp [needTo]
  | succ k ih =>
    intro hk
    rw [needTo_succ l k l[k] (by simp)]
    have := ih (by omega)
    have := asks_le l[k] (hv _ (List.getElem_mem _))
    omega
theorem needOf_le (l : List Placed) (hv : ∀ p ∈ l, p.e.valid = true) : needOf l ≤ (l.length + 25) / 26 + 4 * l.length := by
  have := needTo_le' l hv l.length (Nat.le_refl _)
  unfold needOf idxMany; omega
/-- on a great disk there is room for what is little -/
theorem Inv.room {D : Dsk} {S : St} {F : Option St} (h : Inv D S F) (hn : D.now.length = 1024) (hS : S.entries.length ≤ 48) (hF : ∀ T, F = some T → T.entries.length ≤ 48) {l : List Placed} (hv : ∀ p ∈ l, p.e.valid = true) (hl : l.length ≤ 48) : needOf l ≤ (freeOf D S F).length := by
  have h1 := needOf_le l hv
  have h2 := h.legal.uses_le
  have h3 := freeTo_many (usedOf S F) D.now.length (by omega)
  have h4 : (usedOf S F).length ≤ 400 := by
    cases hq : F with
    | none => show (usesOf S).length ≤ 400; omega
    | some T =>
      have ho := h.other
      rw [hq] at ho
      have h5 := ho.1.uses_le
      have := hF T hq
      show (usesOf S ++ usesOf T).length ≤ 400
      rw [List.length_append]; omega
  show needOf l ≤ (freeTo (usedOf S F) D.now.length).length
  omega
end Go.Proofs.YtlbaagjbehdmgaaGreat

namespace Go.Proofs.YtlbaagjbehdmgaaGreat
open Go.RowKit
/-! ### Take of a store that stands -/
theorem next_ents (S : St) (l : List Placed) (free : List Nat) : entsOf (S.next l free) = l.map (·.e) := given_ents l free
theorem entries_len (S : St) : (entsOf S).length = S.entries.length := by simp [entsOf]
structure Took (L : List Ent) (S : St) (B : Nat → List (List UInt8)) : Prop where
  mix : Mix S (takeAll L S.entries S.houses).1
  ents : (takeAll L S.entries S.houses).1.map (·.e) = joinH (newB L B) S.houses
  pos : 0 < (takeAll L S.entries S.houses).2
theorem joinH_inj {B B' : Nat → List (List UInt8)} {H : Nat} (h : ∀ k, k < H → (B k).length ≤ (B' k).length) (he : joinH B H = joinH B' H) : ∀ k, k < H → B k = B' k := by
  induction H with
  | zero => intro k hk; omega
  | succ H ih =>
    rw [joinH, joinH] at he
    have key : ∀ H, (∀ k, k < H → (B k).length ≤ (B' k).length) → (joinH B H).length ≤ (joinH B' H).length := by
      intro H
      induction H with
      | zero => intro _; simp [joinH]
      | succ H ih2 =>
        intro h2
        rw [joinH, joinH, List.length_append, List.length_append, houseL_length, houseL_length]
        have := ih2 (fun k hk => h2 k (by omega))
        have := h2 H (by omega)
        omega
    have hl1 := key H (fun k hk => h k (by omega))
    have hl2 := h H (by omega)
    have hlen : (joinH B H ++ houseL H (B H)).length = (joinH B' H ++ houseL H (B' H)).length := by rw [he]
    rw [List.length_append, List.length_append, houseL_length, houseL_length] at hlen
    obtain ⟨e1, e2⟩ := List.append_inj he (by omega)
    have e3 : B H = B' H := by
      apply List.ext_getElem?
      intro i
      have h3 : (houseL H (B H))[i]? = (houseL H (B' H))[i]? := by rw [e2]
      rw [houseL_get, houseL_get] at h3
      cases h4 : (B H)[i]? with
      | none =>
        rw [h4] at h3
        cases h5 : (B' H)[i]? with
        | none => rfl
        | some b => rw [h5] at h3; cases h3
      | some a =>
        rw [h4] at h3
        cases h5 : (B' H)[i]? with
        | none => rw [h5] at h3; cases h3
        | some b =>
          rw [h5] at h3
          simp only [Option.map_some, Option.some.injEq, Ent.mk.injEq, true_and] at h3
          rw [h3]
    intro k hk
    by_cases ek : k = H
    · rw [ek]; exact e3
    · exact ih (fun j hj => h j (by omega)) e1 k (by omega)
theorem took_of {S : St} {B : Nat → List (List UInt8)} (hb : ByH S B) (h8 : S.houses ≤ 8) (L : List Ent) (hne : ¬ ∀ h, h < S.houses → newB L B h = B h) : Took L S B := by
  obtain ⟨h1, _, h3, h4⟩ := take_spec L S.entries B S.houses hb.ents hb.len
  have hp : 0 < (takeAll L S.entries S.houses).2 := by
    rcases Nat.eq_zero_or_pos (takeAll L S.entries S.houses).2 with e | e
    · exact absurd (h4.1 e) hne
    · exact e
  refine ⟨mix_of_join h8 h1 (fun h hh => (newB_ok (hb.len h hh) (hb.body h hh)).1) (fun h hh => (newB_ok (hb.len h hh) (hb.body h hh)).2) h3 (fun e => ?_), h1, hp⟩
  rw [e] at h1
  have hn0 : ∀ h, h < S.houses → newB L B h = [] := by
    have : ∀ k, k < S.houses → [] = newB L B k := joinH_inj (B := fun _ => []) (fun _ _ => Nat.zero_le _) (by
      rw [← h1]
      have : ∀ H, joinH (fun _ => []) H = [] := by
        intro H
        induction H with
        | zero => rfl
        | succ H ih => rw [joinH, ih]; rfl
      exact this _)
    exact fun h hh => (this h hh).symm
  refine hne fun h hh => ?_
  have := (newB_grown L B h (hb.len h hh)).1.len
  rw [hn0 h hh] at this ⊢
  exact (List.eq_nil_of_length_eq_zero (by simpa using this)).symm
theorem took_byH {L : List Ent} {S : St} {B : Nat → List (List UInt8)} (hb : ByH S B) (T : Took L S B) (free : List Nat) : ByH (S.next (takeAll L S.entries S.houses).1 free) (newB L B) :=
  ⟨(next_ents _ _ _).trans T.ents, fun h hh => (newB_ok (hb.len h hh) (hb.body h hh)).1, fun h hh => (newB_ok (hb.len h hh) (hb.body h hh)).2⟩
theorem take_same {S : St} {B : Nat → List (List UInt8)} (hb : ByH S B) (L : List Ent) (D : Dsk) (F : Option St) (h : ∀ h, h < S.houses → newB L B h = B h) : takeP D S F D.falls L = (0, 0, D, S, F) := by
  have := (take_spec L S.entries B S.houses hb.ents hb.len).2.2.2.2 h
  unfold takeP
  rw [if_neg (by simp)]
  dsimp only
  rw [if_pos this]
theorem take_change {L : List Ent} {S : St} {B : Nat → List (List UInt8)} (T : Took L S B) (D : Dsk) (F : Option St) : takeP D S F D.falls L = (if (changeP D S F (takeAll L S.entries S.houses).1).1 ≠ 0 then (0, changeP D S F (takeAll L S.entries S.houses).1) else ((takeAll L S.entries S.houses).2, changeP D S F (takeAll L S.entries S.houses).1)) := by
  have := T.pos
  unfold takeP
  rw [if_neg (by simp)]
  dsimp only
  rw [if_neg (by omega)]

/-! ### disks: a call that is interrupted -/
/-- the disk when the power goes off behind the writes l -/
def Dsk.cut (D : Dsk) (l : List (Nat × List UInt8)) : Dsk := { D with now := applyW D.now l, writes := D.writes ++ l, armed := 0, down := true, falls := wrap64 (D.falls + 1) }
theorem cut_cons (D : Dsk) (x : Nat × List UInt8) (l : List (Nat × List UInt8)) (a : Nat) : Dsk.cut { D.put x.1 x.2 with armed := a } l = D.cut (x :: l) := by
  simp [Dsk.cut, Dsk.put, applyW]
theorem all_armed : ∀ (l : List (Nat × List UInt8)) (D : Dsk) (a : Nat), D.down = false → D.armed = a + 1 → (∀ x ∈ l, x.1 < D.now.length ∧ x.2.length = 64) →
    D.all l = if a ≤ l.length then (91, D.cut (l.take (a + 1))) else (0, { D with now := applyW D.now l, safe := applyW D.safe (D.writes ++ l), writes := [], armed := a - l.length })
  | [], D, a, hu, ha, _ => by
    show D.sync = _
    unfold Dsk.sync
    rw [if_neg (by simp [hu])]
    by_cases e : a = 0
    · subst e
      have hf : D.fails = (true, Dsk.off { D with armed := 0 }) := by unfold Dsk.fails; rw [if_neg (by omega), if_pos ha]
      rw [hf, if_pos rfl, if_pos (by simp)]
      simp [Dsk.cut, Dsk.off, applyW]
    · have hf : D.fails = (false, { D with armed := a }) := by
        unfold Dsk.fails; rw [if_neg (by omega), if_neg (by omega), ha]; rfl
      rw [hf, if_neg (by simp), if_neg (by simp; omega)]
      simp [Dsk.syncTo, applyW]
  | x :: l, D, a, hu, ha, h => by
    obtain ⟨h1, h2⟩ := h x List.mem_cons_self
    have hf0 : D.write x.1 x.2 = ((D.put x.1 x.2).wres, (D.put x.1 x.2).fails.2) := by
      have h3 : hasP D (x.1 : Int) = true := by simp [hasP]; omega
      unfold Dsk.write
      rw [if_neg (by simp [hu]), if_pos (by simp [h3, h2]), Int.toNat_natCast]
    unfold Dsk.all
    rw [hf0]
    dsimp only
    by_cases e : a = 0
    · subst e
      have hf : (D.put x.1 x.2).fails = (true, Dsk.off { D.put x.1 x.2 with armed := 0 }) := by unfold Dsk.fails; rw [if_neg (by show D.armed ≠ 0; omega), if_pos (show (D.put x.1 x.2).armed = 1 from ha)]
      unfold Dsk.wres
      rw [hf]
      dsimp only
      rw [if_pos rfl, if_neg (by simp), if_pos (by simp)]
      simp [Dsk.cut, Dsk.off, Dsk.put, applyW]
    · have hf : (D.put x.1 x.2).fails = (false, { D.put x.1 x.2 with armed := a }) := by
        unfold Dsk.fails; rw [if_neg (by show D.armed ≠ 0; omega), if_neg (by show D.armed ≠ 1; omega), show (D.put x.1 x.2).armed - 1 = a by show D.armed - 1 = a; omega]
      unfold Dsk.wres
      rw [hf]
      dsimp only
      rw [show (if false = true then (91 : Int) else 0) = 0 from rfl, if_pos rfl]
      obtain ⟨b, rfl⟩ : ∃ b, a = b + 1 := ⟨a - 1, by omega⟩
      rw [all_armed l { D.put x.1 x.2 with armed := b + 1 } b hu rfl (fun y hy => by
        have := h y (List.mem_cons_of_mem _ hy)
        simp only [Dsk.put, List.length_set]; exact this)]
      by_cases c : b ≤ l.length
      · rw [if_pos c, if_pos (show b + 1 ≤ (x :: l).length by simp; omega), cut_cons, List.take_succ_cons]
      · rw [if_neg c, if_neg (show ¬ b + 1 ≤ (x :: l).length by simp; omega)]
        simp [Dsk.put, applyW]

/-! ### the power comes back -/
/-- the last write that survives -/
def lastKeep (keep : List UInt8) : Nat → Option Nat
  | 0 => none
  | k + 1 => if (keep[k]?).getD 0 ≠ 0 then some k else lastKeep keep k
def keepN (keep : List UInt8) (i : Nat) : Nat := min ((keep[i]?).getD 0).toNat 64
def surv1 (keep : List UInt8) (last : Nat) (s : List (List UInt8)) (i : Nat) (x : Nat × List UInt8) : List (List UInt8) :=
  if i = last then s.set x.1 (lay ((s[x.1]?).getD []) 0 (x.2.take (keepN keep i))) else if (keep[i]?).getD 0 ≠ 0 then s.set x.1 x.2 else s
def surv (keep : List UInt8) (last : Nat) (s : List (List UInt8)) (i : Nat) : List (Nat × List UInt8) → List (List UInt8)
  | [] => s
  | x :: r => surv keep last (surv1 keep last s i x) (i + 1) r
def survives (safe : List (List UInt8)) (ws : List (Nat × List UInt8)) (keep : List UInt8) : List (List UInt8) :=
  match lastKeep keep (min ws.length keep.length) with
  | none => safe
  | some k => surv keep k safe 0 (ws.take (k + 1))
def Dsk.restart (D : Dsk) (keep : List UInt8) : Dsk :=
  { safe := survives D.safe D.writes keep, now := survives D.safe D.writes keep, writes := [], armed := 0, down := false, falls := if D.down then D.falls else wrap64 (D.falls + 1) }
theorem surv1_miss (keep : List UInt8) (last : Nat) (s : List (List UInt8)) (i : Nat) (x : Nat × List UInt8) (j : Nat) (h : j ≠ x.1) : (surv1 keep last s i x)[j]? = s[j]? := by
  unfold surv1
  split
  · rw [List.getElem?_set, if_neg (fun e => h e.symm)]
  · split
    · rw [List.getElem?_set, if_neg (fun e => h e.symm)]
    · rfl
theorem surv_miss (keep : List UInt8) (last j : Nat) : ∀ (ws : List (Nat × List UInt8)) (s : List (List UInt8)) (i : Nat), j ∉ ws.map (·.1) → (surv keep last s i ws)[j]? = s[j]?
  | [], _, _, _ => rfl
  | x :: r, s, i, h => by
    simp only [List.map_cons, List.mem_cons, not_or] at h
    show (surv keep last (surv1 keep last s i x) (i + 1) r)[j]? = _
    rw [surv_miss keep last j r _ _ h.2, surv1_miss _ _ _ _ _ _ h.1]
/-- what is not written stays -/
theorem survives_miss (safe : List (List UInt8)) (ws : List (Nat × List UInt8)) (keep : List UInt8) (j : Nat) (h : j ∉ ws.map (·.1)) : (survives safe ws keep)[j]? = safe[j]? := by
  unfold survives
  split
  · rfl
  · refine surv_miss _ _ _ _ _ _ (fun hm => h ?_)
    obtain ⟨x, hx, rfl⟩ := List.mem_map.1 hm
    exact List.mem_map.2 ⟨x, List.mem_of_mem_take hx, rfl⟩
theorem surv1_length (keep : List UInt8) (last : Nat) (s : List (List UInt8)) (i : Nat) (x : Nat × List UInt8) : (surv1 keep last s i x).length = s.length := by
  unfold surv1
  split
  · simp
  · split <;> simp
theorem surv_length (keep : List UInt8) (last : Nat) : ∀ (ws : List (Nat × List UInt8)) (s : List (List UInt8)) (i : Nat), (surv keep last s i ws).length = s.length
  | [], _, _ => rfl
  | x :: r, s, i => by
    show (surv keep last (surv1 keep last s i x) (i + 1) r).length = _
    rw [surv_length keep last r, surv1_length]
theorem survives_length (safe : List (List UInt8)) (ws : List (Nat × List UInt8)) (keep : List UInt8) : (survives safe ws keep).length = safe.length := by
  unfold survives
  split
  · rfl
  · exact surv_length _ _ _ _ _
theorem surv1_64 (keep : List UInt8) (last : Nat) (s : List (List UInt8)) (i : Nat) (x : Nat × List UInt8) (hs : ∀ p ∈ s, p.length = 64) (hx : x.2.length = 64) (hl : x.1 < s.length) : ∀ p ∈ surv1 keep last s i x, p.length = 64 := by
  intro p hp
  unfold surv1 at hp
  have h0 : ((s[x.1]?).getD []).length = 64 := by rw [List.getElem?_eq_getElem hl, Option.getD_some]; exact hs _ (List.getElem_mem hl)
  split at hp
  · rcases List.mem_or_eq_of_mem_set hp with h | h
    · exact hs p h
    · rw [h, lay_length _ _ _ (by rw [h0]; simp [hx]; omega), h0]
  · split at hp
    · rcases List.mem_or_eq_of_mem_set hp with h | h
      · exact hs p h
      · rw [h]; exact hx
    · exact hs p hp
theorem surv_64 (keep : List UInt8) (last : Nat) : ∀ (ws : List (Nat × List UInt8)) (s : List (List UInt8)) (i : Nat), (∀ p ∈ s, p.length = 64) → (∀ x ∈ ws, x.1 < s.length ∧ x.2.length = 64) → ∀ p ∈ surv keep last s i ws, p.length = 64
  | [], _, _, h, _ => h
  | x :: r, s, i, h, hw => by
    obtain ⟨a, b⟩ := hw x List.mem_cons_self
    exact surv_64 keep last r _ _ (surv1_64 keep last s i x h b a) (fun y hy => by rw [surv1_length]; exact hw y (List.mem_cons_of_mem _ hy))
theorem survives_64 (safe : List (List UInt8)) (ws : List (Nat × List UInt8)) (keep : List UInt8) (hs : ∀ p ∈ safe, p.length = 64) (hw : ∀ x ∈ ws, x.1 < safe.length ∧ x.2.length = 64) : ∀ p ∈ survives safe ws keep, p.length = 64 := by
  unfold survives
  split
  · exact hs
  · exact surv_64 _ _ _ _ _ hs (fun x hx => hw x (List.mem_of_mem_take hx))
theorem survives_nil (safe : List (List UInt8)) (keep : List UInt8) : survives safe [] keep = safe := by
  unfold survives
  simp [lastKeep]
theorem survives_none (safe : List (List UInt8)) (ws : List (Nat × List UInt8)) : survives safe ws [] = safe := by
  unfold survives
  simp [lastKeep]
/-- one write -/
theorem survives_one (safe : List (List UInt8)) (x : Nat × List UInt8) (keep : List UInt8) : survives safe [x] keep = if (keep[0]?).getD 0 = 0 then safe else safe.set x.1 (lay ((safe[x.1]?).getD []) 0 (x.2.take (keepN keep 0))) := by
  unfold survives
  cases keep with
  | nil => simp [lastKeep]
  | cons b r =>
    have : min [x].length (b :: r).length = 1 := by simp
    rw [this]
    by_cases h : b = 0
    · simp [lastKeep, h]
    · simp [lastKeep, h, surv, surv1]
/-- all survive -/
theorem survives_all (n : Nat) (safe : List (List UInt8)) (ws : List (Nat × List UInt8)) (hn : ws.length ≤ n) (h64 : ∀ x ∈ ws, x.1 < safe.length ∧ x.2.length = 64) (hs : ∀ p ∈ safe, p.length = 64) : survives safe ws (List.replicate n 64) = applyW safe ws := by
  have hk : ∀ i, i < n → ((List.replicate n (64 : UInt8))[i]?).getD 0 = 64 := fun i hi => by simp [hi]
  have hsurv : ∀ (r : List (Nat × List UInt8)) (s : List (List UInt8)) (i last : Nat), i + r.length ≤ n → (∀ x ∈ r, x.1 < s.length ∧ x.2.length = 64) → (∀ p ∈ s, p.length = 64) → surv (List.replicate n 64) last s i r = applyW s r := by
    intro r
    induction r with
    | nil => intro s i last _ _ _; rfl
    | cons x r ih =>
      intro s i last hi hr hs'
      obtain ⟨a, b⟩ := hr x List.mem_cons_self
      have h1 : surv1 (List.replicate n 64) last s i x = s.set x.1 x.2 := by
        unfold surv1
        have hk' := hk i (by simp at hi; omega)
        split
        · congr 1
          have h0 : ((s[x.1]?).getD []).length = 64 := by rw [List.getElem?_eq_getElem a, Option.getD_some]; exact hs' _ (List.getElem_mem a)
          unfold keepN
          rw [hk', List.take_of_length_le (by simp [b])]
          simp [lay, b, h0]
        · rw [hk', if_pos (by decide)]
      show surv _ last (surv1 _ last s i x) (i + 1) r = applyW (s.set x.1 x.2) r
      rw [h1]
      refine ih _ _ _ (by simp at hi; omega) (fun y hy => by rw [List.length_set]; exact hr y (List.mem_cons_of_mem _ hy)) (fun p hp => ?_)
      rcases List.mem_or_eq_of_mem_set hp with h | h
      · exact hs' p h
      · rw [h]; exact b
  unfold survives
  have hm : min ws.length (List.replicate n (64 : UInt8)).length = ws.length := by simp; omega
  rw [hm]
  cases hw : ws.length with
  | zero =>
    have : ws = [] := List.eq_nil_of_length_eq_zero hw
    subst this
    simp [lastKeep, applyW]
  | succ k =>
    have : lastKeep (List.replicate n 64) (k + 1) = some k := by
      unfold lastKeep
      rw [hk k (by omega), if_pos (by decide)]
    rw [this]
    dsimp only
    rw [List.take_of_length_le (by omega)]
    exact hsurv ws safe 0 k (by omega) h64 hs
end Go.Proofs.YtlbaagjbehdmgaaGreat

namespace Go.Proofs.YtlbaagjbehdmgaaGreat
open Go.RowKit
/-! ### a change that is interrupted, and what is found then -/
/-- the root that a change writes -/
def chRoot (S : St) (l : List Placed) (free : List Nat) : Nat × List UInt8 := (1 - S.at_, sealP (1 - S.at_) (rootRaw (S.next l free)))
theorem chRoot_64 (S : St) (l : List Placed) (free : List Nat) : (chRoot S l free).2.length = 64 := sealP_length _ _ (rootRaw_length _)
/-- pages that are those of a store but for free ones -/
theorem Inv.repage {D D' : Dsk} {S : St} {F : Option St} (h : Inv D S F) (hl : D'.now.length = D.now.length) (h64 : ∀ p ∈ D'.now, p.length = 64) (hs : D'.safe = D'.now) (hw : D'.writes = []) (hu : D'.down = false)
    (hp : ∀ i, i ∉ freeOf D S F → i < D.now.length → D'.now[i]? = D.now[i]?) : Inv D' S F := by
  have h2 := h.legal.two
  have hat := h.legal.ok.at_
  have nf : ∀ i, i ∈ freeOf D S F → 2 ≤ i ∧ i ∉ usedOf S F := fun i hi => (mem_freeTo.1 hi).2
  have hS : ∀ x ∈ usesOf S, D'.now[x]? = D.now[x]? := fun x hx => hp x (fun hi => (nf x hi).2 (usedOf_cur hx)) (h.legal.rng x hx).2
  have hr : ∀ i, i < 2 → D'.now[i]? = D.now[i]? := fun i hi => hp i (fun hf => by have := (nf i hf).1; omega) (by omega)
  refine ⟨⟨by rw [hs], by rw [hl]; exact h.ok.few, by rw [hs]; exact h64, h64, fun x hx => by rw [hw] at hx; cases hx⟩, hu, hw, hs, by rw [hl]; exact h.legal, h.holds.congr (hr _ (by omega)) hS, ?_⟩
  have ho := h.other
  cases F with
  | none =>
    dsimp only at ho ⊢
    rw [hr _ (by omega)]; exact ho
  | some T =>
    obtain ⟨a, b, c, d⟩ := ho
    refine ⟨by rw [hl]; exact a, b.congr (hr _ (by omega)) (fun x hx => hp x (fun hi => (nf x hi).2 (List.mem_append_right _ hx)) (a.rng x hx).2), c, d⟩
theorem chKeys_free {D : Dsk} {S : St} {F : Option St} {l : List Placed} {i : Nat} (h : i ∈ (chWrites S l (freeOf D S F)).map (·.1)) : i ∈ freeOf D S F := by
  rw [chWrites_keys] at h
  exact List.mem_of_mem_take h
/-- a change, armed: where it stops -/
theorem Inv.change_armed {D : Dsk} {S : St} {F : Option St} (h : Inv D S F) {l : List Placed} {a : Nat} (ha : D.armed = a + 1) (hn : needOf l ≤ (freeOf D S F).length) (hg : S.gen ≠ 9223372036854775807) :
    changeP D S F l = if a ≤ (chWrites S l (freeOf D S F)).length then (91, D.cut ((chWrites S l (freeOf D S F)).take (a + 1)), S, F)
      else if a ≤ (chWrites S l (freeOf D S F)).length + 2 then (91, Dsk.cut { D with now := applyW D.now (chWrites S l (freeOf D S F)), safe := applyW D.now (chWrites S l (freeOf D S F)), armed := a - (chWrites S l (freeOf D S F)).length } [chRoot S l (freeOf D S F)], S, F)
      else (0, { chDsk D S F l with armed := a - (chWrites S l (freeOf D S F)).length - 2 }, S.next l (freeOf D S F), some S) := by
  have hat := h.legal.ok.at_
  have h2 := h.legal.two
  unfold changeP
  dsimp only
  rw [if_neg (by omega)]
  have e1 := all_armed (chWrites S l (freeOf D S F)) D a h.up ha (fun x hx => ⟨(chKeys hx).1, chWrites_64 _ _ _ x hx⟩)
  rw [show newWr l (freeOf D S F) l.length ++ idxWrites (S.next l (freeOf D S F)) = chWrites S l (freeOf D S F) from rfl, e1]
  by_cases c1 : a ≤ (chWrites S l (freeOf D S F)).length
  · rw [if_pos c1, if_pos c1]
    dsimp only
    rw [if_pos (by simp)]
  · rw [if_neg c1, if_neg c1]
    dsimp only
    rw [if_neg (by simp), h.wr, h.same, List.nil_append]
    have e2 := all_armed [chRoot S l (freeOf D S F)] { D with now := applyW D.now (chWrites S l (freeOf D S F)), safe := applyW D.now (chWrites S l (freeOf D S F)), writes := [], armed := a - (chWrites S l (freeOf D S F)).length } (a - (chWrites S l (freeOf D S F)).length - 1) h.up (by dsimp only; omega) (fun x hx => by
      rw [List.mem_singleton.1 hx]
      exact ⟨by simp only [chRoot, applyW_length]; omega, chRoot_64 _ _ _⟩)
    rw [show [((S.next l (freeOf D S F)).at_, sealP (S.next l (freeOf D S F)).at_ (rootRaw (S.next l (freeOf D S F))))] = [chRoot S l (freeOf D S F)] from rfl, e2]
    by_cases c2 : a ≤ (chWrites S l (freeOf D S F)).length + 2
    · rw [if_pos (show a - (chWrites S l (freeOf D S F)).length - 1 ≤ [chRoot S l (freeOf D S F)].length by simp; omega), if_pos c2]
      dsimp only
      rw [if_pos (by simp), List.take_of_length_le (by simp)]
    · rw [if_neg (show ¬ a - (chWrites S l (freeOf D S F)).length - 1 ≤ [chRoot S l (freeOf D S F)].length by simp; omega), if_neg c2]
      dsimp only
      rw [if_neg (by simp)]
      have : a - (chWrites S l (freeOf D S F)).length - 1 - [chRoot S l (freeOf D S F)].length = a - (chWrites S l (freeOf D S F)).length - 2 := by simp; omega
      rw [this]
      rfl
/-- the power goes off ahead of the root -/
theorem Inv.cut1 {D : Dsk} {S : St} {F : Option St} (h : Inv D S F) (l : List Placed) (k : Nat) (keep : List UInt8) : Inv ((D.cut ((chWrites S l (freeOf D S F)).take k)).restart keep) S F := by
  have hkeys : ∀ x ∈ D.writes ++ (chWrites S l (freeOf D S F)).take k, x ∈ chWrites S l (freeOf D S F) := fun x hx => by
    rw [h.wr, List.nil_append] at hx
    exact List.mem_of_mem_take hx
  have hlen : (survives D.safe (D.writes ++ (chWrites S l (freeOf D S F)).take k) keep).length = D.now.length := by rw [survives_length, h.same]
  refine h.repage hlen (survives_64 _ _ _ h.ok.safe64 (fun x hx => ?_)) rfl rfl rfl (fun i hi _ => ?_)
  · have := hkeys x hx
    exact ⟨by show x.1 < D.safe.length; rw [h.same]; exact (chKeys this).1, chWrites_64 _ _ _ x this⟩
  · show (survives D.safe (D.writes ++ (chWrites S l (freeOf D S F)).take k) keep)[i]? = _
    rw [survives_miss, h.same]
    intro hm
    obtain ⟨x, hx, rfl⟩ := List.mem_map.1 hm
    exact hi (chKeys_free (List.mem_map.2 ⟨x, hkeys x hx, rfl⟩))
/-- the disk on which the root alone is not safe -/
def cutRoot (D : Dsk) (S : St) (F : Option St) (l : List Placed) (a : Nat) : Dsk := Dsk.cut { D with now := applyW D.now (chWrites S l (freeOf D S F)), safe := applyW D.now (chWrites S l (freeOf D S F)), armed := a } [chRoot S l (freeOf D S F)]
theorem cutRoot_pages {D : Dsk} {S : St} {F : Option St} (h : Inv D S F) (l : List Placed) (a : Nat) (keep : List UInt8) :
    ((cutRoot D S F l a).restart keep).now = if (keep[0]?).getD 0 = 0 then applyW D.now (chWrites S l (freeOf D S F)) else (applyW D.now (chWrites S l (freeOf D S F))).set (1 - S.at_) (lay ((D.now[1 - S.at_]?).getD []) 0 ((chRoot S l (freeOf D S F)).2.take (keepN keep 0))) := by
  have hat := h.legal.ok.at_
  have h2 := h.legal.two
  show survives (applyW D.now (chWrites S l (freeOf D S F))) (D.writes ++ [chRoot S l (freeOf D S F)]) keep = _
  rw [h.wr, List.nil_append, survives_one]
  have : (applyW D.now (chWrites S l (freeOf D S F)))[(chRoot S l (freeOf D S F)).1]? = D.now[1 - S.at_]? := by
    rw [applyW_miss]
    · rfl
    · intro hm
      have := (mem_freeTo.1 (chKeys_free hm)).2.1
      simp only [chRoot] at this
      omega
  rw [this]
  rfl
theorem applyCh_same {D : Dsk} {S : St} {F : Option St} {l : List Placed} {i : Nat} (hi : i ∉ freeOf D S F) : (applyW D.now (chWrites S l (freeOf D S F)))[i]? = D.now[i]? :=
  applyW_miss _ _ _ (fun hm => hi (chKeys_free hm))
theorem applyCh_64 {D : Dsk} {S : St} {F : Option St} (h : Inv D S F) (l : List Placed) : ∀ p ∈ applyW D.now (chWrites S l (freeOf D S F)), p.length = 64 := applyW_64 _ (chWrites_64 _ _ _) _ h.ok.now64
/-- .. and nothing of it survives -/
theorem Inv.cut2_none {D : Dsk} {S : St} {F : Option St} (h : Inv D S F) (l : List Placed) (a : Nat) (keep : List UInt8) (hk : (keep[0]?).getD 0 = 0) : Inv ((cutRoot D S F l a).restart keep) S F := by
  have hp := cutRoot_pages h l a keep
  rw [if_pos hk] at hp
  exact h.repage (by rw [hp, applyW_length]) (by rw [hp]; exact applyCh_64 h l) rfl rfl rfl (fun i hi _ => by rw [hp]; exact applyCh_same hi)
theorem lay_full (old new : List UInt8) (h : old.length = new.length) : lay old 0 new = new := by simp [lay, h]
/-- .. and all of it does -/
theorem Inv.cut2_all {D : Dsk} {S : St} {F : Option St} (h : Inv D S F) {l : List Placed} (M : Mix S l) (hn : needOf l ≤ (freeOf D S F).length) (hg : S.gen ≠ 9223372036854775807) (a : Nat) (keep : List UInt8) (hk : (keep[0]?).getD 0 ≠ 0)
    (hpage : lay ((D.now[1 - S.at_]?).getD []) 0 ((chRoot S l (freeOf D S F)).2.take (keepN keep 0)) = (chRoot S l (freeOf D S F)).2) : Inv ((cutRoot D S F l a).restart keep) (S.next l (freeOf D S F)) (some S) := by
  have hp := cutRoot_pages h l a keep
  rw [if_neg hk, hpage] at hp
  have hq : ((cutRoot D S F l a).restart keep).now = chPages D.now S l (freeOf D S F) := by rw [hp]; rfl
  have hc := h.changed M hn hg 0 ((cutRoot D S F l a).restart keep).falls
  have : ({ chDsk D S F l with armed := 0, falls := ((cutRoot D S F l a).restart keep).falls } : Dsk) = (cutRoot D S F l a).restart keep := by
    have e1 : ((cutRoot D S F l a).restart keep).safe = ((cutRoot D S F l a).restart keep).now := rfl
    have e2 : ((cutRoot D S F l a).restart keep).writes = [] := rfl
    have e3 : ((cutRoot D S F l a).restart keep).down = false := rfl
    have e4 : ((cutRoot D S F l a).restart keep).armed = 0 := rfl
    generalize (cutRoot D S F l a).restart keep = X at *
    obtain ⟨x1, x2, x3, x4, x5, x6⟩ := X
    dsimp only at e1 e2 e3 e4 hq
    subst e2 e3 e4
    simp only [chDsk, h.up]
    rw [e1, hq]
  rw [← this]
  exact hc
/-- .. and a part does, which is a bad root -/
theorem Inv.cut2_torn {D : Dsk} {S : St} {F : Option St} (h : Inv D S F) (l : List Placed) (a : Nat) (keep : List UInt8) (hk : (keep[0]?).getD 0 ≠ 0)
    (hbad : rootBad (1 - S.at_) (lay ((D.now[1 - S.at_]?).getD []) 0 ((chRoot S l (freeOf D S F)).2.take (keepN keep 0))) = true) : Inv ((cutRoot D S F l a).restart keep) S none := by
  have hp := cutRoot_pages h l a keep
  rw [if_neg hk] at hp
  have hat := h.legal.ok.at_
  have h2 := h.legal.two
  have hlt : 1 - S.at_ < D.now.length := by omega
  have h0 : ((D.now[1 - S.at_]?).getD []).length = 64 := by rw [List.getElem?_eq_getElem hlt, Option.getD_some]; exact h.ok.now64 _ (List.getElem_mem hlt)
  generalize hT : lay ((D.now[1 - S.at_]?).getD []) 0 ((chRoot S l (freeOf D S F)).2.take (keepN keep 0)) = T at *
  have hTl : T.length = 64 := by
    rw [← hT, lay_length _ _ _ (by rw [h0, List.length_take, chRoot_64]; omega), h0]
  have hl : ((cutRoot D S F l a).restart keep).now.length = D.now.length := by rw [hp, List.length_set, applyW_length]
  have h64 : ∀ p ∈ ((cutRoot D S F l a).restart keep).now, p.length = 64 := fun p hpm => by
    rw [hp] at hpm
    rcases List.mem_or_eq_of_mem_set hpm with h' | h'
    · exact applyCh_64 h l p h'
    · rw [h']; exact hTl
  have hsame : ∀ i, i ≠ 1 - S.at_ → i ∉ freeOf D S F → ((cutRoot D S F l a).restart keep).now[i]? = D.now[i]? := fun i h1 h2' => by
    rw [hp, List.getElem?_set, if_neg (fun e => h1 e.symm)]
    exact applyCh_same h2'
  refine ⟨⟨rfl, by rw [hl]; exact h.ok.few, h64, h64, fun x hx => by cases hx⟩, rfl, rfl, rfl, by rw [hl]; exact h.legal, h.holds.congr (hsame _ (by omega) (fun hf => by have := (mem_freeTo.1 hf).2.1; omega)) (fun x hx => hsame x (by have := h.legal.rng x hx; omega) (fun hf => (mem_freeTo.1 hf).2.2 (usedOf_cur hx))), ?_⟩
  dsimp only
  rw [hp, List.getElem?_set, if_pos rfl, if_pos (by rw [applyW_length]; exact hlt), Option.getD_some]
  exact hbad
end Go.Proofs.YtlbaagjbehdmgaaGreat

namespace Go.Proofs.YtlbaagjbehdmgaaGreat
/-! ### Take, of a store that stands: the three ends -/
theorem houseL_nodup (h : Nat) (bs : List (List UInt8)) : (houseL h bs).Nodup := by
  unfold List.Nodup
  rw [List.pairwise_iff_getElem]
  intro i j hi hj hij e
  have f : ∀ k (hk : k < (houseL h bs).length), (houseL h bs)[k].no = (k : Int) := fun k hk => by simp [houseL]
  have h1 := f i hi
  have h2 := f j hj
  rw [e] at h1
  omega
theorem join_nodup (B : Nat → List (List UInt8)) : ∀ H, (joinH B H).Nodup
  | 0 => by simp [joinH]
  | H + 1 => by
    rw [joinH, List.nodup_append]
    refine ⟨join_nodup B H, houseL_nodup _ _, fun a ha b hb e => ?_⟩
    obtain ⟨h1, i1, b1, g1, _, rfl⟩ := joinH_mem.1 ha
    obtain ⟨i2, b2, _, rfl⟩ := houseL_mem.1 hb
    injection e with e1 _ _
    omega
theorem leastB_mem {L : List Ent} {h i : Nat} {b : List UInt8} (e : leastB L h i = some b) : (⟨h, i, b⟩ : Ent) ∈ L ∧ (Ent.mk h i b).valid = true := by
  unfold leastB at e
  cases hl : leastP L h i with
  | none => rw [hl] at e; cases e
  | some x =>
    rw [hl] at e
    have hx := leastP_eq hl
    have hi := leastP_is L h i
    rw [hl] at hi
    simp only [Option.map_some, Option.some.injEq] at e
    rw [e] at hx
    rw [← hx]
    exact ⟨hi.1, hi.2.1⟩
/-- an entry behind a Take was there, or was given -/
theorem newB_mem {L : List Ent} {B : Nat → List (List UInt8)} {h i : Nat} {b : List UInt8} (hl : (B h).length ≤ 64) (e : (newB L B h)[i]? = some b) : (B h)[i]? = some b ∨ (⟨h, i, b⟩ : Ent) ∈ L := by
  obtain ⟨G, _⟩ := newB_grown L B h hl
  have hil := (List.getElem?_eq_some_iff.1 e).1
  by_cases c : i < (B h).length
  · have h1 := G.old i (B h)[i] (by simp [c])
    rw [e] at h1
    cases hm : leastB L h i with
    | none =>
      rw [hm] at h1
      left
      rw [List.getElem?_eq_getElem c, Option.some.inj h1]
    | some d =>
      rw [hm] at h1
      dsimp only at h1
      unfold bmin at h1
      split at h1
      · right
        rw [Option.some.inj h1]; exact (leastB_mem hm).1
      · left
        rw [List.getElem?_eq_getElem c, Option.some.inj h1]
  · have h1 := G.new i (by omega) hil
    rw [e] at h1
    exact .inr (leastB_mem h1).1
theorem join_new_mem {L : List Ent} {B : Nat → List (List UInt8)} {H : Nat} (hl : ∀ h, h < H → (B h).length ≤ 64) {e : Ent} (he : e ∈ joinH (newB L B) H) : e ∈ joinH B H ∨ e ∈ L := by
  obtain ⟨h, i, b, h1, h2, rfl⟩ := joinH_mem.1 he
  rcases newB_mem (hl h h1) h2 with h3 | h3
  · exact .inl (joinH_mem.2 ⟨h, i, b, h1, h3, rfl⟩)
  · exact .inr h3
/-- what is made of entries of a list is no longer than it -/
theorem join_sub_len {B : Nat → List (List UInt8)} {H : Nat} {M : List Ent} (h : ∀ e ∈ joinH B H, e ∈ M) : (joinH B H).length ≤ M.length := nodup_sub_length _ _ (join_nodup B H) h
/-- the list that a Take makes -/
def tkL (L : List Ent) (S : St) : List Placed := (takeAll L S.entries S.houses).1
def tkN (L : List Ent) (S : St) : Nat := (takeAll L S.entries S.houses).2
theorem Inv.take {D : Dsk} {S : St} {F : Option St} {B : Nat → List (List UInt8)} (h : Inv D S F) (hb : ByH S B) (ha : D.armed = 0) (hg : S.gen ≠ 9223372036854775807) (L : List Ent) :
    ((∀ k, k < S.houses → newB L B k = B k) ∧ takeP D S F D.falls L = (0, 0, D, S, F)) ∨
    ((¬ ∀ k, k < S.houses → newB L B k = B k) ∧ (freeOf D S F).length < needOf (tkL L S) ∧ takeP D S F D.falls L = (0, 92, D, S, F)) ∨
    ((¬ ∀ k, k < S.houses → newB L B k = B k) ∧ needOf (tkL L S) ≤ (freeOf D S F).length ∧ 0 < tkN L S ∧ takeP D S F D.falls L = (tkN L S, 0, chDsk D S F (tkL L S), S.next (tkL L S) (freeOf D S F), some S) ∧
      Inv (chDsk D S F (tkL L S)) (S.next (tkL L S) (freeOf D S F)) (some S) ∧ ByH (S.next (tkL L S) (freeOf D S F)) (newB L B)) := by
  by_cases hs : ∀ k, k < S.houses → newB L B k = B k
  · exact .inl ⟨hs, take_same hb L D F hs⟩
  have T := took_of hb h.legal.ok.houses L hs
  have hc := take_change T D F
  right
  by_cases hr : needOf (tkL L S) ≤ (freeOf D S F).length
  · right
    have e := h.change ha hr hg
    refine ⟨hs, hr, T.pos, ?_, ?_, took_byH hb T _⟩
    · rw [hc, show (takeAll L S.entries S.houses).1 = tkL L S from rfl, e]
      dsimp only
      rw [if_neg (by simp)]; rfl
    · have := h.changed T.mix hr hg D.armed D.falls
      exact this
  · left
    refine ⟨hs, by omega, ?_⟩
    rw [hc, show (takeAll L S.entries S.houses).1 = tkL L S from rfl, change_full (.inl (by omega))]
    rfl
/-- on a great disk -/
structure Took' (D : Dsk) (S : St) (F : Option St) (L : List Ent) (B : Nat → List (List UInt8)) (n : Nat) (D' : Dsk) (S' : St) (F' : Option St) : Prop where
  eq : takeP D S F D.falls L = (n, 0, D', S', F')
  inv : Inv D' S' F'
  armed : D'.armed = D.armed
  falls : D'.falls = D.falls
  len : D'.now.length = D.now.length
  houses : S'.houses = S.houses
  byH : ByH S' (newB L B)
  gen : S'.gen ≤ S.gen + 1
  zero : n = 0 ↔ ∀ k, k < S.houses → newB L B k = B k
  ends : (n = 0 ∧ D' = D ∧ S' = S ∧ F' = F) ∨ (0 < n ∧ F' = some S ∧ S' = S.next (tkL L S) (freeOf D S F))
theorem Inv.take_room {D : Dsk} {S : St} {F : Option St} {B : Nat → List (List UInt8)} (h : Inv D S F) (hb : ByH S B) (ha : D.armed = 0) (hg : S.gen ≠ 9223372036854775807) (L : List Ent) (hr : needOf (tkL L S) ≤ (freeOf D S F).length) :
    ∃ n D' S' F', Took' D S F L B n D' S' F' := by
  rcases h.take hb ha hg L with ⟨h1, h2⟩ | ⟨h1, h2, _⟩ | ⟨h1, h2, h3, h4, h5, h6⟩
  · refine ⟨0, D, S, F, h2, h, rfl, rfl, rfl, rfl, ?_, by omega, ⟨fun _ => h1, fun _ => rfl⟩, .inl ⟨rfl, rfl, rfl, rfl⟩⟩
    exact ⟨hb.ents.trans (joinH_congr fun k hk => (h1 k hk).symm), fun k hk => by rw [h1 k hk]; exact hb.len k hk, fun k hk => by rw [h1 k hk]; exact hb.body k hk⟩
  · omega
  · refine ⟨_, _, _, _, h4, h5, rfl, rfl, chPages_length _ _ _ _, rfl, h6, by simp [St.next], ?_, .inr ⟨h3, rfl, rfl⟩⟩
    exact ⟨fun e => by omega, fun e => absurd e h1⟩
theorem tkL_ents {S : St} {B : Nat → List (List UInt8)} (hb : ByH S B) (L : List Ent) : (tkL L S).map (·.e) = joinH (newB L B) S.houses := (take_spec L S.entries B S.houses hb.ents hb.len).1
theorem tkL_valid {S : St} {B : Nat → List (List UInt8)} (hb : ByH S B) (h8 : S.houses ≤ 8) (L : List Ent) : ∀ p ∈ tkL L S, p.e.valid = true := fun p hp => by
  have : p.e ∈ joinH (newB L B) S.houses := by rw [← tkL_ents hb L]; exact List.mem_map.2 ⟨p, hp, rfl⟩
  exact (join_valid h8 (fun h hh => (newB_ok (hb.len h hh) (hb.body h hh)).1) (fun h hh => (newB_ok (hb.len h hh) (hb.body h hh)).2) _ this).1
theorem Inv.take_big {D : Dsk} {S : St} {F : Option St} {B : Nat → List (List UInt8)} (h : Inv D S F) (hb : ByH S B) (ha : D.armed = 0) (hg : S.gen ≠ 9223372036854775807) (L : List Ent) (hn : D.now.length = 1024) (hS : S.entries.length ≤ 48) (hF : ∀ T, F = some T → T.entries.length ≤ 48)
    (hN : (joinH (newB L B) S.houses).length ≤ 48) : ∃ n D' S' F', Took' D S F L B n D' S' F' := by
  refine h.take_room hb ha hg L (h.room hn hS hF (tkL_valid hb h.legal.ok.houses L) ?_)
  rw [← tkL_ents hb L, List.length_map] at hN
  exact hN
theorem firstSt_byH (h : Nat) : ByH (firstSt h) (fun _ => []) := by
  refine ⟨?_, fun _ _ => by simp, fun _ _ _ hb => by cases hb⟩
  show [] = joinH (fun _ => []) h
  induction h with
  | zero => rfl
  | succ h ih => rw [joinH, ← ih]; rfl
theorem ByH.uniq {S S' : St} {B : Nat → List (List UInt8)} (h : ByH S B) (h' : ByH S' B) (e : S.houses = S'.houses) : entsOf S = entsOf S' := by rw [h.ents, h'.ents, e]
/-- the pages of a state -/
def pagesOfE (L : List Ent) : Nat := (L.length + 25) / 26 + (L.map npieces).sum
theorem allPages_eq (l : List Placed) (hl : ∀ p ∈ l, p.pages.length = npieces p.e) : (allPages l).length = ((l.map (·.e)).map npieces).sum := by
  induction l with
  | nil => rfl
  | cons p l ih =>
    have h3 := ih (fun q hq => hl q (List.mem_cons_of_mem _ hq))
    have h2 := hl p List.mem_cons_self
    simp only [allPages, List.map_cons, List.flatten_cons, List.length_append, List.sum_cons] at *
    omega
theorem Legal.uses_eq {S : St} {n : Nat} (L : Legal S n) : (usesOf S).length = pagesOfE (entsOf S) := by
  rw [usesOf_all, List.length_append, L.ilen, allPages_eq _ L.plen]
  unfold pagesOfE
  rw [entries_len]; rfl
/-- how many pages are free if the former root uses none -/
theorem Inv.free_first {D : Dsk} {S : St} {F : Option St} (h : Inv D S F) (hF : ∀ T, F = some T → usesOf T = []) : (freeOf D S F).length + pagesOfE (entsOf S) = D.now.length - 2 := by
  have hu : usedOf S F = usesOf S := by
    cases hq : F with
    | none => rfl
    | some T => show usesOf S ++ usesOf T = _; rw [hF T hq, List.append_nil]
  show (freeTo (usedOf S F) D.now.length).length + _ = _
  rw [hu, ← h.legal.uses_eq]
  exact freeTo_exact _ _ h.legal.two h.legal.nodup h.legal.rng
theorem firstSt_uses (h : Nat) : usesOf (firstSt h) = [] := by simp [usesOf, usesTo, firstSt]
/-- what a change out of nothing needs -/
theorem need_first {h : Nat} (L : List Ent) : needOf (tkL L (firstSt h)) = pagesOfE (joinH (newB L (fun _ => [])) h) := by
  have hb := firstSt_byH h
  have hs := (take_spec L (firstSt h).entries _ (firstSt h).houses hb.ents hb.len).2.2.1
  have hp : ∀ p ∈ tkL L (firstSt h), p.pages = [] := fun p hp => by
    have h0 : ((tkL L (firstSt h)).filter hasPg) = [] := List.sublist_nil.1 hs
    have := List.filter_eq_nil_iff.1 h0 p hp
    simpa [hasPg] using this
  have hm : (tkL L (firstSt h)).map (·.e) = joinH (newB L (fun _ => [])) h := tkL_ents hb L
  generalize tkL L (firstSt h) = l at *
  unfold needOf pagesOfE idxMany
  rw [← hm, List.length_map]
  have : needTo l l.length = ((l.map (·.e)).map npieces).sum := by
    unfold needTo
    rw [List.take_length, List.map_map]
    congr 1
    exact List.map_congr_left (fun p hpm => by simp [asks, hp p hpm])
  rw [this]
end Go.Proofs.YtlbaagjbehdmgaaGreat
