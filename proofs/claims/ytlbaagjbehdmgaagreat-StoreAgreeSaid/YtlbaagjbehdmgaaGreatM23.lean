/- Entries in order; where one is found; two entries compared. -/
import Derived.Laws.StructEq
import Derived.Test.YtlbaagjbehdmgaaGreatM22
namespace Go.Proofs.YtlbaagjbehdmgaaGreat
open Go.RowKit

/-- does an entry lie ahead of a house and a number? -/
def Ent.lt (a : Ent) (h n : Int) : Bool := decide (a.house < h) || (a.house == h && decide (a.no < n))
theorem cmpKey_lt (a : Ent) (h n : Int) : cmpKey a h n < 0 ↔ a.lt h n = true := by
  unfold cmpKey orI cmpI Ent.lt
  by_cases h1 : a.house < h
  · simp [h1]
  · by_cases h2 : h < a.house
    · have h3 : ¬ a.house = h := by omega
      simp [h1, h2, h3]
    · have h3 : a.house = h := by omega
      by_cases h4 : a.no < n
      · simp [h3, h4]
      · by_cases h5 : n < a.no <;> simp [h3, h4, h5]
theorem cmpKey_eq (a : Ent) (h n : Int) : cmpKey a h n = 0 ↔ a.house = h ∧ a.no = n := by
  unfold cmpKey orI cmpI
  by_cases h1 : a.house < h
  · simp [h1]; omega
  · by_cases h2 : h < a.house
    · simp [h1, h2]; omega
    · by_cases h4 : a.no < n
      · simp [h1, h2, h4]; omega
      · by_cases h5 : n < a.no
        · simp [h1, h2, h4, h5]; omega
        · simp [h1, h2, h4, h5]; omega
/-- entries in order -/
def Sorted (l : List Ent) : Prop := l.Pairwise (fun a b => a.lt b.house b.no = true)
theorem Ent.lt_trans {a b : Ent} {h n : Int} (h1 : a.lt b.house b.no = true) (h2 : b.lt h n = true) : a.lt h n = true := by
  simp only [Ent.lt, Bool.or_eq_true, decide_eq_true_eq, Bool.and_eq_true, beq_iff_eq] at *
  omega
/-- how many entries lie ahead -/
def posOf (l : List Ent) (h n : Int) : Nat := (l.filter (fun a => a.lt h n)).length
theorem posOf_le (l : List Ent) (h n : Int) : posOf l h n ≤ l.length := List.length_filter_le _ _
theorem posOf_spec {l : List Ent} (hs : Sorted l) (h n : Int) : ∀ (m : Nat) (a : Ent), l[m]? = some a → (cmpKey a h n < 0 ↔ m < posOf l h n) := by
  induction l with
  | nil => intro m a h; simp at h
  | cons b l ih =>
    obtain ⟨hb, hl⟩ := List.pairwise_cons.1 hs
    intro m a hm
    rw [cmpKey_lt]
    by_cases hlt : b.lt h n = true
    · have hp : posOf (b :: l) h n = posOf l h n + 1 := by simp [posOf, hlt]
      rw [hp]
      cases m with
      | zero =>
        simp only [List.getElem?_cons_zero, Option.some.injEq] at hm
        subst hm
        exact ⟨fun _ => Nat.succ_pos _, fun _ => hlt⟩
      | succ m =>
        have := ih hl m a (by simpa using hm)
        rw [cmpKey_lt] at this
        rw [this]
        omega
    · have hno : ∀ x ∈ l, x.lt h n = false := fun x hx => by
        cases hq : x.lt h n with
        | false => rfl
        | true => exact absurd (Ent.lt_trans (hb x hx) hq) hlt
      have hp : posOf (b :: l) h n = 0 := by
        simp only [posOf, List.filter_cons, hlt]
        rw [List.filter_eq_nil_iff.2 (fun x hx => by rw [hno x hx]; simp)]
        rfl
      rw [hp]
      have ha : a.lt h n = false := by
        cases m with
        | zero =>
          simp only [List.getElem?_cons_zero, Option.some.injEq] at hm
          subst hm
          simpa using hlt
        | succ m => exact hno a (List.mem_of_getElem? (by simpa using hm))
      rw [ha]
      simp
/-- the entry that is there -/
def hitL (l : List Ent) (pos : Nat) (h n : Int) : Bool := match l[pos]? with | some a => cmpKey a h n == 0 | none => false
theorem hitE_map (r : List (Ent × Value)) (pos : Nat) (h n : Int) : hitE r pos h n = hitL (r.map (·.1)) pos h n := by
  unfold hitE hitL
  rw [List.getElem?_map]
  cases r[pos]? <;> rfl

theorem str_eq (a b : List UInt8) : ((str a).toList == (str b).toList) = (a == b) := by
  rw [ByteArray.toList_eq, ByteArray.toList_eq, str_data, str_data]
theorem run_eql_ent (a b : Ent) (w : World) : (binOp .eql 64 (.agg #[.int .i64 a.house, .int .i64 a.no, .string (str a.body)]) (.agg #[.int .i64 b.house, .int .i64 b.no, .string (str b.body)])).run Tryz.prog w = .ok (.bool (decide (a = b))) w := by
  obtain ⟨ah, an, ab⟩ := a
  obtain ⟨bh, bn, bb⟩ := b
  have hd : decide (Ent.mk ah an ab = Ent.mk bh bn bb) = (ah == bh && (an == bn && ab == bb)) := by
    rw [Bool.eq_iff_iff]
    simp only [decide_eq_true_eq, Ent.mk.injEq, Bool.and_eq_true, beq_iff_eq]
  rw [hd]
  have hst : Tryz.prog.stoodInHeld 64 = false := by kernel_rfl
  have hstr := str_eq ab bb
  by_cases h1 : (ah == bh) = true
  · by_cases h2 : (an == bn) = true
    · simp [go_sem, Tryz.underlying64, Tryz.underlying3, Tryz.underlying9, hst, h1, h2, hstr]
      by_cases h3 : ab = bb <;> simp [h3]
    · have h2' : (an == bn) = false := by simpa using h2
      simp [go_sem, Tryz.underlying64, Tryz.underlying3, Tryz.underlying9, hst, h1, h2']
  · have h1' : (ah == bh) = false := by simpa using h1
    simp [go_sem, Tryz.underlying64, Tryz.underlying3, Tryz.underlying9, hst, h1']
end Go.Proofs.YtlbaagjbehdmgaaGreat
