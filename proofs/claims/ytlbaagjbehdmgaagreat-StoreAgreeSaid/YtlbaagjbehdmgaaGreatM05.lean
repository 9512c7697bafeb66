/- The store in plain Lean: entries, pages, disks, states, without a program. -/
import Derived.Test.YtlbaagjbehdmgaaGreatM04
namespace Go.Proofs.YtlbaagjbehdmgaaGreat

structure Ent where
  house : Int
  no : Int
  body : List UInt8
deriving DecidableEq, Repr

def Ent.valid (e : Ent) : Bool := decide (0 ≤ e.house) && decide (e.house < 8) && decide (0 ≤ e.no) && decide (e.no < 64) && decide (e.body.length ≤ 180)
/-- the cells of an entry -/
def Ent.cells (e : Ent) : List Value := [.int .i64 e.house, .int .i64 e.no, .string (str e.body)]
def Ent.val (e : Ent) : Value := .agg #[.int .i64 e.house, .int .i64 e.no, .string (str e.body)]

/-- is a page sound? -/
def soundP (at_ : Nat) (p : List UInt8) : Bool := num (p.drop 56) == sumOf p at_

structure Placed where
  e : Ent
  pages : List Nat
deriving DecidableEq, Repr

structure St where
  at_ : Nat
  houses : Nat
  gen : Nat
  entries : List Placed
  index : List Nat
deriving DecidableEq, Repr

structure Dsk where
  safe : List (List UInt8)
  now : List (List UInt8)
  writes : List (Nat × List UInt8)
  armed : Nat
  down : Bool
  falls : Int
deriving DecidableEq, Repr

/-- the shape of a disk -/
structure Dsk.ok (d : Dsk) : Prop where
  same : d.safe.length = d.now.length
  few : d.now.length ≤ 1024
  safe64 : ∀ p ∈ d.safe, p.length = 64
  now64 : ∀ p ∈ d.now, p.length = 64
  at_ : ∀ x ∈ d.writes, x.1 < d.now.length ∧ x.2.length = 64

theorem flatten_length (l : List (List UInt8)) (h : ∀ p ∈ l, p.length = 64) : l.flatten.length = l.length * 64 := by
  induction l with
  | nil => rfl
  | cons p l ih =>
    simp only [List.flatten_cons, List.length_append, List.length_cons]
    rw [ih (fun q hq => h q (List.mem_cons_of_mem _ hq)), h p List.mem_cons_self]; omega
/-- a page of a row of pages -/
theorem flatten_get (l : List (List UInt8)) (h : ∀ p ∈ l, p.length = 64) (i j : Nat) (hj : j < 64) (hi : i < l.length) : l.flatten[64 * i + j]? = l[i][j]? := by
  induction l generalizing i with
  | nil => simp at hi
  | cons p l ih =>
    have hp := h p List.mem_cons_self
    cases i with
    | zero => simp only [List.flatten_cons, List.getElem_cons_zero]; rw [List.getElem?_append_left (by omega)]; simp
    | succ i =>
      simp only [List.flatten_cons, List.getElem_cons_succ]
      rw [List.getElem?_append_right (by omega), hp, show 64 * (i + 1) + j - 64 = 64 * i + j from by omega]
      exact ih (fun q hq => h q (List.mem_cons_of_mem _ hq)) i (by simpa using hi)
theorem flatten_set (l : List (List UInt8)) (h : ∀ p ∈ l, p.length = 64) (i : Nat) (hi : i < l.length) (q : List UInt8) (hq : q.length = 64) : (l.set i q).flatten = lay l.flatten (64 * i) q := by
  have hs : ∀ p ∈ l.set i q, p.length = 64 := fun p hp => by
    rcases List.mem_or_eq_of_mem_set hp with h' | h'
    · exact h p h'
    · rw [h', hq]
  have hl := flatten_length l h
  have hl' := flatten_length (l.set i q) hs
  apply List.ext_getElem?
  intro k
  by_cases hk : k < l.length * 64
  · have hk' : k = 64 * (k / 64) + k % 64 := by omega
    rw [lay_get _ _ _ _ (by omega), hk', flatten_get (l.set i q) hs (k / 64) (k % 64) (by omega) (by simp; omega), ← hk']
    rw [List.getElem_set]
    by_cases e : i = k / 64
    · rw [if_pos e, if_pos (by omega)]
      congr 1; omega
    · rw [if_neg e, if_neg (by omega)]
      conv => rhs; rw [hk']
      rw [flatten_get l h (k / 64) (k % 64) (by omega) (by omega)]
  · rw [List.getElem?_eq_none (by simp [hl'] ; omega), List.getElem?_eq_none (by rw [lay_length _ _ _ (by omega)]; omega)]
end Go.Proofs.YtlbaagjbehdmgaaGreat
