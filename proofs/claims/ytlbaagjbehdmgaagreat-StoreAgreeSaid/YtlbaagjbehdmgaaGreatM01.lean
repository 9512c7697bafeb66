/- Words on memory that the walks of the store use: which blocks a call leaves as they were, rows of bytes, stores into a row. store.Sum is the fold of the bytes. store.put writes the low bytes of a number into a row. -/
import Derived.Test.YtlbaagjbehdmgaaGreatProg
import Derived.WalkKit
import Derived.WalkSpells
import Derived.WalkLawsBesides
import Derived.Lib.Hide
import Derived.Deep.MidRow
namespace Go.Proofs.YtlbaagjbehdmgaaGreat
open Go.RowKit

/-- All blocks of w but those in S stand in w' as they were; the streams are as they were. -/
structure Keeps (S : Nat → Prop) (w w' : World) : Prop where
  os : w'.os = w.os
  tape : w'.tape = w.tape
  output : w'.output = w.output
  size : w.heap.size ≤ w'.heap.size
  block : ∀ k, k < w.heap.size → ¬ S k → w'.heap[k]? = w.heap[k]?

/-- no block -/
def None' : Nat → Prop := fun _ => False
/-- one block -/
def One (b : Nat) : Nat → Prop := fun k => k = b

theorem Keeps.refl (S : Nat → Prop) (w : World) : Keeps S w w := ⟨rfl, rfl, rfl, Nat.le_refl _, fun _ _ _ => rfl⟩
theorem Keeps.trans {S : Nat → Prop} {a b c : World} (h : Keeps S a b) (k : Keeps S b c) : Keeps S a c :=
  ⟨k.os.trans h.os, k.tape.trans h.tape, k.output.trans h.output, Nat.le_trans h.size k.size,
   fun i hi hs => (k.block i (Nat.lt_of_lt_of_le hi h.size) hs).trans (h.block i hi hs)⟩
/-- the second step may touch what is new besides -/
theorem Keeps.trans' {S S' : Nat → Prop} {a b c : World} (h : Keeps S a b) (k : Keeps S' b c) (hs : ∀ i, i < a.heap.size → S' i → S i) : Keeps S a c :=
  ⟨k.os.trans h.os, k.tape.trans h.tape, k.output.trans h.output, Nat.le_trans h.size k.size,
   fun i hi hS => (k.block i (Nat.lt_of_lt_of_le hi h.size) (fun h' => hS (hs i hi h'))).trans (h.block i hi hS)⟩
theorem Keeps.mono {S S' : Nat → Prop} {a b : World} (h : Keeps S a b) (hs : ∀ i, i < a.heap.size → S i → S' i) : Keeps S' a b :=
  ⟨h.os, h.tape, h.output, h.size, fun i hi hS => h.block i hi (fun h' => hS (hs i hi h'))⟩
theorem Keeps.drew {S : Nat → Prop} {a b : World} (h : Keeps S a b) : Keeps S a b.drew := ⟨h.os, h.tape, h.output, h.size, h.block⟩
theorem Keeps.drewN {S : Nat → Prop} {a b : World} (h : Keeps S a b) (n : Nat) : Keeps S a (b.drewN n) := ⟨h.os, h.tape, h.output, h.size, h.block⟩
theorem Keeps.alloc {S : Nat → Prop} {a b : World} (h : Keeps S a b) (o : Obj) : Keeps S a (b.alloc o) :=
  h.trans' (S' := S) ⟨rfl, rfl, rfl, by simp, fun k hk _ => Below.heap_alloc _ _ _ hk⟩ (fun _ _ h => h)
theorem Keeps.setCell {S : Nat → Prop} {a b : World} (h : Keeps S a b) (p : Addr) (u : Value) (hp : p.block < a.heap.size → S p.block) : Keeps S a (b.setCell p u) :=
  h.trans' (S' := One p.block) ⟨rfl, rfl, rfl, by simp [World.setCell], fun k _ hk => Below.heap_setCell _ _ _ _ hk⟩ (fun i hi e => by cases e; exact hp hi)
theorem Keeps.set1 (w : World) (b o : Nat) (v : Value) : Keeps (One b) w (w.setCell ⟨b, o, none⟩ v) := (Keeps.refl (One b) w).setCell ⟨b, o, none⟩ v (fun _ => (rfl : b = b))
theorem Keeps.blk {S : Nat → Prop} {a b : World} (h : Keeps S a b) {k : Nat} {o : Obj} (hb : a.heap[k]? = some o) (hs : ¬ S k) : b.heap[k]? = some o :=
  (h.block k (lt_of_block hb) hs).trans hb
theorem Keeps.cell {S : Nat → Prop} {a b : World} (h : Keeps S a b) {p : Addr} (hp : p.block < a.heap.size) (hs : ¬ S p.block) : b.cell? p = a.cell? p :=
  World.cell?_of_block (h.block p.block hp hs)
theorem Keeps.frozen {S : Nat → Prop} {a b : World} (h : Keeps S a b) {p : Addr} (hp : p.block < a.heap.size) (hs : ¬ S p.block) : b.frozen? p = a.frozen? p :=
  World.frozen?_of_block (h.block p.block hp hs)
theorem Keeps.below {a b : World} (h : Keeps None' a b) : Below a.heap.size a b := ⟨h.os, h.tape, h.output, h.size, fun k hk => h.block k hk (fun h => h)⟩
theorem Keeps.of_below {S : Nat → Prop} {a b : World} (h : Below a.heap.size a b) : Keeps S a b := ⟨h.os, h.tape, h.output, h.size, fun k hk _ => h.block k hk⟩

/-- A byte as a cell. -/
def bv (x : UInt8) : Value := .int .u8 x.toNat
/-- bytes as cells -/
def bvs (l : List UInt8) : Array Value := (l.map bv).toArray
@[simp] theorem bvs_size (l : List UInt8) : (bvs l).size = l.length := by simp [bvs]
theorem bvs_get (l : List UInt8) (i : Nat) : (bvs l)[i]? = (l[i]?).map bv := by simp [bvs]

/-- cells written one behind the other into a row -/
def fillA (cs : Array Value) (off : Nat) (f : Nat → Value) : Nat → Array Value
  | 0 => cs
  | k + 1 => (fillA cs off f k).setIfInBounds (off + k) (f k)
theorem fillA_size (cs : Array Value) (off : Nat) (f : Nat → Value) : ∀ k, (fillA cs off f k).size = cs.size
  | 0 => rfl
  | k + 1 => by simp [fillA, fillA_size cs off f k]
theorem fillA_get (cs : Array Value) (off : Nat) (f : Nat → Value) (j : Nat) : ∀ k, off + k ≤ cs.size →
    (fillA cs off f k)[j]? = if off ≤ j ∧ j < off + k then some (f (j - off)) else cs[j]?
  | 0, _ => by rw [if_neg (by omega)]; rfl
  | k + 1, h => by
    have ih := fillA_get cs off f j k (by omega)
    simp only [fillA, Array.getElem?_setIfInBounds, fillA_size]
    by_cases e : off + k = j
    · subst e
      rw [if_pos rfl, if_pos (by omega), if_pos (by omega)]
      simp
    · rw [if_neg e, ih]
      by_cases h1 : off ≤ j ∧ j < off + k
      · rw [if_pos h1, if_pos (by omega)]
      · rw [if_neg h1, if_neg (by omega)]
/-- l laid over xs from off on -/
def lay {α : Type} (xs : List α) (off : Nat) (l : List α) : List α := xs.take off ++ l ++ xs.drop (off + l.length)
theorem lay_length {α : Type} (xs : List α) (off : Nat) (l : List α) (h : off + l.length ≤ xs.length) : (lay xs off l).length = xs.length := by
  simp [lay]; omega
theorem lay_get {α : Type} (xs : List α) (off : Nat) (l : List α) (j : Nat) (h : off + l.length ≤ xs.length) :
    (lay xs off l)[j]? = if off ≤ j ∧ j < off + l.length then l[j - off]? else xs[j]? := by
  unfold lay
  by_cases h1 : j < off
  · rw [if_neg (by omega), List.append_assoc, List.getElem?_append_left (by simp; omega), List.getElem?_take_of_lt h1]
  · by_cases h2 : j < off + l.length
    · rw [if_pos (by omega), List.getElem?_append_left (by simp; omega), List.getElem?_append_right (by simp; omega)]
      congr 1; simp; omega
    · rw [if_neg (by omega), List.getElem?_append_right (by simp; omega), List.getElem?_drop]
      congr 1; simp; omega
/-- a fill of a row of bytes by bytes is the laying of them -/
theorem fillA_bvs (xs : List UInt8) (off : Nat) (l : List UInt8) (f : Nat → Value) (hf : ∀ i x, l[i]? = some x → f i = bv x) (h : off + l.length ≤ xs.length) :
    fillA (bvs xs) off f l.length = bvs (lay xs off l) := by
  apply Array.ext_getElem?
  intro j
  rw [fillA_get _ _ _ _ _ (by simpa using h), bvs_get, bvs_get, lay_get _ _ _ _ h]
  by_cases h1 : off ≤ j ∧ j < off + l.length
  · rw [if_pos h1, if_pos h1]
    have : j - off < l.length := by omega
    rw [List.getElem?_eq_getElem this, Option.map_some, hf _ _ (List.getElem?_eq_getElem this)]
  · rw [if_neg h1, if_neg h1]

/-- a world by what is known of it -/
theorem gen_wp {P : Program} {c : Code} {Q : Exit → Act → World → Prop} {a : Act} {w0 : World} (F : World → Prop) (h0 : F w0) (h : ∀ W, F W → c.wp P Q a W) : c.wp P Q a w0 := h _ h0
theorem gen_list {P : Program} {ops : Array Oper} {l : List Oper} {Q : Exit → Act → World → Prop} {a : Act} {w0 : World} (F : World → Prop) (h0 : F w0) (h : ∀ W, F W → wpList P ops Q l a W) : wpList P ops Q l a w0 := h _ h0
theorem ret_int {k : IntKind} {a b : Int} (h : a = b) : Ending.returned (.int k a) = .returned (.int k b) := by rw [h]
theorem ret_str {a b : ByteArray} (h : a = b) : Ending.returned (.string a) = .returned (.string b) := by rw [h]
theorem ret_bool {a b : Bool} (h : a = b) : Ending.returned (.bool a) = .returned (.bool b) := by rw [h]
theorem cell_of_blk {w : World} {b : Nat} {cs : Array Value} {t : TypeId} {fr : Nat × Nat} (h : w.heap[b]? = some (.cells cs t fr)) (i : Nat) {v : Value} (hv : cs[i]? = some v) : w.cell? ⟨b, i, none⟩ = some v := by
  rw [cell_of_row w b i cs t fr h]; exact hv
theorem free_of_blk {w : World} {b : Nat} {cs : Array Value} {t : TypeId} (h : w.heap[b]? = some (.cells cs t (0, 0))) (i : Nat) : w.frozen? ⟨b, i, none⟩ = false :=
  frozen_of_row w b i cs t h
theorem rangeAt_of_blk {w : World} {b : Nat} {cs : Array Value} {t : TypeId} {fr : Nat × Nat} (h : w.heap[b]? = some (.cells cs t fr)) (o : Nat) (l : List Value) (hl : ∀ i v, l[i]? = some v → cs[o + i]? = some v) :
    w.rangeAt b o l := fun j v hv => cell_of_blk h (o + j) (hl j v hv)
theorem results_cell_mid {P : Program} {fn : Func} {p : Tmp} {ty : TypeId} (h : fn.results = #[.cell p ty]) (tmps : Array Value) (w : World) (g o : Nat) (cs : List Value) (d : TypeDesc)
    (hp : tmps.getD p undef = .pointer (some ⟨g, o, none⟩)) (hc : w.rangeAt g o cs) (hu : P.underlying ty = some d) (hd : d.isRow = true) (hi : (P.info? ty).map (·.size) = some cs.length) :
    (results fn tmps).run P w = .ok (.agg cs.toArray) w := by
  have hp' : tmps[p]?.getD undef = .pointer (some ⟨g, o, none⟩) := by simpa using hp
  simp [results, h, hp', asAddr, run_loadVar_mid w g o ty cs d hc hu hd hi]
theorem heap_setCells (b : Nat) : ∀ (vs : List Value) (o : Nat) (w : World) (k : Nat), k ≠ b → (w.setCells b o vs).heap[k]? = w.heap[k]?
  | [], _, _, _, _ => rfl
  | v :: vs, o, w, k, h => by
    simp only [World.setCells]
    rw [heap_setCells b vs _ _ k h]
    exact heap_setCell_other _ _ _ _ h
theorem size_setCells (b : Nat) : ∀ (vs : List Value) (o : Nat) (w : World), (w.setCells b o vs).heap.size = w.heap.size
  | [], _, _ => rfl
  | v :: vs, o, w => by
    simp only [World.setCells]
    rw [size_setCells b vs _ _]
    simp [World.setCell]
theorem keeps_setCells (b : Nat) : ∀ (vs : List Value) (o : Nat) (w : World), Keeps (One b) w (w.setCells b o vs)
  | [], _, _ => Keeps.refl _ _
  | v :: vs, o, w => by
    simp only [World.setCells]
    exact ((Keeps.refl (One b) w).setCell ⟨b, o, none⟩ v (fun _ => (rfl : b = b))).trans (keeps_setCells b vs _ _)
theorem Keeps.setCells {S : Nat → Prop} {a w : World} (h : Keeps S a w) (b o : Nat) (vs : List Value) (hb : a.heap.size ≤ b) : Keeps S a (w.setCells b o vs) :=
  h.trans' (keeps_setCells b vs o w) (fun i hi e => by cases e; omega)
theorem heap_alloc3 (w : World) (A B C : Obj) : (((w.alloc A).alloc B).alloc C).heap[w.heap.size]? = some A ∧ (((w.alloc A).alloc B).alloc C).heap[w.heap.size + 1]? = some B ∧ (((w.alloc A).alloc B).alloc C).heap[w.heap.size + 2]? = some C := by
  have h2 : ((w.alloc A).alloc B).heap.size = w.heap.size + 2 := by simp
  refine ⟨?_, ?_, ?_⟩
  · exact (Below.heap_alloc _ _ _ (by omega)).trans (heap_alloc2_old w A B)
  · exact (Below.heap_alloc _ _ _ (by omega)).trans (heap_alloc2_new w A B)
  · have := heap_alloc_new ((w.alloc A).alloc B) C
    rwa [h2] at this
theorem rangeAt_cons {w : World} {b o : Nat} {v : Value} {l : List Value} (h : w.rangeAt b o (v :: l)) : w.cell? ⟨b, o, none⟩ = some v ∧ w.rangeAt b (o + 1) l :=
  ⟨by simpa using h 0 v rfl, fun j u hj => by have := h (j + 1) u (by simpa using hj); rwa [show o + (j + 1) = o + 1 + j from by omega] at this⟩
theorem Keeps.range {S : Nat → Prop} {a b : World} (h : Keeps S a b) {g o : Nat} {l : List Value} (hr : a.rangeAt g o l) (hs : ¬ S g) : b.rangeAt g o l := fun j v hj =>
  (h.cell (p := ⟨g, o + j, none⟩) (block_lt_of_cell (hr j v hj)) hs).trans (hr j v hj)
theorem there_of_blk {w : World} {b : Nat} {cs : Array Value} {t : TypeId} (h : w.heap[b]? = some (.cells cs t (0, 0))) (o n : Nat) (hl : o + n ≤ cs.size) : w.there b o n := fun j hj =>
  ⟨by rw [cell_of_blk h (o + j) (Array.getElem?_eq_getElem (by omega))]; rfl, free_of_blk h (o + j)⟩
end Go.Proofs.YtlbaagjbehdmgaaGreat

namespace Go.Proofs.YtlbaagjbehdmgaaGreat
open Go.RowKit

def fnv1 (h : Nat) (b : UInt8) : Nat := (h ^^^ b.toNat) * 1099511628211 % 18446744073709551616
def fnvFrom (h : Nat) (l : List UInt8) : Nat := l.foldl fnv1 h
def fnv (l : List UInt8) : Nat := fnvFrom 14695981039346656037 l
theorem fnv1_lt (h : Nat) (b : UInt8) : fnv1 h b < 18446744073709551616 := Nat.mod_lt _ (by decide)
theorem fnvFrom_lt (h : Nat) (hh : h < 18446744073709551616) : ∀ l : List UInt8, fnvFrom h l < 18446744073709551616
  | [] => hh
  | x :: l => fnvFrom_lt (fnv1 h x) (fnv1_lt h x) l
theorem fnv_lt (l : List UInt8) : fnv l < 18446744073709551616 := fnvFrom_lt _ (by decide) l
theorem fnv_le (l : List UInt8) : ((fnv l : Nat) : Int) ≤ 18446744073709551615 := by have := fnv_lt l; omega
theorem fnv_snoc (l : List UInt8) (b : UInt8) : fnv (l ++ [b]) = fnv1 (fnv l) b := by unfold fnv fnvFrom; rw [List.foldl_append, List.foldl_cons, List.foldl_nil]
theorem fnv_step (h : Nat) (hh : h < 18446744073709551616) (b : UInt8) :
    IntKind.u64.wrap (bits .xor .u64 (h : Int) (IntKind.u64.wrap (b.toNat : Int)) * 1099511628211) = ((fnv1 h b : Nat) : Int) := by
  have hb : b.toNat < 256 := by have := b.toNat_lt; omega
  have e : IntKind.u64.wrap (b.toNat : Int) = (b.toNat : Int) := by simp only [IntKind.wrap, IntKind.bits, IntKind.signed]; simp; omega
  rw [e, u64_xor_nat h b.toNat hh (by omega)]
  simp only [IntKind.wrap, IntKind.bits, IntKind.signed, fnv1]
  simp
theorem take_snoc (s : ByteArray) (k : Nat) (h : k < s.size) : s.data.toList.take (k + 1) = s.data.toList.take k ++ [s[k]] := by
  rw [List.take_succ_eq_append_getElem (by simpa using h)]; rfl

set_option maxHeartbeats 400000 in
theorem sum_any (s : ByteArray) (w : World) (hs : s.size ≤ 1000000000) :
    Calls Tryz.prog 58 #[.string s] w fun e w' => e = .returned (.int .u64 (fnv s.data.toList)) ∧ w = w' := by
  go_enter Tryz.func58, Tryz.ntmps58
  go_wp2
  go_loop [3, 7] (fun h i => ∃ k : Nat, k ≤ s.size ∧ i = .int .i64 k ∧ h = .int .u64 (fnv (s.data.toList.take k))) (fun _ i => s.size - (intOf i).toNat)
  case atStart => exact ⟨0, Nat.zero_le _, rfl, rfl⟩
  case round =>
    obtain ⟨k, hk, rfl, rfl⟩ := hrel
    by_cases hlt : k < s.size
    · go_wp2
      go_round
      case rel => exact ⟨k + 1, by omega, by go_num, by rw [fnv_step _ (fnv_lt _), take_snoc _ _ hlt, fnv_snoc]⟩
      case measure => simp [intOf]; omega
    · go_wp2
      go_ret
      exact ⟨ret_int (by rw [List.take_of_length_le (by simp; omega)]), rfl⟩
end Go.Proofs.YtlbaagjbehdmgaaGreat

namespace Go.Proofs.YtlbaagjbehdmgaaGreat
open Go.RowKit

/-- the k lowest bytes of n, the lowest first -/
def low (k n : Nat) : List UInt8 := (List.range k).map fun i => UInt8.ofNat (n / 256 ^ i % 256)
@[simp] theorem low_length (k n : Nat) : (low k n).length = k := by simp [low]
def lowV (n : Nat) (i : Nat) : Value := .int .u8 ((n : Int) / 256 ^ i % 256)
theorem lowV_eq (k n : Nat) (i : Nat) (x : UInt8) (h : (low k n)[i]? = some x) : lowV n i = bv x := by
  simp only [low, List.getElem?_map, Option.map_eq_some_iff] at h
  obtain ⟨j, hj, rfl⟩ := h
  have : j = i := by
    by_cases h' : i < k
    · rw [List.getElem?_range h'] at hj; exact (Option.some.inj hj).symm
    · rw [List.getElem?_eq_none (by simpa using h')] at hj; cases hj
  subst this
  simp only [lowV, bv, UInt8.toNat_ofNat']
  have : n / 256 ^ j % 256 % 2 ^ 8 = n / 256 ^ j % 256 := Nat.mod_eq_of_lt (by have := Nat.mod_lt (n / 256 ^ j) (show 0 < 256 by decide); omega)
  rw [this, Int.natCast_emod, Int.natCast_ediv, Int.natCast_pow]
  rfl

/-- the loop's world: k cells written -/
structure PutAt (w : World) (b off : Nat) (cs : Array Value) (t : TypeId) (n k : Nat) (wr : World) : Prop where
  blk : wr.heap[b]? = some (.cells (fillA cs off (lowV n) k) t (0, 0))
  keeps : Keeps (One b) w wr
  size : wr.heap.size = w.heap.size

theorem pow256 (k : Nat) : (0 : Int) ≤ 256 ^ k := Int.pow_nonneg (by decide)
theorem PutAt.step {w wr : World} {b off : Nat} {cs : Array Value} {t : TypeId} {n k : Nat} (h : PutAt w b off cs t n k wr) :
    PutAt w b off cs t n (k + 1) (wr.setCell ⟨b, off + k, none⟩ (.int .u8 ((n : Int) / 256 ^ k % 256))) :=
  ⟨heap_setCell_same _ _ _ _ _ _ h.blk, h.keeps.setCell _ _ (fun _ => rfl), by simpa [World.setCell] using h.size⟩
theorem div_pow (n : Int) (k : Nat) : n / 256 ^ k / 256 = n / 256 ^ (k + 1) := by
  rw [Int.ediv_ediv_of_nonneg (pow256 k), Int.pow_succ]

set_option maxHeartbeats 400000 in
theorem put_fill (b off len cap n : Nat) (w : World) (cs : Array Value) (t : TypeId) (hl : off + len ≤ cs.size) (hm : len ≤ 1000000000) (hn1 : (n : Int) ≤ 18446744073709551615)
    (hb : w.heap[b]? = some (.cells cs t (0, 0))) :
    Calls Tryz.prog 139 #[.slice (some ⟨b, off, none⟩) len cap, .int .u64 n] w fun e w' => e = .returned (.tuple #[]) ∧ PutAt w b off cs t n len w' := by
  have hp : PutAt w b off cs t n 0 w := ⟨hb, Keeps.refl _ _, rfl⟩
  clear hb
  go_enter Tryz.func139, Tryz.ntmps139
  go_wp2
  go_loopw [1, 7] (fun m i wr => ∃ k : Nat, k ≤ len ∧ i = .int .i64 k ∧ m = .int .u64 ((n : Int) / 256 ^ k) ∧ PutAt w b off cs t n k wr) (fun _ i _ => len - (intOf i).toNat)
  case atStart => exact ⟨0, Nat.zero_le _, rfl, by rw [Int.pow_zero, Int.ediv_one], hp⟩
  case round =>
    obtain ⟨k, hk, rfl, rfl, hw⟩ := hrel
    by_cases hlt : k < len
    · have hc := cell_of_blk hw.blk (off + k) (v := ((fillA cs off (lowV n) k)[off + k]'(by rw [fillA_size]; omega))) (Array.getElem?_eq_getElem _)
      have hf := free_of_blk hw.blk (off + k)
      have hd : 0 ≤ (n : Int) / 256 ^ k := Int.ediv_nonneg (by omega) (pow256 k)
      have hd2 : (n : Int) / 256 ^ k ≤ 18446744073709551615 := Int.le_trans (Int.ediv_le_self _ (by omega)) hn1
      go_wp2
      go_roundw
      case rel => exact ⟨k + 1, by omega, by go_num, by rw [div_pow], hw.step⟩
      case measure => simp [intOf]; omega
    · go_wp2
      have : k = len := by omega
      subst this
      go_end0
      exact ⟨rfl, hw⟩

/-- put into a row of bytes -/
theorem put_any (b off len cap n : Nat) (w : World) (xs : List UInt8) (t : TypeId) (hl : off + len ≤ xs.length) (hm : len ≤ 1000000000) (hn1 : (n : Int) ≤ 18446744073709551615)
    (hb : w.heap[b]? = some (.cells (bvs xs) t (0, 0))) :
    Calls Tryz.prog 139 #[.slice (some ⟨b, off, none⟩) len cap, .int .u64 n] w fun e w' =>
      e = .returned (.tuple #[]) ∧ w'.heap[b]? = some (.cells (bvs (lay xs off (low len n))) t (0, 0)) ∧ Keeps (One b) w w' ∧ w'.heap.size = w.heap.size := by
  refine (put_fill b off len cap n w (bvs xs) t (by simpa using hl) hm hn1 hb).mono ?_
  rintro e w' ⟨rfl, h⟩
  refine ⟨rfl, ?_, h.keeps, h.size⟩
  rw [h.blk]
  have := fillA_bvs xs off (low len n) (lowV n) (lowV_eq len n) (by simpa using hl)
  rw [low_length] at this
  rw [this]
end Go.Proofs.YtlbaagjbehdmgaaGreat
