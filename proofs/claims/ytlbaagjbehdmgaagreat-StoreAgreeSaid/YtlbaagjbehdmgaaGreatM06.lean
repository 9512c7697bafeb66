/- The small functions on entries and pages. The disk in memory, and its small methods. The disk's calls that count, and reading. -/
import Derived.Deep.QuietTactic
import Derived.BigQuiet
import Derived.Test.YtlbaagjbehdmgaaGreatM05
namespace Go.Proofs.YtlbaagjbehdmgaaGreat
open Go.RowKit

theorem beq_cast (a b : Nat) : ((a : Int) == (b : Int)) = (a == b) := by rw [Bool.eq_iff_iff, beq_iff_eq, beq_iff_eq]; omega
theorem build3 (w : World) : (Instr.build 210 #[(0, .int .i64 13), (1, .int .i64 3), (2, .int .i64 3)]).run Tryz.prog w = .ok (.agg #[.int .i64 13, .int .i64 3, .int .i64 3]) w := by kernel_rfl
theorem index3_0 (w : World) : (Instr.index 210 (.agg #[.int .i64 13, .int .i64 3, .int .i64 3]) (.int .i64 0)).run Tryz.prog w = .ok (.int .i64 13) w := by kernel_rfl
theorem index3_1 (w : World) : (Instr.index 210 (.agg #[.int .i64 13, .int .i64 3, .int .i64 3]) (.int .i64 1)).run Tryz.prog w = .ok (.int .i64 3) w := by kernel_rfl
theorem index3_2 (w : World) : (Instr.index 210 (.agg #[.int .i64 13, .int .i64 3, .int .i64 3]) (.int .i64 2)).run Tryz.prog w = .ok (.int .i64 3) w := by kernel_rfl

set_option maxHeartbeats 400000 in
theorem head_0 (w : World) : Calls Tryz.prog 123 #[.int .i64 0] w fun e w' => e = .returned (.int .i64 13) ∧ w = w' := by
  have hb := build3
  have hi := index3_0
  go_enter Tryz.func123, Tryz.ntmps123
  go_wp2
  go_ret
  exact ⟨rfl, rfl⟩

set_option maxHeartbeats 400000 in
theorem head_1 (w : World) : Calls Tryz.prog 123 #[.int .i64 1] w fun e w' => e = .returned (.int .i64 3) ∧ w = w' := by
  have hb := build3
  have hi := index3_1
  go_enter Tryz.func123, Tryz.ntmps123
  go_wp2
  go_ret
  exact ⟨rfl, rfl⟩

set_option maxHeartbeats 400000 in
theorem head_2 (w : World) : Calls Tryz.prog 123 #[.int .i64 2] w fun e w' => e = .returned (.int .i64 3) ∧ w = w' := by
  have hb := build3
  have hi := index3_2
  go_enter Tryz.func123, Tryz.ntmps123
  go_wp2
  go_ret
  exact ⟨rfl, rfl⟩

set_option maxRecDepth 100000 in
set_option maxHeartbeats 1000000 in
theorem sound_any (b off at_ : Nat) (w : World) (p : List UInt8) (hl : p.length = 64) (hb : b < w.heap.size) (h : w.rangeAt b off (p.map bv)) :
    Calls Tryz.prog 106 #[.pointer (some ⟨b, off, none⟩), .int .i64 at_] w fun e w' => e = .returned (.bool (soundP at_ p)) ∧ Keeps None' w w' := by
  have h8 : w.rangeAt b (off + 56) ((p.drop 56).map bv) := fun j v hv => by
    rw [List.map_drop, List.getElem?_drop] at hv
    have := h (56 + j) v hv
    rwa [← Nat.add_assoc] at this
  have hd : (p.drop 56).length = 8 := by simp [hl]
  have hg := get_any b (off + 56) 8 (p.drop 56) (by omega) w hb h8
  rw [hd] at hg
  go_enter Tryz.func106, Tryz.ntmps106
  go_wp2_with fail
  refine hg.mono ?_
  rintro e w1 ⟨rfl, hk⟩
  have h1 : w1.rangeAt b off (p.map bv) := fun j v hv => (hk.cell (p := ⟨b, off + j, none⟩) hb (fun h => h)).trans (h j v hv)
  clear hg hd h8
  go_wp2_with fail
  refine (psum_any b off at_ w1 p hl h1).mono ?_
  rintro e w2 ⟨rfl, hk2⟩
  go_wp2
  go_ret
  exact ⟨ret_bool (beq_cast _ _), hk.trans hk2⟩

def chk (e : Ent) : Int := if e.valid then 0 else 90
theorem chk_ok {e : Ent} (h : e.valid = true) : chk e = 0 := by simp [chk, h]
theorem chk_bad {e : Ent} (h : e.valid = false) : chk e = 90 := by simp [chk, h]

set_option maxHeartbeats 1000000 in
theorem check_any (e : Ent) (w : World) :
    Calls Tryz.prog 72 #[e.val] w fun r w' => r = .returned (.int .i64 (chk e)) ∧ Keeps None' w w' := by
  obtain ⟨h, n, b⟩ := e
  have hs : (str b).size = b.length := str_size b
  have hK : Keeps None' w (w.alloc (.cells #[.int .i64 h, .int .i64 n, .string (str b)] 64)) := (Keeps.refl _ _).alloc _
  have hbad : ∀ P : Prop, P → (P → (Ent.mk h n b).valid = false) → chk ⟨h, n, b⟩ = 90 := fun P hp hv => chk_bad (hv hp)
  unfold Ent.val
  dsimp only
  by_cases h1 : h < 0
  · have hv := Lib.hid (hbad _ h1 (fun _ => by simp [Ent.valid]; omega))
    clear hbad
    go_enter Tryz.func72, Tryz.ntmps72
    go_wp2
    go_ret
    exact ⟨ret_int hv.out.symm, hK⟩
  by_cases h2 : 8 ≤ h
  · have hv := Lib.hid (hbad _ h2 (fun _ => by simp [Ent.valid]; omega))
    clear hbad
    go_enter Tryz.func72, Tryz.ntmps72
    go_wp2
    go_ret
    exact ⟨ret_int hv.out.symm, hK⟩
  by_cases h3 : n < 0
  · have hv := Lib.hid (hbad _ h3 (fun _ => by simp [Ent.valid]; omega))
    clear hbad
    go_enter Tryz.func72, Tryz.ntmps72
    go_wp2
    go_ret
    exact ⟨ret_int hv.out.symm, hK⟩
  by_cases h4 : 64 ≤ n
  · have hv := Lib.hid (hbad _ h4 (fun _ => by simp [Ent.valid]; omega))
    clear hbad
    go_enter Tryz.func72, Tryz.ntmps72
    go_wp2
    go_ret
    exact ⟨ret_int hv.out.symm, hK⟩
  by_cases h5 : 180 < b.length
  · have hv := Lib.hid (hbad _ h5 (fun _ => by simp [Ent.valid]; omega))
    clear hbad
    go_enter Tryz.func72, Tryz.ntmps72
    go_wp2
    go_ret
    exact ⟨ret_int hv.out.symm, hK⟩
  · have hv := Lib.hid (chk_ok (e := ⟨h, n, b⟩) (by simp [Ent.valid]; omega))
    clear hbad
    go_enter Tryz.func72, Tryz.ntmps72
    go_wp2
    go_ret
    exact ⟨ret_int hv.out.symm, hK⟩

/-- v reads as the numbers l: nil just where there are none -/
def RInts (w : World) (v : Value) (l : List Nat) : Prop :=
  (v = .slice none 0 0 ∧ l = []) ∨
  ∃ b off cap cs, v = .slice (some ⟨b, off, none⟩) l.length cap ∧ (l ≠ [] ∧ l.length ≤ cap) ∧ w.heap[b]? = some (.cells cs 3 (0, 0)) ∧ ∀ (i x : Nat), l[i]? = some x → cs[off + i]? = some (.int .i64 x)
theorem RInts.keep {S : Nat → Prop} {w w' : World} {v : Value} {l : List Nat} (h : RInts w v l) (k : Keeps S w w') (hs : ∀ b cs fr, S b → w.heap[b]? ≠ some (.cells cs 3 fr)) : RInts w' v l := by
  rcases h with h | ⟨b, off, cap, cs, rfl, hn, hb, hc⟩
  · exact .inl h
  · exact .inr ⟨b, off, cap, cs, rfl, hn, k.blk hb (fun hS => hs _ _ _ hS hb), hc⟩

/-- the page behind the i-th one, 0: none -/
def nextOf (l : List Nat) (i : Nat) : Nat := (l[i + 1]?).getD 0

set_option maxHeartbeats 1000000 in
theorem next_any (w : World) (v : Value) (l : List Nat) (i : Nat) (hr : RInts w v l) (hi : i < l.length) (hm : l.length ≤ 100000) (hx : ∀ x ∈ l, x ≤ 100000) :
    Calls Tryz.prog 154 #[v, .int .i64 i] w fun e w' => e = .returned (.int .u64 (nextOf l i)) ∧ w = w' := by
  rcases hr with ⟨_, rfl⟩ | ⟨b, off, cap, cs, rfl, hn, hb, hc⟩
  · simp at hi
  · by_cases h : i + 1 < l.length
    · have hq : nextOf l i = l[i + 1] := by simp [nextOf, h]
      have hcell := cell_of_blk hb (off + (i + 1)) (hc (i + 1) l[i + 1] (by simp [h]))
      have hle : l[i + 1] ≤ 100000 := hx _ (List.getElem_mem h)
      generalize l[i + 1] = x at *
      have HQ := Lib.hid hq
      clear hq hb hc hn
      go_enter Tryz.func154, Tryz.ntmps154
      go_wp2
      go_ret
      exact ⟨ret_int (by rw [HQ.out]), rfl⟩
    · have HQ := Lib.hid (show nextOf l i = 0 by simp [nextOf]; rw [List.getElem?_eq_none (by omega)]; rfl)
      clear hb hc hn
      go_enter Tryz.func154, Tryz.ntmps154
      go_wp2
      go_ret
      exact ⟨ret_int (by rw [HQ.out]; rfl), rfl⟩

/-- the bytes of an entry -/
def payload (e : Ent) : List UInt8 := [UInt8.ofNat e.house.toNat, UInt8.ofNat e.no.toNat] ++ e.body
theorem payload_length (e : Ent) : (payload e).length = e.body.length + 2 := by simp [payload]

set_option maxRecDepth 100000 in
set_option maxHeartbeats 1000000 in
theorem payload_any (e : Ent) (hv : e.valid = true) (w : World) :
    Calls Tryz.prog 153 #[e.val] w fun r w' => r = .returned (.string (str (payload e))) ∧ Keeps None' w w' := by
  obtain ⟨h, n, b⟩ := e
  simp [Ent.valid] at hv
  obtain ⟨⟨⟨⟨h1, h2⟩, h3⟩, h4⟩, h5⟩ := hv
  have hs : (str b).size = b.length := str_size b
  have hr2 : ∀ x y : Int, (convert 91 9 (.slice (some ⟨w.heap.size + 1, 0, none⟩) 2 2)).run Tryz.prog ((w.alloc (.cells #[.int .i64 h, .int .i64 n, .string (str b)] 64)).alloc (.cells #[.int .u8 x, .int .u8 y] 5)) =
      .ok (.string (str [UInt8.ofNat x.toNat, UInt8.ofNat y.toNat])) ((w.alloc (.cells #[.int .i64 h, .int .i64 n, .string (str b)] 64)).alloc (.cells #[.int .u8 x, .int .u8 y] 5)) := fun x y => by
    have := two_bytes_str' (P := Tryz.prog) (w.alloc (.cells #[.int .i64 h, .int .i64 n, .string (str b)] 64)) _ _ _ Tryz.underlying91 Tryz.underlying5 Tryz.underlying9 x y
    rwa [World.size_alloc] at this
  unfold Ent.val
  dsimp only
  go_enter Tryz.func153, Tryz.ntmps153
  go_wp2
  go_ret
  exact ⟨ret_str rfl, ((Keeps.refl _ _).alloc _).alloc _⟩
end Go.Proofs.YtlbaagjbehdmgaaGreat

namespace Go.Proofs.YtlbaagjbehdmgaaGreat
open Go.RowKit

def npieces (e : Ent) : Nat := (e.body.length + 2 + 52) / 53

set_option maxHeartbeats 1000000 in
theorem pieces_any (e : Ent) (hv : e.valid = true) (w : World) :
    Calls Tryz.prog 116 #[e.val] w fun r w' => r = .returned (.int .i64 (npieces e)) ∧ Keeps None' w w' := by
  have hl : (str (payload e)).size = e.body.length + 2 := by rw [str_size, payload_length]
  have h5 : e.body.length ≤ 180 := by simp [Ent.valid] at hv; omega
  have hp := payload_any e hv
  obtain ⟨h, n, b⟩ := e
  unfold Ent.val at hp ⊢
  dsimp only at hp ⊢ h5 hl
  go_enter Tryz.func116, Tryz.ntmps116
  go_wp2_with fail
  refine (hp _).mono ?_
  rintro e w1 ⟨rfl, hk⟩
  generalize str (payload ⟨h, n, b⟩) = s at *
  have hb : (s.size : Int) ≤ 200 := by omega
  clear hp
  have HL := Lib.hid hl
  clear hl
  go_wp2
  go_ret
  refine ⟨ret_int ?_, ((Keeps.refl _ _).alloc _).trans hk⟩
  rw [HL.out]
  simp [npieces]
  omega

def tW : TypeId := 110
def tP : TypeId := 108
def tD : TypeId := 101

def pageCells (l : List (List UInt8)) : List Value := l.flatten.map bv
def writeCells (l : List (Nat × List UInt8)) : List Value := (l.map fun x => Value.int .i64 (x.1 : Int) :: x.2.map bv).flatten

/-- The disk D lies at block d; sv, nv, wv: its three slices. -/
structure DiskAt (w : World) (d : Nat) (sv nv wv : Value) (D : Dsk) : Prop where
  blk : w.heap[d]? = some (.cells #[sv, nv, wv, .int .i64 D.armed, .bool D.down, .int .i64 D.falls] 101 (0, 0))
  safe : w.ownsRow 0 108 64 sv D.safe.length (pageCells D.safe)
  now : w.ownsRow 0 108 64 nv D.now.length (pageCells D.now)
  writes : w.ownsRow 0 110 65 wv D.writes.length (writeCells D.writes)
  apart : sv.ownBlock ≠ nv.ownBlock
  ok : D.ok
  pos : 0 < D.now.length
  room : D.writes.length ≤ 100000
  arm : (D.armed : Int) ≤ 9223372036854775807
  fall : wrap64 D.falls = D.falls

theorem DiskAt.c0 {w : World} {d : Nat} {sv nv wv : Value} {D : Dsk} (h : DiskAt w d sv nv wv D) : w.cell? ⟨d, 0, none⟩ = some sv := cell_of_blk h.blk 0 rfl
theorem DiskAt.c1 {w : World} {d : Nat} {sv nv wv : Value} {D : Dsk} (h : DiskAt w d sv nv wv D) : w.cell? ⟨d, 1, none⟩ = some nv := cell_of_blk h.blk 1 rfl
theorem DiskAt.c2 {w : World} {d : Nat} {sv nv wv : Value} {D : Dsk} (h : DiskAt w d sv nv wv D) : w.cell? ⟨d, 2, none⟩ = some wv := cell_of_blk h.blk 2 rfl
theorem DiskAt.c3 {w : World} {d : Nat} {sv nv wv : Value} {D : Dsk} (h : DiskAt w d sv nv wv D) : w.cell? ⟨d, 3, none⟩ = some (.int .i64 D.armed) := cell_of_blk h.blk 3 rfl
theorem DiskAt.c4 {w : World} {d : Nat} {sv nv wv : Value} {D : Dsk} (h : DiskAt w d sv nv wv D) : w.cell? ⟨d, 4, none⟩ = some (.bool D.down) := cell_of_blk h.blk 4 rfl
theorem DiskAt.c5 {w : World} {d : Nat} {sv nv wv : Value} {D : Dsk} (h : DiskAt w d sv nv wv D) : w.cell? ⟨d, 5, none⟩ = some (.int .i64 D.falls) := cell_of_blk h.blk 5 rfl
/-- the blocks of a disk -/
def dfp (d : Nat) (sv nv wv : Value) : Nat → Prop := fun k => k = d ∨ some k = sv.ownBlock ∨ some k = nv.ownBlock ∨ some k = wv.ownBlock
def IsDisk (w : World) (d : Nat) (D : Dsk) (fp : Nat → Prop) : Prop := ∃ sv nv wv, DiskAt w d sv nv wv D ∧ fp = dfp d sv nv wv

/-- from w to w' a disk alone has turned, into D' -/
structure DStep (w : World) (d : Nat) (fp : Nat → Prop) (w' : World) (D' : Dsk) (fp' : Nat → Prop) : Prop where
  is : IsDisk w' d D' fp'
  keeps : Keeps fp w w'
  fresh : ∀ k, fp' k → fp k ∨ w.heap.size ≤ k
/-- the call returns v, and the disk has become D' -/
def DRet (w : World) (d : Nat) (fp : Nat → Prop) (v : Value) (D' : Dsk) (e : Ending) (w' : World) : Prop := e = .returned v ∧ ∃ fp', DStep w d fp w' D' fp'
theorem DStep.trans {w w1 w2 : World} {d : Nat} {fp fp1 fp2 : Nat → Prop} {D1 D2 : Dsk} (h : DStep w d fp w1 D1 fp1) (k : DStep w1 d fp1 w2 D2 fp2) : DStep w d fp w2 D2 fp2 :=
  ⟨k.is, h.keeps.trans' k.keeps (fun i hi hf => (h.fresh i hf).elim id (fun h' => absurd hi (by omega))),
   fun i hi => (k.fresh i hi).elim (fun h1 => h.fresh i h1) (fun h2 => .inr (Nat.le_trans h.keeps.size h2))⟩
theorem Keeps.grown {S : Nat → Prop} {w w' : World} (h : Keeps S w w') (row : Option Nat) (hs : ∀ k, S k → some k = row) : w.grownBy w' row :=
  ⟨h.os, h.tape, h.output, h.size, fun k hk hr => h.block k hk (fun hS => hr (hs k hS))⟩
theorem own_keep {S : Nat → Prop} {w w' : World} {base : Nat} {e : TypeId} {size : Nat} {v : Value} {n : Nat} {xs : List Value} (h : w.ownsRow base e size v n xs) (k : Keeps S w w') (hs : ∀ b, v.ownBlock = some b → ¬ S b) : w'.ownsRow base e size v n xs := by
  obtain ⟨h1, h2⟩ := h
  refine ⟨h1, ?_⟩
  rcases h2 with h2 | ⟨g, cap, cur, hv, hg, hh, r⟩
  · exact .inl h2
  · exact .inr ⟨g, cap, cur, hv, hg, k.blk hh (hs g (by rw [hv]; rfl)), r⟩
theorem DiskAt.keep {S : Nat → Prop} {w w' : World} {d : Nat} {sv nv wv : Value} {D : Dsk} (h : DiskAt w d sv nv wv D) (k : Keeps S w w') (hs : ∀ b, dfp d sv nv wv b → ¬ S b) : DiskAt w' d sv nv wv D :=
  ⟨k.blk h.blk (hs d (.inl rfl)), own_keep h.safe k (fun b hb => hs b (.inr (.inl hb.symm))), own_keep h.now k (fun b hb => hs b (.inr (.inr (.inl hb.symm)))),
   own_keep h.writes k (fun b hb => hs b (.inr (.inr (.inr hb.symm)))), h.apart, h.ok, h.pos, h.room, h.arm, h.fall⟩
theorem IsDisk.keep {S : Nat → Prop} {w w' : World} {d : Nat} {D : Dsk} {fp : Nat → Prop} (h : IsDisk w d D fp) (k : Keeps S w w') (hs : ∀ b, fp b → ¬ S b) : IsDisk w' d D fp := by
  obtain ⟨sv, nv, wv, h, rfl⟩ := h
  exact ⟨sv, nv, wv, h.keep k hs, rfl⟩
/-- a row of at least one element: its block -/
theorem own_block {w : World} {base : Nat} {e : TypeId} {size : Nat} {v : Value} {n : Nat} {xs : List Value} (h : w.ownsRow base e size v n xs) (hn : 0 < n) :
    ∃ g cap cur, v = .slice (some ⟨g, 0, none⟩) n cap ∧ w.heap[g]? = some (.cells cur e (0, 0)) ∧ n ≤ cap ∧ cap ≤ maxLen ∧ cur.size = cap * size ∧ cur.toList.take (n * size) = xs := by
  rcases h.2 with ⟨_, h0⟩ | ⟨g, cap, cur, hv, hg, hh, r⟩
  · omega
  · exact ⟨g, cap, cur, hv, hh, r⟩
/-- its cells -/
theorem own_range {w : World} {base : Nat} {e : TypeId} {size g n cap : Nat} {xs : List Value} (h : w.ownsRow base e size (.slice (some ⟨g, 0, none⟩) n cap) n xs) : w.rangeAt g 0 xs := fun j v hv => by
  have h1 := h.cellAt j (by have := (List.getElem?_eq_some_iff.1 hv).1; have := h.1; omega)
  rw [Nat.zero_add, h1]; exact hv

set_option maxHeartbeats 1000000 in
theorem pages_any (w : World) (d : Nat) (D : Dsk) (fp : Nat → Prop) (h : IsDisk w d D fp) :
    Calls Tryz.prog 29 #[.pointer (some ⟨d, 0, none⟩)] w fun e w' => e = .returned (.int .i64 D.now.length) ∧ w = w' := by
  obtain ⟨sv, nv, wv, h, rfl⟩ := h
  obtain ⟨g, cap, cur, rfl, _⟩ := own_block h.now h.pos
  have c1 := cell_of_blk h.blk 1 rfl
  have hl := h.ok.few
  clear h
  go_enter Tryz.func29, Tryz.ntmps29
  go_wp2
  go_ret
  exact ⟨rfl, rfl⟩

/-- is there a page? -/
def hasP (D : Dsk) (i : Int) : Bool := decide (0 ≤ i) && decide (i < D.now.length)

set_option maxHeartbeats 1000000 in
theorem has_any (w : World) (d : Nat) (D : Dsk) (fp : Nat → Prop) (i : Int) (h : IsDisk w d D fp) :
    Calls Tryz.prog 62 #[.pointer (some ⟨d, 0, none⟩), .int .i64 i] w fun e w' => e = .returned (.bool (hasP D i)) ∧ w = w' := by
  obtain ⟨sv, nv, wv, h, rfl⟩ := h
  obtain ⟨g, cap, cur, rfl, _⟩ := own_block h.now h.pos
  have c1 := cell_of_blk h.blk 1 rfl
  have hl := h.ok.few
  clear h
  by_cases h1 : 0 ≤ i
  · have HV := Lib.hid (show hasP D i = decide (i < D.now.length) by simp [hasP, h1])
    go_enter Tryz.func62, Tryz.ntmps62
    go_wp2
    go_ret
    exact ⟨ret_bool HV.out.symm, rfl⟩
  · have HV := Lib.hid (show hasP D i = false by simp [hasP, h1])
    go_enter Tryz.func62, Tryz.ntmps62
    go_wp2
    go_ret
    exact ⟨ret_bool HV.out.symm, rfl⟩

theorem own_type {w : World} {base : Nat} {e : TypeId} {size : Nat} {v : Value} {n : Nat} {xs : List Value} (h : w.ownsRow base e size v n xs) {b : Nat} (hb : v.ownBlock = some b) : ∃ cs, w.heap[b]? = some (.cells cs e (0, 0)) := by
  rcases h.2 with ⟨rfl, _⟩ | ⟨g, cap, cur, rfl, _, hh, _⟩
  · cases hb
  · cases hb; exact ⟨cur, hh⟩
theorem own_ne_type {w : World} {base : Nat} {e : TypeId} {size : Nat} {v : Value} {n : Nat} {xs : List Value} (h : w.ownsRow base e size v n xs) {b : Nat} {cs : Array Value} {t : TypeId} {fr : Nat × Nat} (hb : w.heap[b]? = some (.cells cs t fr)) (ht : t ≠ e) : v.ownBlock ≠ some b := fun he => by
  obtain ⟨cs', h'⟩ := own_type h he
  rw [hb] at h'
  injection h' with h'
  injection h' with _ h' _
  exact ht h'

/-- a field of the disk has turned -/
theorem DiskAt.set {w w' : World} {d : Nat} {sv nv wv : Value} {D D' : Dsk} (h : DiskAt w d sv nv wv D) (k : Keeps (One d) w w')
    (hb : w'.heap[d]? = some (.cells #[sv, nv, wv, .int .i64 D'.armed, .bool D'.down, .int .i64 D'.falls] 101 (0, 0)))
    (h1 : D'.safe = D.safe) (h2 : D'.now = D.now) (h3 : D'.writes = D.writes) (ha : (D'.armed : Int) ≤ 9223372036854775807) (hf : wrap64 D'.falls = D'.falls) : DiskAt w' d sv nv wv D' := by
  obtain ⟨sa, no, wr, ar, dn, fl⟩ := D'
  dsimp only at h1 h2 h3 hb ha hf
  subst h1; subst h2; subst h3
  have hs : ∀ (v : Value) (b : Nat), v.ownBlock ≠ some d → v.ownBlock = some b → ¬ One d b := fun v b hv he hd => hv (by rw [he, hd])
  refine ⟨hb, own_keep h.safe k (hs sv · (own_ne_type h.safe h.blk (by decide))), own_keep h.now k (hs nv · (own_ne_type h.now h.blk (by decide))), own_keep h.writes k (hs wv · (own_ne_type h.writes h.blk (by decide))), h.apart, ?_, h.pos, h.room, ha, hf⟩
  obtain ⟨a, b, c, e, f⟩ := h.ok
  exact ⟨a, b, c, e, f⟩
theorem DStep.of_set {w w' : World} {d : Nat} {sv nv wv : Value} {D' : Dsk} (h : DiskAt w' d sv nv wv D') (k : Keeps (One d) w w') : DStep w d (dfp d sv nv wv) w' D' (dfp d sv nv wv) :=
  ⟨⟨sv, nv, wv, h, rfl⟩, k.mono (fun _ _ hi => .inl hi), fun _ hk => .inl hk⟩

/-- the power goes off -/
def Dsk.off (D : Dsk) : Dsk := { D with down := true, falls := wrap64 (D.falls + 1) }
theorem wrap_wrap (n : Int) : wrap64 (wrap64 n) = wrap64 n := by
  unfold wrap64
  omega

set_option maxHeartbeats 1000000 in
theorem off_any (w : World) (d : Nat) (D : Dsk) (fp : Nat → Prop) (h : IsDisk w d D fp) :
    Calls Tryz.prog 65 #[.pointer (some ⟨d, 0, none⟩)] w fun e w' => e = .returned (.tuple #[]) ∧ DStep w d fp w' D.off fp := by
  obtain ⟨sv, nv, wv, h, rfl⟩ := h
  have c4 := cell_of_blk h.blk 4 rfl
  have c5 := cell_of_blk h.blk 5 rfl
  have f4 := free_of_blk h.blk 4
  have f5 := free_of_blk h.blk 5
  have hb := heap_setCell_same _ _ 5 _ _ (.int .i64 (wrap64 (D.falls + 1))) (heap_setCell_same _ _ 4 _ _ (.bool true) h.blk)
  have hk : Keeps (One d) w ((w.setCell ⟨d, 4, none⟩ (.bool true)).setCell ⟨d, 5, none⟩ (.int .i64 (wrap64 (D.falls + 1)))) := (Keeps.set1 w d 4 _).trans (Keeps.set1 _ d 5 _)
  have hfin := DStep.of_set (DiskAt.set (D' := D.off) h hk (by simpa [Dsk.off] using hb) rfl rfl rfl h.arm (wrap_wrap _)) hk
  generalize hD : D.off = D' at *
  have HF := Lib.hid hfin
  clear hfin hk hb h hD
  go_enter Tryz.func65, Tryz.ntmps65
  go_wp2
  go_end0
  exact ⟨rfl, HF.out⟩
end Go.Proofs.YtlbaagjbehdmgaaGreat

namespace Go.Proofs.YtlbaagjbehdmgaaGreat
open Go.RowKit

/-- a call is counted: does the power go off at it? -/
def Dsk.fails (D : Dsk) : Bool × Dsk :=
  if D.armed = 0 then (false, D) else if D.armed = 1 then (true, Dsk.off { D with armed := 0 }) else (false, { D with armed := D.armed - 1 })

set_option maxHeartbeats 1000000 in
theorem fails_any (w : World) (d : Nat) (D : Dsk) (fp : Nat → Prop) (h : IsDisk w d D fp) :
    Calls Tryz.prog 63 #[.pointer (some ⟨d, 0, none⟩)] w fun e w' => e = .returned (.bool D.fails.1) ∧ DStep w d fp w' D.fails.2 fp := by
  obtain ⟨sv, nv, wv, h, rfl⟩ := h
  have c3 := cell_of_blk h.blk 3 rfl
  have f3 := free_of_blk h.blk 3
  by_cases h0 : D.armed = 0
  · have hd : D.fails = (false, D) := by simp [Dsk.fails, h0]
    have hfin : DStep w d (dfp d sv nv wv) w D (dfp d sv nv wv) := ⟨⟨sv, nv, wv, h, rfl⟩, Keeps.refl _ _, fun _ hk => .inl hk⟩
    rw [hd]
    rw [h0] at c3
    have HF := Lib.hid hfin
    clear hfin h hd h0
    go_enter Tryz.func63, Tryz.ntmps63
    go_wp2
    go_ret
    exact ⟨rfl, HF.out⟩
  by_cases h1 : D.armed = 1
  · have hd : D.fails = (true, Dsk.off { D with armed := 0 }) := by simp [Dsk.fails, h1]
    rw [hd]
    rw [h1] at c3
    have hb := heap_setCell_same _ _ 3 _ _ (.int .i64 0) h.blk
    have hk := Keeps.set1 w d 3 (.int .i64 0)
    have hD := DStep.of_set (DiskAt.set (D' := { D with armed := 0 }) h hk (by simpa using hb) rfl rfl rfl (by simp) h.fall) hk
    have ho := off_any _ d _ _ hD.is
    have HD := Lib.hid hD
    have HO := Lib.hid ho
    clear hd h0 h1 hb hk hD ho h
    go_enter Tryz.func63, Tryz.ntmps63
    go_wp2_with fail
    refine HO.out.mono ?_
    rintro e w1 ⟨rfl, hS⟩
    have HS := Lib.hid hS
    clear hS
    go_wp2
    go_ret
    exact ⟨rfl, HD.out.trans HS.out⟩
  · have hd : D.fails = (false, { D with armed := D.armed - 1 }) := by simp [Dsk.fails, h0, h1]
    rw [hd]
    have hb := heap_setCell_same _ _ 3 _ _ (.int .i64 ((D.armed : Int) - 1)) h.blk
    have hk := Keeps.set1 w d 3 (.int .i64 ((D.armed : Int) - 1))
    have e1 : ((D.armed - 1 : Nat) : Int) = (D.armed : Int) - 1 := by omega
    have hD := DStep.of_set (DiskAt.set (D' := { D with armed := D.armed - 1 }) h hk (by simpa [e1] using hb) rfl rfl rfl (by have := h.arm; dsimp only; omega) h.fall) hk
    have hc' := cell_of_blk hb 3 rfl
    have ha := h.arm
    have HD := Lib.hid hD
    have hg1 : 1 < (D.armed : Int) := by omega
    have hz : ((D.armed : Int) == 0) = false := by rw [beq_eq_false_iff_ne]; omega
    clear hd h0 h1 hb hk hD h e1
    generalize (D.armed : Int) = a at *
    go_enter Tryz.func63, Tryz.ntmps63
    go_wp2
    go_ret
    exact ⟨rfl, HD.out⟩

end Go.Proofs.YtlbaagjbehdmgaaGreat
