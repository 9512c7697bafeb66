/- States in memory; the page of a root. -/
import Derived.Deep.RegionWith
import Derived.Test.YtlbaagjbehdmgaaGreatM10
namespace Go.Proofs.YtlbaagjbehdmgaaGreat
open Go.RowKit

/-- v reads as the entries l with their pages -/
def RPlaced (w : World) (v : Value) (l : List Placed) : Prop :=
  (v = .slice none 0 0 ∧ l = []) ∨
  ∃ b off cap cs, v = .slice (some ⟨b, off, none⟩) l.length cap ∧ (l ≠ [] ∧ l.length ≤ cap) ∧ w.heap[b]? = some (.cells cs 121 (0, 0)) ∧
    ∀ (i : Nat) (p : Placed), l[i]? = some p → ∃ pv, RInts w pv p.pages ∧ cs[off + i * 4]? = some (.int .i64 p.e.house) ∧ cs[off + i * 4 + 1]? = some (.int .i64 p.e.no) ∧ cs[off + i * 4 + 2]? = some (.string (str p.e.body)) ∧ cs[off + i * 4 + 3]? = some pv

structure St.ok (S : St) : Prop where
  at_ : S.at_ ≤ 1
  houses1 : 1 ≤ S.houses
  houses : S.houses ≤ 8
  gen : (S.gen : Int) ≤ 9223372036854775807
  few : S.entries.length ≤ 1024
  index : S.index.length ≤ 1024
  ixs : ∀ x ∈ S.index, x < 1024
  each : ∀ p ∈ S.entries, p.e.valid = true ∧ p.pages ≠ [] ∧ p.pages.length ≤ 1024 ∧ ∀ x ∈ p.pages, x < 1024

/-- the state S lies at block b -/
structure StateAt (w : World) (b : Nat) (ev iv : Value) (S : St) : Prop where
  blk : w.heap[b]? = some (.cells #[.int .i64 S.at_, .int .i64 S.houses, .int .u64 S.gen, ev, iv] 119 (0, 0))
  entries : RPlaced w ev S.entries
  index : RInts w iv S.index
  ok : S.ok
def IsState (w : World) (b : Nat) (S : St) : Prop := ∃ ev iv, StateAt w b ev iv S

/-- blocks of the types that states are made of stay -/
def Spares (S : Nat → Prop) (w : World) : Prop := ∀ b cs t fr, S b → w.heap[b]? = some (.cells cs t fr) → t ≠ 3 ∧ t ≠ 121 ∧ t ≠ 119
theorem RPlaced.keep {S : Nat → Prop} {w w' : World} {v : Value} {l : List Placed} (h : RPlaced w v l) (k : Keeps S w w') (hs : Spares S w) : RPlaced w' v l := by
  rcases h with h | ⟨b, off, cap, cs, rfl, hn, hb, hc⟩
  · exact .inl h
  · refine .inr ⟨b, off, cap, cs, rfl, hn, k.blk hb (fun hS => (hs _ _ _ _ hS hb).2.1 rfl), fun i p hp => ?_⟩
    obtain ⟨pv, hr, h1⟩ := hc i p hp
    exact ⟨pv, hr.keep k (fun b' cs' fr hS hb' => (hs _ _ _ _ hS hb').1 rfl), h1⟩
theorem StateAt.keep {S : Nat → Prop} {w w' : World} {b : Nat} {ev iv : Value} {T : St} (h : StateAt w b ev iv T) (k : Keeps S w w') (hs : Spares S w) : StateAt w' b ev iv T :=
  ⟨k.blk h.blk (fun hS => (hs _ _ _ _ hS h.blk).2.2 rfl), h.entries.keep k hs, h.index.keep k (fun _ _ _ hS hb => (hs _ _ _ _ hS hb).1 rfl), h.ok⟩
theorem IsState.keep {S : Nat → Prop} {w w' : World} {b : Nat} {T : St} (h : IsState w b T) (k : Keeps S w w') (hs : Spares S w) : IsState w' b T := by
  obtain ⟨ev, iv, h⟩ := h
  exact ⟨ev, iv, h.keep k hs⟩
theorem spares_none (w : World) : Spares None' w := fun _ _ _ _ h => h.elim
theorem StateAt.c0 {w : World} {b : Nat} {ev iv : Value} {S : St} (h : StateAt w b ev iv S) : w.cell? ⟨b, 0, none⟩ = some (.int .i64 S.at_) := cell_of_blk h.blk 0 rfl
theorem StateAt.c1 {w : World} {b : Nat} {ev iv : Value} {S : St} (h : StateAt w b ev iv S) : w.cell? ⟨b, 1, none⟩ = some (.int .i64 S.houses) := cell_of_blk h.blk 1 rfl
theorem StateAt.c2 {w : World} {b : Nat} {ev iv : Value} {S : St} (h : StateAt w b ev iv S) : w.cell? ⟨b, 2, none⟩ = some (.int .u64 S.gen) := cell_of_blk h.blk 2 rfl
theorem StateAt.c3 {w : World} {b : Nat} {ev iv : Value} {S : St} (h : StateAt w b ev iv S) : w.cell? ⟨b, 3, none⟩ = some ev := cell_of_blk h.blk 3 rfl
theorem StateAt.c4 {w : World} {b : Nat} {ev iv : Value} {S : St} (h : StateAt w b ev iv S) : w.cell? ⟨b, 4, none⟩ = some iv := cell_of_blk h.blk 4 rfl
/-- the shape of a slice that reads as entries, or numbers -/
theorem RPlaced.shape {w : World} {v : Value} {l : List Placed} (h : RPlaced w v l) : ∃ a cap, v = .slice a l.length cap := by
  rcases h with ⟨rfl, rfl⟩ | ⟨b, off, cap, cs, rfl, _⟩
  · exact ⟨_, _, rfl⟩
  · exact ⟨_, _, rfl⟩
theorem RInts.shape {w : World} {v : Value} {l : List Nat} (h : RInts w v l) : ∃ a cap, v = .slice a l.length cap := by
  rcases h with ⟨rfl, rfl⟩ | ⟨b, off, cap, cs, rfl, _⟩
  · exact ⟨_, _, rfl⟩
  · exact ⟨_, _, rfl⟩
theorem RInts.head {w : World} {v : Value} {x : Nat} {l : List Nat} (h : RInts w v (x :: l)) : ∃ b off cap, v = .slice (some ⟨b, off, none⟩) (l.length + 1) cap ∧ w.cell? ⟨b, off, none⟩ = some (.int .i64 x) := by
  rcases h with ⟨_, h⟩ | ⟨b, off, cap, cs, rfl, _, hb, hc⟩
  · cases h
  · exact ⟨b, off, cap, rfl, cell_of_blk hb off (by simpa using hc 0 x rfl)⟩

/-- the root as a page, without its sum -/
def rootRaw (S : St) : List UInt8 :=
  let p := lay (lay (lay (zeros 64) 0 (low 8 S.gen)) 8 [UInt8.ofNat S.houses]) 9 (low 2 S.entries.length)
  match S.index with
  | [] => p
  | x :: _ => lay p 11 (low 2 x)
theorem rootRaw_length (S : St) : (rootRaw S).length = 64 := by
  have hz : (zeros 64).length = 64 := by simp [zeros]
  have h1 : (lay (zeros 64) 0 (low 8 S.gen)).length = 64 := by rw [lay_length _ _ _ (by rw [low_length, hz]; omega), hz]
  have h2 : (lay (lay (zeros 64) 0 (low 8 S.gen)) 8 [UInt8.ofNat S.houses]).length = 64 := by rw [lay_length _ _ _ (by rw [h1]; simp), h1]
  have h3 : (lay (lay (lay (zeros 64) 0 (low 8 S.gen)) 8 [UInt8.ofNat S.houses]) 9 (low 2 S.entries.length)).length = 64 := by rw [lay_length _ _ _ (by rw [h2, low_length]; omega), h2]
  unfold rootRaw
  dsimp only
  split
  · exact h3
  · rw [lay_length _ _ _ (by rw [h3, low_length]; omega), h3]

theorem u8_small (n : Nat) (h : n ≤ 255) : (Value.int .u8 (n : Int)) = bv (UInt8.ofNat n) := by
  simp only [bv, UInt8.toNat_ofNat']
  congr 2
  omega
/-- a whole page stored, kept shut -/
def storePg (x v : Value) : Sem Unit := Instr.storeAt 108 x v
theorem storePg_eq (x v : Value) : Instr.storeAt 108 x v = storePg x v := rfl
attribute [local go_sem ↓] loadPg_eq storePg_eq
theorem run_loadPg (w : World) (g o : Nat) (l : List UInt8) (hl : l.length = 64) (h : w.rangeAt g o (l.map bv)) : (loadPg (.pointer (some ⟨g, o, none⟩))).run Tryz.prog w = .ok (.agg (bvs l)) w :=
  run_loadAt_mid (P := Tryz.prog) w g o 108 (l.map bv) _ h Tryz.underlying108 rfl (by rw [info_page]; simp [hl])
theorem run_storePg (w : World) (g o : Nat) (l : List UInt8) (hl : l.length = 64) (h : w.there g o 64) : (storePg (.pointer (some ⟨g, o, none⟩)) (.agg (bvs l))).run Tryz.prog w = .ok () (w.setCells g o (l.map bv)) := by
  have := run_storeAt_mid (P := Tryz.prog) w g o 108 (bvs l) (by simpa [hl] using h) (by rw [info_page]; simp [hl]) (by simp [bvs, bv, Value.oneCell'])
  simpa [bvs, storePg] using this
theorem bvs_set (xs : List UInt8) (i : Nat) (x : UInt8) (h : i < xs.length) : (bvs xs).setIfInBounds i (bv x) = bvs (lay xs i [x]) := by
  have := fillA_bvs xs i [x] (fun _ => bv x) (fun j y hj => by
    cases j with
    | zero => simp at hj; rw [hj]
    | succ j => simp at hj) (by simp; omega)
  simpa [fillA] using this
/-- one block of bytes has turned: what states are made of stays -/
theorem spares_one {w : World} {g : Nat} {cs : Array Value} {t : TypeId} {fr : Nat × Nat} (h : w.heap[g]? = some (.cells cs t fr)) (ht : t ≠ 3 ∧ t ≠ 121 ∧ t ≠ 119) : Spares (One g) w := fun b' cs' t' fr' hb' hh => by
  cases hb'
  rw [h] at hh
  injection hh with hh
  injection hh with _ hh _
  subst hh; exact ht

set_option maxRecDepth 100000 in
set_option maxHeartbeats 2000000 in
theorem page_any (b : Nat) (S : St) (w : World) (h : IsState w b S) :
    Calls Tryz.prog 98 #[.pointer (some ⟨b, 0, none⟩)] w fun e w' => e = .returned (.agg (bvs (sealP S.at_ (rootRaw S)))) ∧ Keeps None' w w' := by
  obtain ⟨ev, iv, h⟩ := h
  have hlt := lt_of_block h.blk
  go_enter Tryz.func98, Tryz.ntmps98
  go_wp2_with fail
  refine gen_wp (fun W => W.heap[w.heap.size]? = some (.cells (bvs (zeros 64)) 108 (0, 0)) ∧ W.heap[w.heap.size + 1]? = some (.cells (bvs (zeros 64)) 108 (0, 0)) ∧ Keeps None' w W) ⟨heap_alloc2_old _ _ _, heap_alloc2_new _ _ _, ((Keeps.refl _ _).alloc _).alloc _⟩ ?_
  rintro W0 ⟨hz0, hz1, hk0⟩
  have h0 := h.keep hk0 (spares_none _)
  have c2 := h0.c2
  have hz1' : W0.drew.heap[w.heap.size + 1]? = some (.cells (bvs (zeros 64)) 108 (0, 0)) := hz1
  have hg : (S.gen : Int) ≤ 18446744073709551615 := by have := h.ok.gen; omega
  go_region_with (first | (go_at_call 139; refine (put_any _ 0 8 64 _ _ (zeros 64) 108 (by simp [zeros]) (by omega) hg hz1').mono ?_; rintro e W1 ⟨rfl, hb1, hk1, -⟩))
  try simp only [Exit.then]
  have h1 := (h0.keep ((Keeps.refl None' W0).drew) (spares_none _)).keep hk1 (spares_one hz1' (by decide))
  have hp1 : (lay (zeros 64) 0 (low 8 S.gen)).length = 64 := by rw [lay_length _ _ _ (by simp [zeros])]; simp [zeros]
  have cp8 := cell_of_blk hb1 8 (v := bv ((lay (zeros 64) 0 (low 8 S.gen))[8]'(by omega))) (by rw [bvs_get, List.getElem?_eq_getElem (by omega)]; rfl)
  have fp8 := free_of_blk hb1 8
  have c11 := h1.c1
  have hK1 : Keeps None' w W1 := hk0.drew.trans' hk1 (fun i hi e => by cases e; omega)
  have hh := h.ok.houses
  have hz01 := hk1.blk (a := W0.drew) hz0 (fun e => by have e' : w.heap.size = w.heap.size + 1 := e; omega)
  clear hk1 hk0 hz0 hz1 hz1' c2 h0
  go_wp2_with fail
  refine gen_wp (fun W => W.heap[w.heap.size + 1]? = some (.cells (bvs (lay (lay (zeros 64) 0 (low 8 S.gen)) 8 [UInt8.ofNat S.houses])) 108 (0, 0)) ∧ Keeps (One (w.heap.size + 1)) W1 W) ⟨?_, Keeps.set1 _ _ _ _⟩ ?_
  · rw [heap_setCell_same _ _ _ _ _ _ hb1, u8_small _ (by omega), bvs_set _ _ _ (by omega)]
  rintro W2 ⟨hb2, hk2⟩
  have h2 := h1.keep hk2 (spares_one hb1 (by decide))
  have hz02 := hk2.blk hz01 (fun e => by have e' : w.heap.size = w.heap.size + 1 := e; omega)
  have hK2 : Keeps None' w W2 := hK1.trans' hk2 (fun i hi e => by cases e; omega)
  have c32 := h2.c3
  have c42 := h2.c4
  obtain ⟨ae, capE, rfl⟩ := h2.entries.shape
  have hfew := h.ok.few
  have hwl : IntKind.u64.wrap (S.entries.length : Int) = (S.entries.length : Int) := IntWalk.u64_in _ (by omega)
  have hp2 : (lay (lay (zeros 64) 0 (low 8 S.gen)) 8 [UInt8.ofNat S.houses]).length = 64 := by rw [lay_length _ _ _ (by simp; omega)]; exact hp1
  have hb2' : W2.drew.heap[w.heap.size + 1]? = some (.cells (bvs (lay (lay (zeros 64) 0 (low 8 S.gen)) 8 [UInt8.ofNat S.houses])) 108 (0, 0)) := hb2
  clear hk2 hb1 cp8 fp8 c11 hK1 h1
  go_region_with (first | (go_at_call 139; refine (put_any _ 9 2 55 _ _ (lay (lay (zeros 64) 0 (low 8 S.gen)) 8 [UInt8.ofNat S.houses]) 108 (by omega) (by omega) (by omega) hb2').mono ?_; rintro e W3 ⟨rfl, hb3, hk3, -⟩))
  try simp only [Exit.then]
  have h3 := (h2.keep ((Keeps.refl None' W2).drew) (spares_none _)).keep hk3 (spares_one hb2' (by decide))
  have hz03 := hk3.blk (a := W2.drew) hz02 (fun e => by have e' : w.heap.size = w.heap.size + 1 := e; omega)
  have hK3 : Keeps None' w W3 := hK2.drew.trans' hk3 (fun i hi e => by cases e; omega)
  have c03 := h3.c0
  have c43 := h3.c4
  have hp3 : (lay (lay (lay (zeros 64) 0 (low 8 S.gen)) 8 [UInt8.ofNat S.houses]) 9 (low 2 S.entries.length)).length = 64 := by rw [lay_length _ _ _ (by rw [hp2, low_length]; omega)]; exact hp2
  clear hk3 hb2 hb2' c32 c42 h2 hK2
  clear hwl
  cases hix : S.index with
  | nil =>
    have hiv : iv = .slice none 0 0 := by
      have := h.index
      rw [hix] at this
      rcases this with ⟨e, _⟩ | ⟨_, _, _, _, _, e, _⟩
      · exact e
      · exact absurd rfl e.1
    subst hiv
    have HRAW := Lib.hid (show rootRaw S = lay (lay (lay (zeros 64) 0 (low 8 S.gen)) 8 [UInt8.ofNat S.houses]) 9 (low 2 S.entries.length) by simp only [rootRaw, hix])
    generalize lay (lay (lay (zeros 64) 0 (low 8 S.gen)) 8 [UInt8.ofNat S.houses]) 9 (low 2 S.entries.length) = p at *
    clear hix
    go_wp2_with fail
    have hload := run_loadPg W3.drew (w.heap.size + 1) 0 p hp3 (rangeAt_of_blk hb3 0 _ (by simp [bvs]))
    have hth : W3.there w.heap.size 0 64 := there_of_blk hz03 0 64 (by simp [zeros])
    have hse := sealed_any S.at_ W3.drew p hp3
    have HSE := Lib.hid hse
    clear hse hb3 hz03
    go_region_with (first | (go_at_call 140; refine HSE.out.mono ?_; rintro e W9 ⟨rfl, hk9⟩; have hth9 : W9.there w.heap.size 0 64 := hk9.there (a := W3.drew) hth (fun h => h); have hst := run_storePg W9 w.heap.size 0 (sealP S.at_ p) (sealP_length _ _ hp3) hth9))
    all_goals
      go_wp2
      refine bodyPost_ret (results_cell_mid rfl _ _ _ _ _ _ rfl (World.rangeAt_setCells_same W9 w.heap.size 0 ((sealP S.at_ p).map bv) (by simpa [sealP_length _ _ hp3] using hth9)) Tryz.underlying108 rfl (by rw [info_page]; simp [sealP_length _ _ hp3])) rfl ⟨by rw [HRAW.out]; rfl, ?_⟩
      exact (hK3.drew.trans hk9).setCells _ _ _ (Nat.le_refl _)
  | cons x l =>
    obtain ⟨bi, oi, capi, rfl, cx⟩ := RInts.head (by rw [← hix]; exact h3.index)
    have hxl : (x : Int) ≤ 1024 := by
      have := h.ok.ixs x (by rw [hix]; exact List.mem_cons_self)
      omega
    have hll : (l.length : Int) ≤ 1024 := by
      have := h.ok.index
      rw [hix] at this
      simp at this
      omega
    have HRAW := Lib.hid (show rootRaw S = lay (lay (lay (lay (zeros 64) 0 (low 8 S.gen)) 8 [UInt8.ofNat S.houses]) 9 (low 2 S.entries.length)) 11 (low 2 x) by simp only [rootRaw, hix])
    have hp4 : (lay (lay (lay (lay (zeros 64) 0 (low 8 S.gen)) 8 [UInt8.ofNat S.houses]) 9 (low 2 S.entries.length)) 11 (low 2 x)).length = 64 := by rw [lay_length _ _ _ (by rw [hp3, low_length]; omega)]; exact hp3
    generalize lay (lay (lay (zeros 64) 0 (low 8 S.gen)) 8 [UInt8.ofNat S.houses]) 9 (low 2 S.entries.length) = q at *
    have hwx : IntKind.u64.wrap (x : Int) = (x : Int) := IntWalk.u64_in _ (by omega)
    have hb3' : W3.drew.heap[w.heap.size + 1]? = some (.cells (bvs q) 108 (0, 0)) := hb3
    clear hix
    go_wp2_with fail
    go_region_with (first | (go_at_call 123; refine (head_0 _).mono ?_; rintro e w' ⟨rfl, rfl⟩) | (go_at_call 139; refine (put_any _ 11 2 53 _ _ q 108 (by omega) (by omega) (by omega) hb3').mono ?_; rintro e W4 ⟨rfl, hb4, hk4, -⟩))
    all_goals
      try simp only [Exit.then]
      have h4 := (h3.keep ((Keeps.refl None' W3).drew) (spares_none _)).keep hk4 (spares_one hb3' (by decide))
      have hz04 := hk4.blk (a := W3.drew) hz03 (fun e => by have e' : w.heap.size = w.heap.size + 1 := e; omega)
      have hK4 : Keeps None' w W4 := hK3.drew.trans' hk4 (fun i hi e => by cases e; omega)
      have c04 := h4.c0
      generalize lay q 11 (low 2 x) = p at *
      clear hk4 hb3 hb3' hK3 h3 cx hwx hz03 c03 c43
      go_wp2_with fail
      have hload := run_loadPg W4.drew (w.heap.size + 1) 0 p hp4 (rangeAt_of_blk hb4 0 _ (by simp [bvs]))
      have hth : W4.there w.heap.size 0 64 := there_of_blk hz04 0 64 (by simp [zeros])
      have hse := sealed_any S.at_ W4.drew p hp4
      have HSE := Lib.hid hse
      clear hse hb4 hz04
      go_region_with (first | (go_at_call 140; refine HSE.out.mono ?_; rintro e W9 ⟨rfl, hk9⟩; have hth9 : W9.there w.heap.size 0 64 := hk9.there (a := W4.drew) hth (fun h => h); have hst := run_storePg W9 w.heap.size 0 (sealP S.at_ p) (sealP_length _ _ hp4) hth9))
      all_goals
        go_wp2
        refine bodyPost_ret (results_cell_mid rfl _ _ _ _ _ _ rfl (World.rangeAt_setCells_same W9 w.heap.size 0 ((sealP S.at_ p).map bv) (by simpa [sealP_length _ _ hp4] using hth9)) Tryz.underlying108 rfl (by rw [info_page]; simp [sealP_length _ _ hp4])) rfl ⟨by rw [HRAW.out]; rfl, ?_⟩
        exact (hK4.drew.trans hk9).setCells _ _ _ (Nat.le_refl _)
end Go.Proofs.YtlbaagjbehdmgaaGreat
