/- Disk.Sync. NewDisk. -/
import Derived.Deep.RegionHeld3
import Derived.Test.YtlbaagjbehdmgaaGreatM09
import Derived.Deep.RegionWith
namespace Go.Proofs.YtlbaagjbehdmgaaGreat
open Go.RowKit

/-- writes laid into pages -/
def applyW (pages : List (List UInt8)) (l : List (Nat × List UInt8)) : List (List UInt8) := l.foldl (fun s x => s.set x.1 x.2) pages
theorem applyW_snoc (pages : List (List UInt8)) (l : List (Nat × List UInt8)) (x : Nat × List UInt8) : applyW pages (l ++ [x]) = (applyW pages l).set x.1 x.2 := by simp [applyW]
theorem applyW_length (l : List (Nat × List UInt8)) : ∀ pages, (applyW pages l).length = pages.length := by
  induction l with
  | nil => intro _; rfl
  | cons x l ih => intro pages; show (applyW (pages.set x.1 x.2) l).length = _; rw [ih]; simp
theorem applyW_64 (l : List (Nat × List UInt8)) (hl : ∀ x ∈ l, x.2.length = 64) : ∀ pages : List (List UInt8), (∀ p ∈ pages, p.length = 64) → ∀ p ∈ applyW pages l, p.length = 64 := by
  induction l with
  | nil => intro pages h; exact h
  | cons x l ih =>
    intro pages h
    refine ih (fun y hy => hl y (List.mem_cons_of_mem _ hy)) _ (fun p hp => ?_)
    rcases List.mem_or_eq_of_mem_set hp with h' | h'
    · exact h p h'
    · rw [h']; exact hl x List.mem_cons_self

/-- the disk with k of its writes made safe -/
def Dsk.syncTo (D : Dsk) (k : Nat) : Dsk := { D with safe := applyW D.safe (D.writes.take k) }

/-- a page is laid into the safe pages -/
theorem safe_set {w : World} {d g cap i : Nat} {nv wv : Value} {D : Dsk} {p : List UInt8} (h : DiskAt w d (.slice (some ⟨g, 0, none⟩) D.safe.length cap) nv wv D) (hi : i < D.safe.length) (hp : p.length = 64) :
    DiskAt (w.setCells g (i * 64) (p.map bv)) d (.slice (some ⟨g, 0, none⟩) D.safe.length cap) nv wv { D with safe := D.safe.set i p } := by
  have hdg : d ≠ g := fun e => by
    obtain ⟨cs, hc⟩ := own_type h.safe (b := g) rfl
    rw [← e, h.blk] at hc
    injection hc with hc
    injection hc with _ hc
    revert hc; decide
  have hgw : wv.ownBlock ≠ some g := fun e => by
    obtain ⟨cs, hc⟩ := own_type h.safe (b := g) rfl
    exact own_ne_type h.writes hc (by decide) e
  have hK := keeps_setCells g (p.map bv) (i * 64) w
  have hs := own_lay h.safe (i * 64) (p.map bv) (by simp [hp]; omega)
  have hpc : pageCells (D.safe.set i p) = lay (pageCells D.safe) (i * 64) (p.map bv) := by
    rw [pageCells, flatten_set _ h.ok.safe64 i hi p hp, ← lay_map, Nat.mul_comm]; rfl
  refine ⟨hK.blk h.blk (fun e => hdg e), ?_, own_keep h.now hK (fun b hb e => h.apart (by rw [hb]; exact congrArg some (Eq.symm e))), own_keep h.writes hK (fun b hb e => hgw (by rw [hb]; exact congrArg some e)), h.apart, ?_, h.pos, h.room, h.arm, h.fall⟩
  · show World.ownsRow _ 0 108 64 _ (D.safe.set i p).length (pageCells (D.safe.set i p))
    rw [hpc, List.length_set]
    exact hs
  · obtain ⟨a1, a2, a3, a4, a5⟩ := h.ok
    refine ⟨by simp [a1], a2, fun q hq => ?_, a4, a5⟩
    rcases List.mem_or_eq_of_mem_set hq with h' | h'
    · exact a3 q h'
    · rw [h', hp]

theorem write_range {w : World} {g n cap : Nat} {l : List (Nat × List UInt8)} (h : w.ownsRow 0 110 65 (.slice (some ⟨g, 0, none⟩) n cap) n (writeCells l)) (h64 : ∀ x ∈ l, x.2.length = 64) (i : Nat) (hi : i < l.length) : w.rangeAt g (i * 65) (.int .i64 (l[i].1 : Int) :: l[i].2.map bv) := fun j v hv => by
  have hr := own_range h (i * 65 + j) v
  rw [Nat.zero_add] at hr
  refine hr ?_
  have hx := h64 _ (List.getElem_mem hi)
  have hj : j < 65 := by
    have := (List.getElem?_eq_some_iff.1 hv).1
    simp [hx] at this
    exact this
  have hsplit : writeCells l = writeCells (l.take i) ++ ((.int .i64 (l[i].1 : Int) :: l[i].2.map bv) ++ writeCells (l.drop (i + 1))) := by
    have : l = l.take i ++ (l[i] :: l.drop (i + 1)) := by simp
    conv => lhs; rw [this]
    simp only [writeCells, List.map_append, List.map_cons, List.flatten_append, List.flatten_cons]
  have hlen : (writeCells (l.take i)).length = i * 65 := by
    rw [writeCells_length _ (fun x hx => h64 x (List.mem_of_mem_take hx)), List.length_take, Nat.min_eq_left (by omega)]
  rw [hsplit, List.getElem?_append_right (by omega), hlen, Nat.add_sub_cancel_left, List.getElem?_append_left (by simp [hx]; omega)]
  exact hv

/-- all writes are safe -/
theorem none_left {w : World} {d : Nat} {sv nv wv : Value} {D : Dsk} (h : DiskAt w d sv nv wv D) :
    DStep w d (dfp d sv nv wv) (w.setCell ⟨d, 2, none⟩ (.slice none 0 0)) { D with writes := [] } (dfp d sv nv (.slice none 0 0)) := by
  have k2 := Keeps.set1 w d 2 (.slice none 0 0)
  have hb2 := heap_setCell_same _ _ 2 _ _ (.slice none 0 0) h.blk
  have hds : ¬ (some d = sv.ownBlock) := fun e => own_ne_type h.safe h.blk (by decide) e.symm
  have hdn : ¬ (some d = nv.ownBlock) := fun e => own_ne_type h.now h.blk (by decide) e.symm
  refine ⟨⟨_, _, _, ⟨hb2, own_keep h.safe k2 (fun b hb e => hds (by rw [hb]; exact congrArg some (Eq.symm e))), own_keep h.now k2 (fun b hb e => hdn (by rw [hb]; exact congrArg some (Eq.symm e))), World.ownsRow_nil _ _ _ _, h.apart, ?_, h.pos, Nat.zero_le _, h.arm, h.fall⟩, rfl⟩, k2.mono (fun _ _ e => .inl e), ?_⟩
  · obtain ⟨a1, a2, a3, a4, a5⟩ := h.ok
    exact ⟨a1, a2, a3, a4, fun x hx => by cases hx⟩
  · rintro i (e | e | e | e)
    · exact .inl (.inl e)
    · exact .inl (.inr (.inl e))
    · exact .inl (.inr (.inr (.inl e)))
    · cases e

structure SyncAt (w : World) (d : Nat) (sv nv wv : Value) (D : Dsk) (k : Nat) (wr : World) : Prop where
  at_ : DiskAt wr d sv nv wv (D.syncTo k)
  keeps : Keeps (dfp d sv nv wv) w wr

set_option maxRecDepth 100000 in
set_option maxHeartbeats 2000000 in
theorem sync_good (w : World) (d : Nat) (D : Dsk) (fp : Nat → Prop) (h : IsDisk w d D fp) (hd : D.down = false) (hf : D.fails.1 = false) :
    Calls Tryz.prog 17 #[.pointer (some ⟨d, 0, none⟩)] w fun e w' => DRet w d fp (.int .i64 0) { D.fails.2.syncTo D.fails.2.writes.length with writes := [] } e w' := by
  have hfa := fails_any w d D fp h
  rw [hf] at hfa
  generalize D.fails.2 = D2 at *
  obtain ⟨sv, nv, wv, h, rfl⟩ := h
  have c4 := h.c4
  rw [hd] at c4
  have HF := Lib.hid hfa
  clear hfa h hd hf
  go_enter Tryz.func17, Tryz.ntmps17
  go_wp2_with fail
  refine HF.out.mono ?_
  rintro e w1 ⟨rfl, hS⟩
  obtain ⟨sv2, nv2, wv2, h2, hfp⟩ := hS.is
  have HS := Lib.hid hS
  have HFP := Lib.hid hfp
  clear hS HF c4 hfp
  have hown := h2.writes
  obtain ⟨gs, caps, curs, rfl, _⟩ := own_block h2.safe (by rw [h2.ok.same]; exact h2.pos)
  have c2 := h2.c2
  have hroom := h2.room
  have H2 := Lib.hid h2
  have HW := Lib.hid hown
  rcases hown.2 with ⟨rfl, hn⟩ | ⟨gw, capw, curw, rfl, _, hgw, _⟩
  · have HN := Lib.hid hn
    have f2 := free_of_blk h2.blk 2
    have hn0 : D2.writes = [] := List.eq_nil_of_length_eq_zero hn
    have hs0 : D2.syncTo D2.writes.length = D2 := by
      obtain ⟨sa, no, wr, ar, dn, fl⟩ := D2
      dsimp only at hn0
      subst hn0
      rfl
    have hfin := none_left h2
    have HFIN := Lib.hid (HS.out.trans (by rw [HFP.out]; exact hfin))
    have HS0 := Lib.hid hs0
    clear hown h2 hn hn0 hs0 hfin
    go_wp2
    go_loopw [4, 18] (fun _ i wr => i = .int .i64 0 ∧ wr = w1) (fun _ _ _ => 0)
    case atStart => exact ⟨rfl, rfl⟩
    case round =>
      obtain ⟨rfl, rfl⟩ := hrel
      go_wp2
      go_ret
      exact ⟨rfl, _, by rw [HS0.out]; exact HFIN.out⟩
  · have h0 : SyncAt w1 d (.slice (some ⟨gs, 0, none⟩) D2.safe.length caps) nv2 (.slice (some ⟨gw, 0, none⟩) D2.writes.length capw) D2 0 w1 := ⟨h2, Keeps.refl _ _⟩
    have hok := h2.ok
    clear hown h2
    go_wp2
    go_loopw [4, 18] (fun _ i wr => ∃ k : Nat, k ≤ D2.writes.length ∧ i = .int .i64 k ∧ SyncAt w1 d (.slice (some ⟨gs, 0, none⟩) D2.safe.length caps) nv2 (.slice (some ⟨gw, 0, none⟩) D2.writes.length capw) D2 k wr) (fun _ i _ => D2.writes.length - (intOf i).toNat)
    case atStart => exact ⟨0, Nat.zero_le _, rfl, h0⟩
    case round =>
      obtain ⟨k, hk, rfl, hA⟩ := hrel
      by_cases hlt : k < D2.writes.length
      · have hx := hok.at_ _ (List.getElem_mem hlt)
        have hrange : wr.rangeAt gw (k * 65) (.int .i64 (D2.writes[k].1 : Int) :: D2.writes[k].2.map bv) := write_range hA.at_.writes (fun x hx => (hok.at_ x hx).2) k hlt
        generalize hX : D2.writes[k] = x at *
        obtain ⟨a, p⟩ := x
        dsimp only at hx hrange
        obtain ⟨ha, hp⟩ := hx
        have hap : (Value.int .i64 (a : Int) :: p.map bv).length = 65 := by simp [hp]
        have hin : (Tryz.prog.info? 110).map (·.size) = some (Value.int .i64 (a : Int) :: p.map bv).length := by rw [hap]; exact info_write
        have HX := Lib.hid hX
        have HA := Lib.hid hA
        clear hX hA h0
        go_wp2_with (first | (refine wpList_load_mid rfl _ _ rfl gw (k * 65) rfl _ _ hrange Tryz.underlying110 rfl hin ?_) | (refine wpList_store_mid rfl _ _ _ rfl wr.heap.size 0 (Value.int .i64 (a : Int) :: p.map bv).toArray rfl rfl (there_of_blk (heap_alloc_new _ _) 0 _ (by simp [hp])) (by rw [List.size_toArray]; exact hin) (all_oneCell_toArray (one_cells a p)) ?_))
        have hKV : Keeps None' wr ((wr.alloc (.cells Tryz.zeroCells110 110)).setCells wr.heap.size 0 (.int .i64 (a : Int) :: p.map bv)) := ((Keeps.refl None' wr).alloc _).setCells _ _ _ (Nat.le_refl _)
        have hDV := HA.out.at_.keep hKV (fun _ _ h => h)
        obtain ⟨cn0, cn1⟩ := rangeAt_cons (World.rangeAt_setCells_same (wr.alloc (.cells Tryz.zeroCells110 110)) wr.heap.size 0 (.int .i64 (a : Int) :: p.map bv) (there_of_blk (heap_alloc_new _ _) 0 _ (by rw [hap, zeroCells_write]; simp [zeros])))
        have hds : wr.heap.size ≠ d := fun e => by have := lt_of_block HA.out.at_.blk; omega
        generalize ((wr.alloc (.cells Tryz.zeroCells110 110)).setCells wr.heap.size 0 (.int .i64 (a : Int) :: p.map bv)) = V at *
        have c0V := hDV.c0
        have hsl : (D2.syncTo k).safe.length = D2.safe.length := applyW_length _ _
        have hal : a < D2.safe.length := by rw [hok.same]; exact ha
        have hthV : V.there gs (a * 64) 64 := own_there (n := D2.safe.length) (cap := caps) (xs := pageCells (D2.syncTo k).safe) (by have := hDV.safe; rwa [hsl] at this) (a * 64) 64 (by omega)
        have hup := Tryz.underlying108
        have hip : (Tryz.prog.info? 108).map (·.size) = some (p.map bv).length := by rw [info_page]; simp [hp]
        have hpl : (p.map bv).length = 64 := by simp [hp]
        have hpo : ∀ v ∈ p.map bv, v.oneCell' = true := fun v hv => by obtain ⟨x, _, rfl⟩ := List.mem_map.1 hv; rfl
        have hai : (a : Int) < (D2.safe.length : Int) := by omega
        have hcap : D2.safe.length ≤ 1024 := by rw [hok.same]; exact hok.few
        have hdgs : d ≠ gs := fun e => by
          obtain ⟨cs, hc⟩ := own_type hDV.safe (b := gs) rfl
          rw [← e, hDV.blk] at hc
          injection hc with hc
          injection hc with _ hc
          revert hc; decide
        have hngs : wr.heap.size ≠ gs := fun e => by
          have := (own_type HA.out.at_.safe (b := gs) rfl).elim (fun _ h => lt_of_block h)
          omega
        have hSS := safe_set (D := D2.syncTo k) (by rw [hsl]; exact hDV.keep ((Keeps.refl None' V).drew) (fun _ _ h => h)) (by rw [hsl]; exact hal) hp
        have hKS := keeps_setCells gs (p.map bv) (a * 64) V.drew
        have c0S := (hKS.cell (p := ⟨d, 0, none⟩) (lt_of_block hDV.blk) (fun e => hdgs e)).trans c0V
        have cn0S := (hKS.cell (p := ⟨wr.heap.size, 0, none⟩) (block_lt_of_cell cn0) (fun e => hngs e)).trans cn0
        have cn1S := hKS.range (a := V.drew) cn1 (fun e => hngs e)
        have hthS : (V.drew.setCells gs (a * 64) (p.map bv)).there gs (a * 64) 64 := by
          exact World.there_setCells (w := V.drew) hthV gs (a * 64) (p.map bv)
        have HSS := Lib.hid hSS
        have HKS := Lib.hid hKS
        have HDV := Lib.hid hDV
        clear hSS hKS
        have HKV := Lib.hid hKV
        clear hDV hKV hrange hap hin hsl
        simp only [Act.put]
        go_region_held3 (fun W => W.cell? ⟨d, 0, none⟩ = some (.slice (some ⟨gs, 0, none⟩) D2.safe.length caps) ∧ W.cell? ⟨wr.heap.size, 0, none⟩ = some (.int .i64 (a : Int)) ∧ W.rangeAt wr.heap.size (0 + 1) (p.map bv) ∧ W.there gs (a * 64) 64) (first | exact ⟨c0V, cn0, cn1, hthV⟩ | exact ⟨c0S, cn0S, cn1S, hthS⟩) (first | fail)
        go_wp2
        have hnext : SyncAt w1 d (.slice (some ⟨gs, 0, none⟩) D2.safe.length caps) nv2 (.slice (some ⟨gw, 0, none⟩) D2.writes.length capw) D2 (k + 1) (V.drew.setCells gs (a * 64) (p.map bv)) := by
          refine ⟨?_, ?_⟩
          · have e : ({ D2.syncTo k with safe := (D2.syncTo k).safe.set a p } : Dsk) = D2.syncTo (k + 1) := by
              simp only [Dsk.syncTo]
              rw [List.take_succ_eq_append_getElem hlt, HX.out, applyW_snoc]
            have := HSS.out
            rw [e, show (D2.syncTo k).safe.length = D2.safe.length from applyW_length _ _] at this
            exact this
          · exact ((HA.out.keeps.trans' (HKV.out.drew) (fun _ _ h => h.elim)).trans' HKS.out (fun i _ e => .inr (.inl (by rw [e]; rfl))))
        go_roundw
        case rel => exact ⟨k + 1, by omega, by go_num, hnext⟩
        case measure => simp [intOf]; omega
      · obtain rfl : k = D2.writes.length := by omega
        have c2r := hA.at_.c2
        have f2r := free_of_blk hA.at_.blk 2
        have hfin := none_left hA.at_
        have hSA : DStep w1 d (dfp d (.slice (some ⟨gs, 0, none⟩) D2.safe.length caps) nv2 (.slice (some ⟨gw, 0, none⟩) D2.writes.length capw)) wr (D2.syncTo D2.writes.length) (dfp d (.slice (some ⟨gs, 0, none⟩) D2.safe.length caps) nv2 (.slice (some ⟨gw, 0, none⟩) D2.writes.length capw)) := ⟨⟨_, _, _, hA.at_, rfl⟩, hA.keeps, fun _ hk => .inl hk⟩
        have HFIN := Lib.hid ((HS.out.trans (by rw [HFP.out]; exact hSA)).trans hfin)
        clear hfin hSA hA h0
        go_wp2
        go_ret
        exact ⟨rfl, _, HFIN.out⟩

/-- Disk.Sync -/
def Dsk.sync (D : Dsk) : Int × Dsk := if D.down then (91, D) else if D.fails.1 then (91, D.fails.2) else (0, { D.fails.2.syncTo D.fails.2.writes.length with writes := [] })

set_option maxRecDepth 100000 in
set_option maxHeartbeats 1000000 in
theorem sync_any (w : World) (d : Nat) (D : Dsk) (fp : Nat → Prop) (h : IsDisk w d D fp) :
    Calls Tryz.prog 17 #[.pointer (some ⟨d, 0, none⟩)] w fun e w' => DRet w d fp (.int .i64 D.sync.1) D.sync.2 e w' := by
  by_cases hd : D.down = true
  · have HR := Lib.hid (show D.sync = (91, D) by simp [Dsk.sync, hd])
    have HS := Lib.hid (DStep.refl h)
    obtain ⟨sv, nv, wv, h, rfl⟩ := h
    have c4 := h.c4
    rw [hd] at c4
    clear h hd
    go_enter Tryz.func17, Tryz.ntmps17
    go_wp2
    go_ret
    exact ⟨ret_int (by rw [HR.out]), _, by rw [HR.out]; exact HS.out⟩
  have hd' : D.down = false := by simpa using hd
  by_cases hf : D.fails.1 = true
  · have HR := Lib.hid (show D.sync = (91, D.fails.2) by simp [Dsk.sync, hd', hf])
    have hfa := fails_any w d D fp h
    rw [hf] at hfa
    obtain ⟨sv, nv, wv, h, rfl⟩ := h
    have c4 := h.c4
    rw [hd'] at c4
    have HF := Lib.hid hfa
    clear h hd hd' hf hfa
    go_enter Tryz.func17, Tryz.ntmps17
    go_wp2_with fail
    refine HF.out.mono ?_
    rintro e w1 ⟨rfl, hS⟩
    have HS := Lib.hid hS
    clear hS
    go_wp2
    go_ret
    exact ⟨ret_int (by rw [HR.out]), _, by rw [HR.out]; exact HS.out⟩
  · have hf' : D.fails.1 = false := by simpa using hf
    refine (sync_good w d D fp h hd' hf').mono fun e w' hR => hR.mono_v ?_ ?_
    · simp [Dsk.sync, hd', hf']
    · simp [Dsk.sync, hd', hf']
end Go.Proofs.YtlbaagjbehdmgaaGreat

namespace Go.Proofs.YtlbaagjbehdmgaaGreat
open Go.RowKit

def newDsk (n : Nat) : Dsk := ⟨List.replicate n (zeros 64), List.replicate n (zeros 64), [], 0, false, 0⟩

theorem info_page3 : (Tryz.prog.info? 108).map (fun i => (i.zero, i.size, i.bytes)) = some (some (.agg (bvs (zeros 64))), 64, 64) := by kernel_rfl
theorem made_zeros (n : Nat) : madeCells (bvs (zeros 64)) (n * 64) = bvs (zeros (n * 64)) := by
  apply Array.ext_getElem?
  intro j
  by_cases hj : j < n * 64
  · have h1 : (bvs (zeros 64))[j % 64]! = Value.int .u8 0 := by
      have : j % 64 < 64 := Nat.mod_lt _ (by decide)
      rw [getElem!_def, bvs_get, zeros, List.getElem?_replicate, if_pos this]; rfl
    rw [bvs_get, show zeros (n * 64) = List.replicate (n * 64) 0 from rfl, List.getElem?_replicate, if_pos hj]
    simp only [madeCells, Array.getElem?_map, Array.getElem?_range, hj, if_true, Option.map_some]
    rw [show (bvs (zeros 64)).size = 64 from by simp [zeros]]
    exact congrArg some h1
  · rw [Array.getElem?_eq_none (by simp [size_madeCells]; omega), Array.getElem?_eq_none (by simp [zeros]; omega)]
theorem run_mk (n : Nat) (h2 : n ≤ 1024) (w : World) :
    (Instr.makeSlice 98 (.int .i64 n) (.int .i64 n)).run Tryz.prog w = .ok (.slice (some ⟨w.heap.size, 0, none⟩) n n) (w.alloc (.cells (bvs (zeros (n * 64))) 108)) := by
  obtain ⟨i0, hi, hz1, hz2, hz3⟩ := info_parts info_page3
  have := run_make (P := Tryz.prog) w 98 108 i0 _ Tryz.underlying98 hi hz1 .i64 .i64 n n (by omega) (by omega) (by rw [hz3]; omega) (by omega)
  rw [this, hz2, Int.toNat_natCast]
  simp only [Value.cells]
  rw [made_zeros]
theorem pageCells_zeros (n : Nat) : pageCells (List.replicate n (zeros 64)) = (zeros (n * 64)).map bv := by
  unfold pageCells
  congr 1
  induction n with
  | zero => rfl
  | succ n ih => rw [List.replicate_succ, List.flatten_cons, ih, zeros, zeros, zeros, List.replicate_append_replicate]; congr 1; omega
theorem own_zeros {w : World} {g n : Nat} (h : w.heap[g]? = some (.cells (bvs (zeros (n * 64))) 108 (0, 0))) (h2 : n ≤ 1024) : w.ownsRow 0 108 64 (.slice (some ⟨g, 0, none⟩) n n) (List.replicate n (zeros 64)).length (pageCells (List.replicate n (zeros 64))) := by
  rw [pageCells_zeros, List.length_replicate]
  refine ⟨by simp [zeros], .inr ⟨g, n, _, rfl, Nat.zero_le _, h, Nat.le_refl _, by unfold maxLen; omega, by simp [zeros], ?_⟩⟩
  rw [List.take_of_length_le (by simp [zeros])]
  simp [bvs]
/-- what NewDisk leaves -/
def NewAt (w : World) (n : Nat) (e : Ending) (w' : World) : Prop :=
  e = .returned (.tuple #[.pointer (some ⟨w.heap.size + 2, 0, none⟩), .int .i64 0]) ∧ Keeps None' w w' ∧ ∃ fp, IsDisk w' (w.heap.size + 2) (newDsk n) fp ∧ ∀ k, fp k → w.heap.size ≤ k
theorem new_at {w w' : World} {n a b : Nat} (h1 : 1 ≤ n) (h2 : n ≤ 1024) (ha : w'.heap[a]? = some (.cells (bvs (zeros (n * 64))) 108 (0, 0))) (hb : w'.heap[b]? = some (.cells (bvs (zeros (n * 64))) 108 (0, 0))) (hab : a ≠ b) (hal : w.heap.size ≤ a) (hbl : w.heap.size ≤ b)
    (hd : w'.heap[w.heap.size + 2]? = some (.cells #[.slice (some ⟨a, 0, none⟩) n n, .slice (some ⟨b, 0, none⟩) n n, .slice none 0 0, .int .i64 0, .bool false, .int .i64 0] 101 (0, 0))) (hk : Keeps None' w w') :
    NewAt w n (.returned (.tuple #[.pointer (some ⟨w.heap.size + 2, 0, none⟩), .int .i64 0])) w' := by
  refine ⟨rfl, hk, _, ⟨_, _, _, ⟨hd, own_zeros ha h2, own_zeros hb h2, World.ownsRow_nil _ _ _ _, by simp [Value.ownBlock, hab], ⟨by simp [newDsk], by simp [newDsk]; omega, fun p hp => ?_, fun p hp => ?_, fun x hx => by cases hx⟩, by simp [newDsk]; omega, Nat.zero_le _, by simp [newDsk], by simp [newDsk, wrap64]⟩, rfl⟩, ?_⟩
  · simp only [newDsk, List.mem_replicate] at hp; rw [hp.2]; simp [zeros]
  · simp only [newDsk, List.mem_replicate] at hp; rw [hp.2]; simp [zeros]
  · rintro k (rfl | e | e | e)
    · omega
    · cases e; exact hal
    · cases e; exact hbl
    · cases e

set_option maxRecDepth 100000 in
set_option maxHeartbeats 1000000 in
theorem newdisk_good (w : World) (n : Nat) (h1 : 1 ≤ n) (h2 : n ≤ 1024) :
    Calls Tryz.prog 12 #[.int .i64 n] w fun e w' => NewAt w n e w' := by
  have hmk := run_mk n h2
  have hfin : ∀ w' a b, w'.heap[a]? = some (.cells (bvs (zeros (n * 64))) 108 (0, 0)) → w'.heap[b]? = some (.cells (bvs (zeros (n * 64))) 108 (0, 0)) → a ≠ b → w.heap.size ≤ a → w.heap.size ≤ b →
      w'.heap[w.heap.size + 2]? = some (.cells #[.slice (some ⟨a, 0, none⟩) n n, .slice (some ⟨b, 0, none⟩) n n, .slice none 0 0, .int .i64 0, .bool false, .int .i64 0] 101 (0, 0)) → Keeps None' w w' →
      NewAt w n (.returned (.tuple #[.pointer (some ⟨w.heap.size + 2, 0, none⟩), .int .i64 0])) w' := fun w' a b ha hb hab hal hbl hd hk => new_at h1 h2 ha hb hab hal hbl hd hk
  have HFIN := Lib.hid hfin
  clear hfin
  go_enter Tryz.func12, Tryz.ntmps12
  go_wp2
  go_region_with (fail)
  all_goals
    try simp only [Exit.then]
    go_wp2
    go_ret2
  · exact HFIN.out _ w.heap.size (w.heap.size + 1) (heap_alloc3 _ _ _ _).1 (heap_alloc3 _ _ _ _).2.1 (by omega) (by omega) (by omega) (heap_alloc3 _ _ _ _).2.2 ((((Keeps.refl None' w).alloc _).alloc _).alloc _).drew
  · exact HFIN.out _ (w.heap.size + 1) w.heap.size (heap_alloc3 _ _ _ _).2.1 (heap_alloc3 _ _ _ _).1 (by omega) (by omega) (by omega) (heap_alloc3 _ _ _ _).2.2 ((((Keeps.refl None' w).alloc _).alloc _).alloc _).drew

set_option maxHeartbeats 400000 in
theorem newdisk_bad (w : World) (n : Int) (h : n < 1 ∨ 1024 < n) :
    Calls Tryz.prog 12 #[.int .i64 n] w fun e w' => e = .returned (.tuple #[.pointer none, .int .i64 1]) ∧ w = w' := by
  rcases h with h | h
  · go_enter Tryz.func12, Tryz.ntmps12
    go_wp2
    go_ret2
    exact ⟨rfl, rfl⟩
  · have h' : ¬ n < 1 := by omega
    go_enter Tryz.func12, Tryz.ntmps12
    go_wp2
    go_ret2
    exact ⟨rfl, rfl⟩
end Go.Proofs.YtlbaagjbehdmgaaGreat
