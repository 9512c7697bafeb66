/- Read, Write and Sync of the disk. -/
import Derived.Deep.RegionHeld3
import Derived.Test.YtlbaagjbehdmgaaGreatM07
namespace Go.Proofs.YtlbaagjbehdmgaaGreat
open Go.RowKit

/-- Disk.Read -/
def Dsk.read (D : Dsk) (i : Int) : List UInt8 × Int :=
  if D.down then ([], 91) else if hasP D i then ((D.now[i.toNat]?).getD [], 0) else ([], 1)

theorem info_u8 : (Tryz.prog.info? 5).map (·.size) = some 1 := by kernel_rfl
/-- page i of a row of pages -/
theorem page_range {w : World} {g n cap : Nat} {l : List (List UInt8)} (h : w.ownsRow 0 108 64 (.slice (some ⟨g, 0, none⟩) n cap) n (pageCells l)) (h64 : ∀ p ∈ l, p.length = 64) (i : Nat) (hi : i < l.length) : w.rangeAt g (64 * i) (l[i].map bv) := fun j v hv => by
  have hr := own_range h (64 * i + j) v
  rw [Nat.zero_add] at hr
  refine hr ?_
  have hj : j < 64 := by
    have := (List.getElem?_eq_some_iff.1 hv).1
    rw [List.length_map, h64 _ (List.getElem_mem hi)] at this
    exact this
  rw [pageCells, List.getElem?_map, flatten_get l h64 i j hj hi, ← List.getElem?_map]
  exact hv

set_option maxRecDepth 100000 in
set_option maxHeartbeats 1000000 in
theorem read_any (w : World) (d : Nat) (D : Dsk) (fp : Nat → Prop) (i : Int) (h : IsDisk w d D fp) :
    Calls Tryz.prog 19 #[.pointer (some ⟨d, 0, none⟩), .int .i64 i] w fun e w' => e = .returned (.tuple #[.string (str (D.read i).1), .int .i64 (D.read i).2]) ∧ w = w' := by
  have hh := has_any w d D fp i h
  obtain ⟨sv, nv, wv, h, rfl⟩ := h
  obtain ⟨g, cap, cur, rfl, _⟩ := own_block h.now h.pos
  have c4 := h.c4
  have c1 := h.c1
  have hl := h.ok.few
  by_cases hd : D.down = true
  · have HR := Lib.hid (show D.read i = ([], 91) by simp [Dsk.read, hd])
    have c4' : w.cell? ⟨d, 4, none⟩ = some (.bool true) := by rw [c4, hd]
    clear h hh hd c1 c4
    go_enter Tryz.func19, Tryz.ntmps19
    go_wp2
    go_ret2
    rw [HR.out]
    exact ⟨rfl, rfl⟩
  have hd' : D.down = false := by simpa using hd
  have c4' : w.cell? ⟨d, 4, none⟩ = some (.bool false) := by rw [c4, hd']
  by_cases hp : hasP D i = true
  · have HP := Lib.hid hp
    rw [hp] at hh
    obtain ⟨h1, h2⟩ : 0 ≤ i ∧ i < D.now.length := by simpa [hasP] using hp
    obtain ⟨k, rfl⟩ := Int.eq_ofNat_of_zero_le h1
    have hk : k < D.now.length := by omega
    have HR := Lib.hid (show D.read k = (D.now[k], 0) by simp [Dsk.read, hd', hp, hk])
    have h64 := h.ok.now64 _ (List.getElem_mem hk)
    have hrange := page_range h.now h.ok.now64 k hk
    have hconv := run_bytes_str (P := Tryz.prog) w 91 5 9 Tryz.underlying91 Tryz.underlying5 Tryz.underlying9 g (k * 64) 64 64 D.now[k] h64 (by rw [Nat.mul_comm]; exact hrange)
    have HH := Lib.hid hh
    have hk2 : (k : Int) < (D.now.length : Int) := by omega
    clear h hh hd hd' hp c4 hrange h64 h2
    generalize D.now[k] = p at *
    go_enter Tryz.func19, Tryz.ntmps19
    go_wp2_with fail
    refine HH.out.mono ?_
    rintro e w1 ⟨rfl, rfl⟩
    go_wp2
    go_ret2
    rw [HR.out]
    exact ⟨rfl, rfl⟩
  · have hp' : hasP D i = false := by simpa using hp
    rw [hp'] at hh
    have HH := Lib.hid hh
    have HR := Lib.hid (show D.read i = ([], 1) by simp [Dsk.read, hd', hp'])
    clear h hh hd hd' hp hp' c4 c1
    go_enter Tryz.func19, Tryz.ntmps19
    go_wp2_with fail
    refine HH.out.mono ?_
    rintro e w1 ⟨rfl, rfl⟩
    go_wp2
    go_ret2
    rw [HR.out]
    exact ⟨rfl, rfl⟩

/-- a page is written -/
def Dsk.put (D : Dsk) (k : Nat) (s : List UInt8) : Dsk := { D with now := D.now.set k s, writes := D.writes ++ [(k, s)] }
/-- what a call that counts returns -/
def Dsk.wres (D : Dsk) : Int := if D.fails.1 then 91 else 0
theorem wres_of {D : Dsk} {b : Bool} (h : D.fails.1 = b) : (if b then 91 else 0 : Int) = D.wres := by simp [Dsk.wres, h]
/-- Disk.Write -/
def Dsk.write (D : Dsk) (i : Int) (s : List UInt8) : Int × Dsk :=
  if D.down then (91, D) else if hasP D i && s.length == 64 then ((D.put i.toNat s).wres, (D.put i.toNat s).fails.2) else (1, D)

theorem writeCells_snoc (l : List (Nat × List UInt8)) (k : Nat) (s : List UInt8) : writeCells (l ++ [(k, s)]) = writeCells l ++ (.int .i64 (k : Int) :: s.map bv) := by simp [writeCells]
theorem writeCells_length (l : List (Nat × List UInt8)) (h : ∀ x ∈ l, x.2.length = 64) : (writeCells l).length = l.length * 65 := by
  induction l with
  | nil => rfl
  | cons x l ih =>
    have e : writeCells (x :: l) = (.int .i64 (x.1 : Int) :: x.2.map bv) ++ writeCells l := by simp [writeCells]
    rw [e, List.length_append, ih (fun y hy => h y (List.mem_cons_of_mem _ hy))]
    simp [h x List.mem_cons_self]; omega

/-- the disk behind a write, in memory -/
theorem put_disk {w w1 : World} {d g cap k : Nat} {sv wv v' : Value} {D : Dsk} {s : List UInt8} (h : DiskAt w d sv (.slice (some ⟨g, 0, none⟩) D.now.length cap) wv D) (hk : k < D.now.length) (hs : s.length = 64) (hr : D.writes.length < 100000)
    (X : Obj) (hg : (((w.setCells g (64 * k) (s.map bv)).drew).alloc X).grownBy w1 wv.ownBlock)
    (ho : w1.ownsRow 0 110 65 v' (D.writes.length + 1) (writeCells D.writes ++ (.int .i64 (k : Int) :: s.map bv))) (hfr : ∀ i, v'.ownBlock = some i → wv.ownBlock = some i ∨ w.heap.size ≤ i) :
    DiskAt (w1.setCell ⟨d, 2, none⟩ v') d sv (.slice (some ⟨g, 0, none⟩) D.now.length cap) v' (D.put k s) ∧ DStep w d (dfp d sv (.slice (some ⟨g, 0, none⟩) D.now.length cap) wv) (w1.setCell ⟨d, 2, none⟩ v') (D.put k s) (dfp d sv (.slice (some ⟨g, 0, none⟩) D.now.length cap) v') := by
  have hdg : d ≠ g := fun e => by
    obtain ⟨cs, hc⟩ := own_type h.now (b := g) rfl
    rw [← e, h.blk] at hc
    injection hc with hc
    injection hc with _ hc
    revert hc; decide
  have hdw : ¬ (some d = wv.ownBlock) := fun e => own_ne_type h.writes h.blk (by decide) e.symm
  have hds : ¬ (some d = sv.ownBlock) := fun e => own_ne_type h.safe h.blk (by decide) e.symm
  have k0 : Keeps (One g) w ((w.setCells g (64 * k) (s.map bv)).drew.alloc X) := ((keeps_setCells g (s.map bv) (64 * k) w).drew).alloc X
  have k1 := grownBy_keeps hg
  have k2 := Keeps.set1 w1 d 2 v'
  have hnow := own_lay h.now (64 * k) (s.map bv) (by simp [hs]; omega)
  have hgw : ¬ (some g = wv.ownBlock) := fun e => by
    obtain ⟨cs, hc⟩ := own_type h.now (b := g) rfl
    exact own_ne_type h.writes hc (by decide) e.symm
  have hgs : sv.ownBlock ≠ some g := fun e => h.apart (by rw [e]; rfl)
  have hb1 : w1.heap[d]? = some (.cells #[sv, .slice (some ⟨g, 0, none⟩) D.now.length cap, wv, .int .i64 D.armed, .bool D.down, .int .i64 D.falls] 101 (0, 0)) :=
    k1.blk (k0.blk h.blk (fun e => hdg e)) hdw
  have hb2 := heap_setCell_same _ _ 2 _ _ v' hb1
  have hnow1 : w1.ownsRow 0 108 64 (.slice (some ⟨g, 0, none⟩) D.now.length cap) D.now.length (lay (pageCells D.now) (64 * k) (s.map bv)) :=
    own_keep (own_keep hnow (((Keeps.refl None' _).drew).alloc X) (fun b _ h => h)) k1 (fun b hb => by cases hb; exact hgw)
  have hsafe1 : w1.ownsRow 0 108 64 sv D.safe.length (pageCells D.safe) :=
    own_keep (own_keep h.safe k0 (fun b hb e => hgs (by rw [hb, e]))) k1 (fun b hb e => by
      obtain ⟨cs, hc⟩ := own_type h.safe hb
      exact own_ne_type h.writes hc (by decide) e.symm)
  have hpc : pageCells (D.now.set k s) = lay (pageCells D.now) (64 * k) (s.map bv) := by
    rw [pageCells, flatten_set _ h.ok.now64 k hk s hs, ← lay_map]; rfl
  have hD : DiskAt (w1.setCell ⟨d, 2, none⟩ v') d sv (.slice (some ⟨g, 0, none⟩) D.now.length cap) v' (D.put k s) := by
    refine ⟨hb2, own_keep hsafe1 k2 (fun b hb e => hds (by rw [hb]; exact congrArg some (Eq.symm e))), ?_, ?_, h.apart, ?_, ?_, ?_, h.arm, h.fall⟩
    · show World.ownsRow _ 0 108 64 _ (D.now.set k s).length (pageCells (D.now.set k s))
      rw [hpc, List.length_set]
      exact own_keep hnow1 k2 (fun b hb e => by cases hb; exact hdg e.symm)
    · show World.ownsRow _ 0 110 65 v' (D.writes ++ [(k, s)]).length (writeCells (D.writes ++ [(k, s)]))
      rw [writeCells_snoc, List.length_append]
      exact own_keep ho k2 (fun b hb e => own_ne_type ho hb1 (by decide) (by rw [hb, e]))
    · obtain ⟨a1, a2, a3, a4, a5⟩ := h.ok
      refine ⟨by simp [Dsk.put, a1], by simp [Dsk.put]; exact a2, a3, fun p hp => ?_, fun x hx => ?_⟩
      · rcases List.mem_or_eq_of_mem_set hp with h' | h'
        · exact a4 p h'
        · rw [h', hs]
      · simp only [Dsk.put, List.length_set] at hx ⊢
        rcases List.mem_append.1 hx with h' | h'
        · exact a5 x h'
        · simp at h'; subst h'; exact ⟨hk, hs⟩
    · simpa [Dsk.put] using h.pos
    · simp [Dsk.put]; omega
  refine ⟨hD, ⟨⟨_, _, _, hD, rfl⟩, ?_, ?_⟩⟩
  · refine ((k0.mono (S' := dfp d sv (.slice (some ⟨g, 0, none⟩) D.now.length cap) wv) (fun i _ e => .inr (.inr (.inl (by rw [e]; rfl))))).trans' k1 (fun i _ e => .inr (.inr (.inr e)))).trans' k2 (fun i _ e => .inl e)
  · rintro i (e | e | e | e)
    · exact .inl (.inl e)
    · exact .inl (.inr (.inl e))
    · exact .inl (.inr (.inr (.inl e)))
    · exact (hfr i e.symm).elim (fun h' => .inl (.inr (.inr (.inr h'.symm)))) .inr
end Go.Proofs.YtlbaagjbehdmgaaGreat
