/- StoreAgree: the statement. -/
import Derived.Test.YtlbaagjbehdmgaaGreatRows
import Derived.Test.YtlbaagjbehdmgaaGreatM42
import Derived.Test.YtlbaagjbehdmgaaGreatM39
namespace Go.Proofs.YtlbaagjbehdmgaaGreat
open Go.ChangeShapes Go.WideShapes Go.ChangeAt Go.RowKit Go.Joins

set_option maxRecDepth 100000 in
theorem storeAgree_lifted (os : Os) (started : os.Started) (H : Type) (enc : TypeId × Value → H) :
    ReturnsInHanded {} Tryz.checked os 7 .any (Rows.storeAgreeSpec.pre6 enc Tryz.prog Tryz.f7 Rows.storeAgreeRow.domain false) (Rows.storeAgreeSpec.post enc Tryz.prog Tryz.f7 false true false false) := by
  refine returnsInHanded_of_change (C := Tryz.checked) own started (by kernel_rfl) Tryz.func7
    (ChangeSpec.witness6 (enc := enc) (C := Tryz.checked) false ⟨#[], #[.agg #[.int .i64 0, .int .i64 0, .slice none 0 0], .slice none 0 0, .slice none 0 0], []⟩ 8 (by kernel_rfl) (by kernel_rfl) (by kernel_rfl) (by kernel_rfl)) ?_
  intro W base args ds gs before hval0 hW hcnd _
  have hval : ∀ (j : Nat) t v, Tryz.f7.params[j]? = some t → args[j]? = some v → Value.okWide Tryz.prog W .any base t v := hval0
  have hW' := hW
  obtain ⟨p, q, hA0, hV, rfl, hfz, hnd⟩ := hW
  have hA : DataW.TrodAll enc Tryz.prog W 0 (fun _ => true) true Tryz.f7.params.toList args.toList ds p := hA0
  rw [Tryz.params7] at hA hval
  obtain ⟨v0, v1, v2, d0, d1, d2, p0, p1, p2, rfl, rfl, rfl, h0, h1, h2⟩ := trodAll_three hA
  obtain ⟨rfl, rfl⟩ := trodVars_none hV
  clear hA0 hval0
  simp only [List.append_nil] at hW'
  have hlt0 : ∀ x ∈ p0, x.block < W.heap.size := fun x hx => by simpa using hW'.lt x (by simp [hx])
  have hlt1 : ∀ x ∈ p1, x.block < W.heap.size := fun x hx => by simpa using hW'.lt x (by simp [hx])
  have hlt2 : ∀ x ∈ p2, x.block < W.heap.size := fun x hx => by simpa using hW'.lt x (by simp [hx])
  obtain ⟨x, y, u, L, rfl, hL, hLl⟩ := open_world (hval 0 46 v0 rfl rfl) h0
  obtain ⟨za, zl, zcap, rfl⟩ := okWide_slice Tryz.underlying47 (hval 1 47 v1 rfl rfl)
  obtain ⟨zs, hZ, hZl⟩ : ∃ zs : List Int, IntSl W (.slice za zl zcap) zs ∧ zs.length ≤ maxLen := by
    obtain ⟨fuel, hf⟩ := h1
    exact open_nums (by simpa [Value.cells] using hf)
  obtain ⟨ya, yl, ycap, rfl⟩ := okWide_slice Tryz.underlying47 (hval 2 47 v2 rfl rfl)
  obtain ⟨ys, hY, hYl⟩ : ∃ ys : List Int, IntSl W (.slice ya yl ycap) ys ∧ ys.length ≤ maxLen := by
    obtain ⟨fuel, hf⟩ := h2
    exact open_nums (by simpa [Value.cells] using hf)
  have hwalk := agreeLaw_any W x y u _ _ L zs ys hL hZ hY
  refine hwalk.mono fun e W' ⟨he, hk⟩ => ?_
  subst he
  have hb := Keeps.below hk
  refine ⟨_, rfl, _, _, _, [], p0 ++ (p1 ++ p2), [], hW', ?_, ?_, rfl, hb.frame _, fun h => by cases h⟩
  · exact trodAll_mk1 (shut_bool Tryz.underlying4 true)
  · exact trodAll_mk3 (Below.trod laidOut (by kernel_rfl) (of_decide_eq_true (by kernel_rfl)) h0 hb hlt0) (Below.trod laidOut (by kernel_rfl) (of_decide_eq_true (by kernel_rfl)) h1 hb hlt1) (Below.trod laidOut (by kernel_rfl) (of_decide_eq_true (by kernel_rfl)) h2 hb hlt2)

theorem storeAgree_holds : Rows.StoreAgreeSaid :=
  OpenClaim.holds_of_wide 7 Tryz.f7 rfl rfl rfl rfl rfl rfl rfl ⟨rfl, rfl, rfl, rfl, rfl⟩ rfl rfl rfl rfl rfl (by kernel_rfl) Tryz.func7 (by kernel_rfl)
    (of_decide_eq_true (by kernel_rfl)) (by unfold Func.isWrapper; first | (rw [if_pos (by decide +kernel)]; kernel_rfl) | (rw [if_neg (by decide +kernel)]; exact ⟨rfl, rfl⟩))
    (fun os started H enc _ => storeAgree_lifted os started H enc)
end Go.Proofs.YtlbaagjbehdmgaaGreat
