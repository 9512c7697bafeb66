/- StoreEntries: the statement. -/
import Derived.Test.YtlbaagjbehdmgaaRows
import Derived.ProofKit
import Derived.Lib.SmallJoins
import Derived.Test.YtlbaagjbehdmgaaM33
namespace Go.Proofs.Ytlbaagjbehdmgaa
open Go.ChangeShapes Go.WideShapes Go.ChangeAt Go.RowKit Go.Joins
open Go.ChangeMaps (open_string shut_string)

theorem own : ownKnob Try.prog.godebug = none := by kernel_rfl
theorem cellsEntry : Try.prog.cellsOf 23 = 3 := by kernel_rfl
theorem entReads {H : Type} {enc : TypeId × Value → H} (W' : World) (b : Nat) (sp : Nat → Bool) (hd : Bool) (x y : Int) (s : ByteArray) (wx : (Lit.int .i64 x).wf = true) (wy : (Lit.int .i64 y).wf = true) (ws : s.size ≤ maxLen) :
    DataW.Trod enc Try.prog W' b sp hd 23 (.agg #[.int .i64 x, .int .i64 y, .string s]) (.agg [.lit (.int .i64 x), .lit (.int .i64 y), .lit (.string s.data.toList)]) [] := by
  simpa using shut_agg3 (enc := enc) (w := W') (base := b) (spare := sp) (held := hd) (y0 := (.lit (.int .i64 x), [])) (y1 := (.lit (.int .i64 y), [])) (y2 := (.lit (.string s.data.toList), [])) Try.underlying23 (by kernel_rfl) cellsEntry ⟨1, by simp [DataW.trod, Try.underlying3, wx]⟩ ⟨1, by simp [DataW.trod, Try.underlying3, wy]⟩ ⟨1, by simp [DataW.trod, Try.underlying9, ws]⟩

set_option maxRecDepth 100000 in
theorem storeEntries_lifted (os : Os) (started : os.Started) (H : Type) (enc : TypeId × Value → H) :
    ReturnsInHanded {} Try.checked os 3 .any (Rows.storeEntriesSpec.pre6 enc Try.prog Try.f3 Rows.storeEntriesRow.domain false) (Rows.storeEntriesSpec.post enc Try.prog Try.f3 false true false false) := by
  refine returnsInHanded_of_change (C := Try.checked) own started (by kernel_rfl) Try.func3
    (ChangeSpec.witness6 (enc := enc) (C := Try.checked) false ⟨#[], #[.agg #[.int .i64 0, .int .i64 0, .string ⟨#[]⟩], .string ⟨#[]⟩], []⟩ 8 (by kernel_rfl) (by kernel_rfl) (by kernel_rfl) (by kernel_rfl)) ?_
  intro W base args ds gs before hval0 hW hcnd _
  have hval : ∀ (j : Nat) t v, Try.f3.params[j]? = some t → args[j]? = some v → Value.okWide Try.prog W .any base t v := hval0
  have hW' := hW
  obtain ⟨p, q, hA0, hV, rfl, hfz, hnd⟩ := hW
  have hA : DataW.TrodAll enc Try.prog W 0 (fun _ => true) true Try.f3.params.toList args.toList ds p := hA0
  rw [Try.params3] at hA hval
  obtain ⟨v0, v1, d0, d1, p0, p1, rfl, rfl, rfl, h0, h1⟩ := trodAll_two hA
  obtain ⟨rfl, rfl⟩ := trodVars_none hV
  obtain ⟨c0, c1, c2, y0, y1, y2, m, rfl, rfl, rfl, hy0, hy1, hy2⟩ := open_agg3 Try.underlying23 (by kernel_rfl) cellsEntry (hval 0 23 v0 rfl rfl) h0
  obtain ⟨x, e0, rfl, wx⟩ := DataW.trod_int Try.underlying3 hy0
  obtain ⟨y, e1, rfl, wy⟩ := DataW.trod_int Try.underlying3 hy1
  obtain ⟨bd, e2, rfl, wb⟩ := DataW.trod_string Try.underlying9 hy2
  simp at e0 e1 e2
  subst e0 e1 e2
  obtain ⟨s, rfl, rfl, rfl, ws⟩ := open_string Try.underlying9 (hval 1 9 v1 rfl rfl) h1
  clear hA0 hval0
  simp only [List.append_nil] at hW'
  have hs0 : bd = str bd.data.toList := by cases bd; simp [str]
  have hl0 : bd.data.toList.length = bd.size := Array.length_toList
  have hwalk := entriesLaw_any x y bd.data.toList s W (by rw [hl0]; exact wb) ws
  rw [← hs0] at hwalk
  refine hwalk.mono fun e W' ⟨he, hk⟩ => ?_
  subst he
  refine ⟨_, rfl, _, _, _, [], [], [], hW', ?_, ?_, rfl, (Keeps.below hk).frame _, fun h => by cases h⟩
  · exact trodAll_mk1 (shut_bool Try.underlying4 true)
  · exact trodAll_mk2 (entReads _ _ _ _ x y bd wx wy wb) (shut_string Try.underlying9 ws)

theorem storeEntries_holds : Rows.StoreEntriesSaid :=
  OpenClaim.holds_of_wide 3 Try.f3 rfl rfl rfl rfl rfl rfl rfl ⟨rfl, rfl, rfl, rfl, rfl⟩ rfl rfl rfl rfl rfl (by kernel_rfl) Try.func3 (by kernel_rfl)
    (of_decide_eq_true (by kernel_rfl)) (by unfold Func.isWrapper; first | (rw [if_pos (by decide +kernel)]; kernel_rfl) | (rw [if_neg (by decide +kernel)]; exact ⟨rfl, rfl⟩))
    (fun os started H enc _ => storeEntries_lifted os started H enc)
end Go.Proofs.Ytlbaagjbehdmgaa
