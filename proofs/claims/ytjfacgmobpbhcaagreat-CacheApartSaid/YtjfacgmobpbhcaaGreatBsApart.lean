/- PROVED: for every input the law CacheApart answers true (what is done to one block changes no entry of another one's, unless a place is needed), and each argument reads behind the call as it read before. -/
import Derived.Test.YtjfacgmobpbhcaaGreatBs7
namespace Go.Proofs.YtjfacgmobpbhcaaGreat
open Go.ChangeShapes Go.WideShapes Go.ChangeAt Go.RowKit Go.Sl Sei
theorem cacheApart_calls (W : World) (ring : Nat) (hr : ring < 256) (v : Value) (acts : ActL) (hA : ActsAt (old W) v acts) : Calls P f_law09_CacheApart #[.int .u8 (ring : Nat), v] W fun e W' => e = .returned (.bool true) ∧ Sat ⟨W.os, W.output⟩ W' (old W) :=
  law_calls (s_law09_CacheApart s_law09_awake ring hr acts hA (apartOk hr hA.ok))
set_option maxRecDepth 100000 in
theorem cacheApart_lifted (os : Os) (started : os.Started) (H : Type) (enc : TypeId × Value → H) :
    ReturnsInHanded {} Tryz.checked os f_law09_CacheApart .any (Rows.cacheApartSpec.pre6 enc Tryz.prog Tryz.f6 Rows.cacheApartRow.domain false) (Rows.cacheApartSpec.post enc Tryz.prog Tryz.f6 false true false false) := by
  refine returnsInHanded_of_change (C := Tryz.checked) own_knob started (by kernel_rfl) Tryz.func6
    (ChangeSpec.witness6 (enc := enc) (C := Tryz.checked) false ⟨#[], #[.int .u8 0, .slice none 0 0], []⟩ 8 (by kernel_rfl) (by kernel_rfl) (by kernel_rfl) (by kernel_rfl)) ?_
  intro W base args ds gs before hval0 hW hcnd _
  have hval : ∀ (j : Nat) t v, Tryz.f6.params[j]? = some t → args[j]? = some v → Value.okWide Tryz.prog W .any base t v := hval0
  have hW' := hW
  obtain ⟨p, q, hA0, hV, rfl, hfz, hnd⟩ := hW
  have hA : DataW.TrodAll enc Tryz.prog W 0 (fun _ => true) true Tryz.f6.params.toList args.toList ds p := hA0
  rw [Tryz.params6] at hA hval
  obtain ⟨v0, v1, d0, d1, p0, p1, rfl, rfl, rfl, h0, h1⟩ := trodAll_two hA
  obtain ⟨rfl, rfl⟩ := trodVars_none hV
  obtain ⟨ring, rfl, hr⟩ := arg_u8 (hval 0 _ v0 rfl rfl) h0
  obtain ⟨acts, hacts⟩ := arg_acts (hval 1 _ v1 rfl rfl) h1
  refine (cacheApart_calls W ring hr v1 acts hacts).mono fun e W' ⟨he, hs⟩ => ?_
  subst he
  exact ⟨_, rfl, _, _, _, [], _, [], hW', trodAll_mk1 (shut_bool U_bool true), trodAll_mk2 (trod_old (by kernel_rfl) (of_decide_eq_true (by kernel_rfl)) h0 hs) (trod_old (by kernel_rfl) (of_decide_eq_true (by kernel_rfl)) h1 hs), rfl, kept_old hs _, fun h => by cases h⟩
theorem cacheApart_holds : Rows.CacheApartSaid :=
  OpenClaim.holds_of_wide f_law09_CacheApart Tryz.f6 rfl rfl rfl rfl rfl rfl rfl ⟨rfl, rfl, rfl, rfl, rfl⟩ rfl rfl rfl rfl rfl (by kernel_rfl) Tryz.func6 (by kernel_rfl)
    (of_decide_eq_true (by kernel_rfl)) (by unfold Func.isWrapper; first | (rw [if_pos (by decide +kernel)]; kernel_rfl) | (rw [if_neg (by decide +kernel)]; exact ⟨rfl, rfl⟩))
    (fun os started H enc _ => cacheApart_lifted os started H enc)
end Go.Proofs.YtjfacgmobpbhcaaGreat
