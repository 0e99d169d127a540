/- PROVED: for every input the law CacheReset answers true (behind Reset Last and the clients' numbers are what was said, and entries stay), and each argument reads behind the call as it read before. -/
import Derived.Test.YtjfacgmobpbhcaaGreatBs7
namespace Go.Proofs.YtjfacgmobpbhcaaGreat
open Go.ChangeShapes Go.WideShapes Go.ChangeAt Go.RowKit Go.Sl Sei
section
variable {H : Type} {enc : TypeId × Value → H} {W W' : World}
theorem val_struct {Pr : Program} {W : World} {t : TypeId} {fs : Array Field} {v : Value} {r : Reach} {base : Nat} (ht : Pr.underlying t = some (.struct fs)) (ho : Value.okWide Pr W r base t v) : ∃ cs, v = .agg cs := by
  unfold Value.okWide at ho
  rw [ht] at ho
  dsimp only at ho
  obtain ⟨cs, h, _⟩ := ho
  exact ⟨cs, h⟩
set_option maxRecDepth 100000 in
theorem arg_ver {v : Value} {r : Reach} {base : Nat} {d : DataW H} {ps : List MemPlace} (ho : Value.okWide P W r base T_api_Version v) (h : DataW.Trod enc P W 0 (fun _ => true) true T_api_Version v d ps) : ∃ ve : Ver, v = .agg (verV ve).toArray ∧ verOk ve := by
  obtain ⟨fs, _, hfs, _⟩ := F_api_Version_0.run
  obtain ⟨cs, rfl⟩ := val_struct (Pr := P) hfs ho
  obtain ⟨fuel, hf⟩ := h
  have hl := (tr_struct hfs hf).1
  rw [c_ver] at hl
  obtain ⟨ve, h1, h2⟩ := open_ver hl hf
  refine ⟨ve, ?_, h2⟩
  have h3 : cs.toList = verV ve := h1
  rw [← h3]
end
theorem cacheReset_calls (W : World) (ring : Nat) (hr : ring < 256) (v lv : Value) (acts : ActL) (hA : ActsAt (old W) v acts) (ve : Ver) (hve : verOk ve) (l : List Int) (hl : Vw (old W) lv 1 l.length (numsV l)) (hlI : ∀ n ∈ l, I64 n) : Calls P f_law09_CacheReset #[.int .u8 (ring : Nat), v, .agg (verV ve).toArray, lv] W fun e W' => e = .returned (.bool true) ∧ Sat ⟨W.os, W.output⟩ W' (old W) :=
  law_calls (s_law09_CacheReset s_law09_awake ring hr acts hA ve hve l hl hlI (resetOk hr hA.ok ve hve l hlI))
set_option maxRecDepth 100000 in
theorem cacheReset_lifted (os : Os) (started : os.Started) (H : Type) (enc : TypeId × Value → H) :
    ReturnsInHanded {} Tryz.checked os f_law09_CacheReset .any (Rows.cacheResetSpec.pre6 enc Tryz.prog Tryz.f7 Rows.cacheResetRow.domain false) (Rows.cacheResetSpec.post enc Tryz.prog Tryz.f7 false true false false) := by
  refine returnsInHanded_of_change (C := Tryz.checked) own_knob started (by kernel_rfl) Tryz.func7
    (ChangeSpec.witness6 (enc := enc) (C := Tryz.checked) false ⟨#[], #[.int .u8 0, .slice none 0 0, .agg #[.int .i64 0, .int .i64 0], .slice none 0 0], []⟩ 8 (by kernel_rfl) (by kernel_rfl) (by kernel_rfl) (by kernel_rfl)) ?_
  intro W base args ds gs before hval0 hW hcnd _
  have hval : ∀ (j : Nat) t v, Tryz.f7.params[j]? = some t → args[j]? = some v → Value.okWide Tryz.prog W .any base t v := hval0
  have hW' := hW
  obtain ⟨p, q, hA0, hV, rfl, hfz, hnd⟩ := hW
  have hA : DataW.TrodAll enc Tryz.prog W 0 (fun _ => true) true Tryz.f7.params.toList args.toList ds p := hA0
  rw [Tryz.params7] at hA hval
  obtain ⟨v0, v1, v2, v3, d0, d1, d2, d3, p0, p1, p2, p3, rfl, rfl, rfl, h0, h1, h2, h3⟩ := trodAll_four hA
  obtain ⟨rfl, rfl⟩ := trodVars_none hV
  obtain ⟨ring, rfl, hr⟩ := arg_u8 (hval 0 _ v0 rfl rfl) h0
  obtain ⟨acts, hacts⟩ := arg_acts (hval 1 _ v1 rfl rfl) h1
  obtain ⟨ve, rfl, hve⟩ := arg_ver (hval 2 _ v2 rfl rfl) h2
  obtain ⟨l, hl, hlI⟩ := arg_nums (hval 3 _ v3 rfl rfl) h3
  refine (cacheReset_calls W ring hr v1 v3 acts hacts ve hve l hl hlI).mono fun e W' ⟨he, hs⟩ => ?_
  subst he
  exact ⟨_, rfl, _, _, _, [], _, [], hW', trodAll_mk1 (shut_bool U_bool true), trodAll_mk4 (trod_old (by kernel_rfl) (of_decide_eq_true (by kernel_rfl)) h0 hs) (trod_old (by kernel_rfl) (of_decide_eq_true (by kernel_rfl)) h1 hs) (trod_old (by kernel_rfl) (of_decide_eq_true (by kernel_rfl)) h2 hs) (trod_old (by kernel_rfl) (of_decide_eq_true (by kernel_rfl)) h3 hs), rfl, kept_old hs _, fun h => by cases h⟩
theorem cacheReset_holds : Rows.CacheResetSaid :=
  OpenClaim.holds_of_wide f_law09_CacheReset Tryz.f7 rfl rfl rfl rfl rfl rfl rfl ⟨rfl, rfl, rfl, rfl, rfl⟩ rfl rfl rfl rfl rfl (by kernel_rfl) Tryz.func7 (by kernel_rfl)
    (of_decide_eq_true (by kernel_rfl)) (by unfold Func.isWrapper; first | (rw [if_pos (by decide +kernel)]; kernel_rfl) | (rw [if_neg (by decide +kernel)]; exact ⟨rfl, rfl⟩))
    (fun os started H enc _ => cacheReset_lifted os started H enc)
end Go.Proofs.YtjfacgmobpbhcaaGreat
