/- Part 6: what the proof of the law rests on: the walks of the functions that it calls, and the plain laws of what they compute. -/
import Derived.Test.YtjfacgmobpbhcaaGreatBs5
import Derived.Shelf.SlIterI.Nil
import Derived.Shelf.SortM.Plain
import Derived.Shelf.SortM.SortNone
/- The walks: caches, 7. -/
namespace Go.Proofs.YtjfacgmobpbhcaaGreat
open Go.Sl Sei
theorem tabOf_nums {l : List Int} (h : l.length = 4) : numsV l = [i64 (tabOf l).a, i64 (tabOf l).b, i64 (tabOf l).c, i64 (tabOf l).d] := by
  match l, h with
  | [a, b, c, d], _ => rfl
theorem putAt_tab2 (x0 x1 a b c d p q r s : Value) : putAt [x0, x1, a, b, c, d] 2 (List.take (4 * 1) [p, q, r, s]) = [x0, x1, p, q, r, s] := rfl
theorem s_cache_wrong {S : HP} {lv : Value} (v : Ver) (l : List Int) (hl : Vw S lv 1 l.length (numsV l)) : Ctr P f_cache_wrong [.agg (verV v).toArray, lv] S (fun r => pu (r = .bool (cWrong v l)) * S) := by
  refine Ctr.of_body (m := 17) fn_cache_wrong rfl rfl rfl rfl rfl (fun F g => ?_)
  refine Wc.seq ?_
  refine Wc.region ?_
  refine Wl.al rfl (M.box (l := verV v) rfl rfl) (fun r2 => ?_)
  refine Wl.val rfl (V.assign rfl) ?_
  refine Wl.nil ?_
  refine Wx.then_n ?_
  refine Wc.seq ?_
  refine Wc.region ?_
  refine Wl.val rfl (V.ldA (vs := verV v) rfl C_api_Version rfl) ?_
  first | refine Wl.callE rfl rfl (s_cache_may v 0) ?_ | refine Wl.callD rfl rfl (s_cache_may v 0) (by first | exact Take.here | exact Take.there Take.here | exact Take.there (Take.there Take.here) | exact Take.there (Take.there (Take.there Take.here)) | exact Take.none _ | exact TakeC.t | exact Take.there (Take.there (Take.there (Take.there Take.here))) | exact Take.there (Take.there (Take.there (Take.there (Take.there Take.here)))) | exact Take.there (Take.there (Take.there (Take.there (Take.there (Take.there Take.here)))))) ?_
  refine Wl.val rfl (V.not rfl) ?_
  refine Wl.val rfl (V.move rfl) ?_
  refine Wl.bool 8 rfl (fun hb8 => ?_) (fun hb8 => ?_)
  · -- t8 is True
    try replace hb8 := of_decide_eq_true hb8
    refine Wl.gF rfl rfl rfl ?_
    refine Wl.gF rfl rfl rfl ?_
    refine Wl.gF rfl rfl rfl ?_
    refine Wl.val rfl (V.pickT rfl rfl) ?_
    refine Wl.val rfl (V.move rfl) ?_
    refine Wl.gF rfl rfl rfl ?_
    refine Wl.gF rfl rfl rfl ?_
    refine Wl.val rfl (V.pickT rfl rfl) ?_
    refine Wl.val rfl (V.assign rfl) ?_
    refine Wl.nil ?_
    refine Wx.then_n ?_
    refine Wc.ret ?_
    repeat (first | refine Wx.then_r ?_ | refine Wx.blk_r ?_ | refine Wx.ng_r ?_)
    refine Wx.ret1 rfl rfl rfl ?_
    exact Ent.resC (by rw [cWrong, ← oddV_any]; simp only [*, decide_true, decide_false, Bool.true_or, Bool.false_or, Bool.or_true, Bool.or_false, Bool.not_true, Bool.not_false])
  · -- t8 is False
    try replace hb8 := of_decide_eq_false hb8
    refine Wl.gT rfl rfl ?_
    refine Wl.val rfl (V.move rfl) ?_
    refine Wl.gT rfl rfl ?_
    refine Wl.val rfl (V.lenW rfl U_Sint64 hl) ?_
    refine Wl.gT rfl rfl ?_
    refine Wl.val rfl (V.neq rfl rfl) ?_
    refine Wl.val rfl (V.pickF rfl rfl) ?_
    refine Wl.val rfl (V.move rfl) ?_
    refine Wl.bool 13 rfl (fun hb13 => ?_) (fun hb13 => ?_)
    · -- t13 is True
      try replace hb13 := of_decide_eq_true hb13
      refine Wl.gF rfl rfl rfl ?_
      refine Wl.gF rfl rfl rfl ?_
      refine Wl.val rfl (V.pickT rfl rfl) ?_
      refine Wl.val rfl (V.assign rfl) ?_
      refine Wl.nil ?_
      refine Wx.then_n ?_
      refine Wc.ret ?_
      repeat (first | refine Wx.then_r ?_ | refine Wx.blk_r ?_ | refine Wx.ng_r ?_)
      refine Wx.ret1 rfl rfl rfl ?_
      exact Ent.resC (by rw [cWrong, ← oddV_any]; simp only [*, decide_true, decide_false, Bool.true_or, Bool.false_or, Bool.or_true, Bool.or_false, Bool.not_true, Bool.not_false])
    · -- t13 is False
      try replace hb13 := of_decide_eq_false hb13
      refine Wl.gT rfl rfl ?_
      refine Wl.val rfl (V.move rfl) ?_
      refine Wl.gT rfl rfl ?_
      first | refine Wl.callE rfl rfl (s_slices_ContainsFunc_int64 hl (p := oddV) (by intro x hx; obtain ⟨t, _, rfl⟩ := List.mem_map.1 hx; exact s_cache_odd t)) ?_ | refine Wl.callD rfl rfl (s_slices_ContainsFunc_int64 hl (p := oddV) (by intro x hx; obtain ⟨t, _, rfl⟩ := List.mem_map.1 hx; exact s_cache_odd t)) (by first | exact Take.here | exact Take.there Take.here | exact Take.there (Take.there Take.here) | exact Take.there (Take.there (Take.there Take.here)) | exact Take.none _ | exact TakeC.t | exact Take.there (Take.there (Take.there (Take.there Take.here))) | exact Take.there (Take.there (Take.there (Take.there (Take.there Take.here)))) | exact Take.there (Take.there (Take.there (Take.there (Take.there (Take.there Take.here)))))) ?_
      refine Wl.val rfl (V.pickF rfl rfl) ?_
      refine Wl.val rfl (V.assign rfl) ?_
      refine Wl.nil ?_
      refine Wx.then_n ?_
      refine Wc.ret ?_
      repeat (first | refine Wx.then_r ?_ | refine Wx.blk_r ?_ | refine Wx.ng_r ?_)
      refine Wx.ret1 rfl rfl rfl ?_
      exact Ent.resC (by rw [cWrong, ← oddV_any]; simp only [*, decide_true, decide_false, Bool.true_or, Bool.false_or, Bool.or_true, Bool.or_false, Bool.not_true, Bool.not_false])
theorem s_cache_Cache_Clean (cc d : Nat) {D : DevM} {C : CacheM} (hC : CacheOk D C) (b : Int) (v : Ver) (hv : verOk v) : Ctr P f_cache_Cache_Clean [ptr cc, i64 b, .agg (verV v).toArray] (Cache cc d C * Dev d D) (fun r => pu (r = i64 (cClean D C b v).2.2) * (Cache cc d (cClean D C b v).2.1 * Dev d (cClean D C b v).1)) := by
  refine Ctr.of_body (m := 41) fn_cache_Cache_Clean rfl rfl rfl rfl rfl (fun F g => ?_)
  refine Wc.assoc (Wc.cache (fun lp me mp => ?_))
  refine Wc.seq ?_
  refine Wc.region ?_
  refine Wl.al rfl (M.box (l := verV v) rfl rfl) (fun r5 => ?_)
  refine Wl.val rfl (V.assign rfl) ?_
  refine Wl.nil ?_
  refine Wx.then_n ?_
  refine Wc.seq ?_
  refine Wc.region ?_
  refine Wl.val rfl (V.move rfl) ?_
  refine Wl.val rfl (V.nil rfl) ?_
  refine Wl.val rfl (V.fld _ rfl O_cache_Cache_3 rfl) ?_
  refine Wl.val rfl (V.ld rfl C_Mint_api_Entry rfl) ?_
  refine Wl.val rfl (V.move rfl) ?_
  refine Wl.val rfl (V.lookE (l := amap etyA C.entries) (v := etyA ((afind C.entries b).getD ety0)) (b := (afind C.entries b).isSome) rfl rfl K_Mint_api_Entry V0_api_Entry TakeC.t (by rw [kfind_amap]; cases afind C.entries b <;> rfl) (by rw [kfind_amap]; cases afind C.entries b <;> rfl)) ?_
  refine Wl.val rfl (V.move rfl) ?_
  refine Wl.val rfl (V.ext rfl rfl) ?_
  refine Wl.val rfl (V.ext rfl rfl) ?_
  refine Wl.al rfl (M.alloc N_api_Entry) (fun r7 => ?_)
  refine Wl.st (Go.Sl.S.putA (vs := etyV ((afind C.entries b).getD ety0)) rfl rfl C_api_Entry rfl rfl rfl rfl) ?_
  refine Wl.val rfl (V.assign rfl) ?_
  refine Wl.nil ?_
  refine Wx.then_n ?_
  refine Wc.seq ?_
  refine Wc.block ?_
  refine Wc.seq ?_
  refine Wc.region ?_
  refine Wl.val rfl (V.move rfl) ?_
  refine Wl.val rfl (V.not rfl) ?_
  refine Wl.val rfl (V.move rfl) ?_
  refine Wl.bool 21 rfl (fun hb21 => ?_) (fun hb21 => ?_)
  · -- t21 is True
    try replace hb21 := of_decide_eq_true hb21
    refine Wl.gF rfl rfl rfl ?_
    refine Wl.gF rfl rfl rfl ?_
    refine Wl.gF rfl rfl rfl ?_
    refine Wl.gF rfl rfl rfl ?_
    refine Wl.val rfl (V.pickT rfl rfl) ?_
    refine Wl.val rfl (V.assign rfl) ?_
    refine Wl.nil ?_
    refine Wx.then_n ?_
    refine Wc.condT rfl ?_
    refine Wc.seq ?_
    refine Wc.region ?_
    refine Wl.val rfl (V.assign rfl) ?_
    refine Wl.nil ?_
    refine Wx.then_n ?_
    refine Wc.ret ?_
    repeat (first | refine Wx.then_r ?_ | refine Wx.blk_r ?_ | refine Wx.ng_r ?_)
    refine Wx.ret1 rfl rfl rfl ?_
    have hf : afind C.entries b = none := by cases h : afind C.entries b <;> simp_all
    rw [show cClean D C b v = (D, C, 10) by unfold cClean; rw [hf]]
    exact Ent.cacheP (lp := lp) (me := me) (mp := mp) rfl
  · -- t21 is False
    try replace hb21 := of_decide_eq_false hb21
    refine Wl.gT rfl rfl ?_
    refine Wl.val rfl (V.fld _ rfl O_api_Entry_1 rfl) ?_
    refine Wl.gT rfl rfl ?_
    refine Wl.val rfl (V.ldA (vs := verV ((afind C.entries b).getD ety0).v) rfl C_api_Version rfl) ?_
    refine Wl.gT rfl rfl ?_
    refine Wl.val rfl (V.ldA (vs := verV v) rfl C_api_Version rfl) ?_
    refine Wl.gT rfl rfl ?_
    refine Wl.val rfl (V.neqV rfl rfl ⟨⟨_, rfl⟩, _, rfl⟩ rfl G_api_Version E_api_Version) ?_
    refine Wl.val rfl (V.pickF rfl rfl) ?_
    refine Wl.val rfl (V.assign rfl) ?_
    refine Wl.nil ?_
    refine Wx.then_n ?_
    refine Wc.cond rfl (fun hc1 => ?_) (fun hc1 => ?_)
    · skip
      try replace hc1 := of_decide_eq_true hc1
      refine Wc.seq ?_
      refine Wc.region ?_
      refine Wl.val rfl (V.assign rfl) ?_
      refine Wl.nil ?_
      refine Wx.then_n ?_
      refine Wc.ret ?_
      repeat (first | refine Wx.then_r ?_ | refine Wx.blk_r ?_ | refine Wx.ng_r ?_)
      refine Wx.ret1 rfl rfl rfl ?_
      obtain ⟨e, hf⟩ : ∃ e, afind C.entries b = some e := by cases h : afind C.entries b <;> simp_all
      have hne : e.v ≠ v := by rintro rfl; rw [hf] at hc1; simp at hc1
      rw [show cClean D C b v = (D, C, 10) by unfold cClean; rw [hf]; dsimp only; rw [if_pos hne]]
      exact Ent.cacheP (lp := lp) (me := me) (mp := mp) rfl
    · skip
      try replace hc1 := of_decide_eq_false hc1
      obtain ⟨e, hf⟩ : ∃ e, afind C.entries b = some e := by cases h : afind C.entries b <;> simp_all
      have hne : ¬ e.v ≠ v := by
        rw [hf] at hc1
        simp only [Option.getD_some, Bool.and_true, Bool.not_eq_false', Bool.and_eq_true, decide_eq_true_eq] at hc1
        intro hne; exact hne (by cases hv : e.v; cases v; simp_all)
      refine Wc.seq ?_
      refine Wc.region ?_
      refine Wl.val rfl (V.fld _ rfl O_api_Entry_3 rfl) ?_
      refine Wl.val rfl (V.ld rfl C_bool rfl) ?_
      refine Wl.val rfl (V.not rfl) ?_
      refine Wl.val rfl (V.assign rfl) ?_
      refine Wl.nil ?_
      refine Wx.then_n ?_
      refine Wc.cond rfl (fun hc2 => ?_) (fun hc2 => ?_)
      · skip
        try replace hc2 := of_decide_eq_true hc2
        refine Wc.seq ?_
        refine Wc.region ?_
        refine Wl.val rfl (V.assign rfl) ?_
        refine Wl.nil ?_
        refine Wx.then_n ?_
        refine Wc.ret ?_
        repeat (first | refine Wx.then_r ?_ | refine Wx.blk_r ?_ | refine Wx.ng_r ?_)
        refine Wx.ret1 rfl rfl rfl ?_
        rw [hf] at hc2
        have hc2 : (!e.dirty) = true := hc2
        rw [show cClean D C b v = (D, C, 0) by unfold cClean; rw [hf]; dsimp only; rw [if_neg hne, if_pos hc2]]
        exact Ent.cacheP (lp := lp) (me := me) (mp := mp) rfl
      · skip
        try replace hc2 := of_decide_eq_false hc2
        rw [hf] at hc2
        have hcl : cClean D C b v = cCome D C (.clean b v) C.kept := by unfold cClean; rw [hf]; dsimp only; rw [if_neg hne, if_neg (by rw [show (!e.dirty) = false from hc2]; decide)]
        obtain ⟨he1, he2⟩ := entOf hC hf
        have hw : whatOk C.blocks (.clean b v) := ⟨by rw [← he1]; exact he2.1, hv⟩
        refine Wc.skip ?_
        refine Wx.blk_n ?_
        refine Wx.then_n ?_
        refine Wc.seq ?_
        refine Wc.draws 9 mixed (by kernel_rfl) (S := _) (M := emp) (Ent.empR _) ?_
        refine Wr.take [0, 1, 2, 3, 4, 5, 6, 7, 8] 0 (by kernel_rfl) (by kernel_rfl) rfl rfl ?_
        refine Wt.val rfl (V.move rfl) ?_
        refine Wt.val rfl (V.move rfl) ?_
        refine Wt.val rfl (V.ldA (vs := verV v) rfl C_api_Version rfl) ?_
        refine Wt.val rfl (V.build B_cache_clean rfl rfl) ?_
        refine Wt.val rfl (V.mkIface rfl I_cache_clean) ?_
        refine Wt.val rfl (V.move rfl) ?_
        refine Wt.val rfl (V.nil rfl) ?_
        refine Wt.val rfl (V.fld _ rfl O_cache_Cache_5 rfl) ?_
        refine Wt.val rfl (V.ldA (vs := keptV C.kept) rfl C_cache_kept rfl) ?_
        refine Wt.nil ?_
        refine Wr.tail (by kernel_rfl) rfl ?_
        refine Wl.ent (H' := Cache cc d C * (Dev d D * F)) (Ent.cache (lp := lp) (me := me) (mp := mp)) ?_
        first | refine Wl.callE rfl rfl (s_cache_Cache_come cc d hC (.clean b v) C.kept hw hC.kept) ?_ | refine Wl.callD rfl rfl (s_cache_Cache_come cc d hC (.clean b v) C.kept hw hC.kept) (by first | exact Take.here | exact Take.there Take.here | exact Take.there (Take.there Take.here) | exact Take.there (Take.there (Take.there Take.here)) | exact Take.none _ | exact TakeC.t | exact Take.there (Take.there (Take.there (Take.there Take.here))) | exact Take.there (Take.there (Take.there (Take.there (Take.there Take.here)))) | exact Take.there (Take.there (Take.there (Take.there (Take.there (Take.there Take.here)))))) ?_
        refine Wl.val rfl (V.assign rfl) ?_
        refine Wl.nil ?_
        refine Wx.then_n ?_
        refine Wc.ret ?_
        repeat (first | refine Wx.then_r ?_ | refine Wx.blk_r ?_ | refine Wx.ng_r ?_)
        refine Wx.ret1 rfl rfl rfl ?_
        rw [hcl]; exact Ent.resC rfl
theorem s_cache_Cache_Drop (cc d : Nat) {D : DevM} {C : CacheM} (hC : CacheOk D C) (b : Int) : Ctr P f_cache_Cache_Drop [ptr cc, i64 b] (Cache cc d C * Dev d D) (fun r => pu (r = i64 (cDrop D C b).2.2) * (Cache cc d (cDrop D C b).2.1 * Dev d (cDrop D C b).1)) := by
  refine Ctr.of_body (m := 27) fn_cache_Cache_Drop rfl rfl rfl rfl rfl (fun F g => ?_)
  refine Wc.assoc (Wc.cache (fun lp me mp => ?_))
  refine Wc.seq ?_
  refine Wc.region ?_
  refine Wl.val rfl (V.assign rfl) ?_
  refine Wl.nil ?_
  refine Wx.then_n ?_
  refine Wc.seq ?_
  refine Wc.seq ?_
  refine Wc.region ?_
  refine Wl.val rfl (V.move rfl) ?_
  refine Wl.val rfl (V.nil rfl) ?_
  refine Wl.val rfl (V.fld _ rfl O_cache_Cache_3 rfl) ?_
  refine Wl.val rfl (V.ld rfl C_Mint_api_Entry rfl) ?_
  refine Wl.val rfl (V.move rfl) ?_
  refine Wl.val rfl (V.lookE (l := amap etyA C.entries) (v := etyA ((afind C.entries b).getD ety0)) (b := (afind C.entries b).isSome) rfl rfl K_Mint_api_Entry V0_api_Entry TakeC.t (by rw [kfind_amap]; cases afind C.entries b <;> rfl) (by rw [kfind_amap]; cases afind C.entries b <;> rfl)) ?_
  refine Wl.val rfl (V.move rfl) ?_
  refine Wl.val rfl (V.ext rfl rfl) ?_
  refine Wl.val rfl (V.ext rfl rfl) ?_
  refine Wl.al rfl (M.alloc N_api_Entry) (fun r5 => ?_)
  refine Wl.st (Go.Sl.S.putA (vs := etyV ((afind C.entries b).getD ety0)) rfl rfl C_api_Entry rfl rfl rfl rfl) ?_
  refine Wl.val rfl (V.assign rfl) ?_
  refine Wl.nil ?_
  refine Wx.then_n ?_
  refine Wc.seq ?_
  refine Wc.region ?_
  refine Wl.val rfl (V.move rfl) ?_
  refine Wl.val rfl (V.not rfl) ?_
  refine Wl.nil ?_
  refine Wx.then_n ?_
  refine Wc.cond rfl (fun hc1 => ?_) (fun hc1 => ?_)
  · skip
    try replace hc1 := of_decide_eq_true hc1
    refine Wc.seq ?_
    refine Wc.region ?_
    refine Wl.val rfl (V.assign rfl) ?_
    refine Wl.nil ?_
    refine Wx.then_n ?_
    refine Wc.ret ?_
    repeat (first | refine Wx.then_r ?_ | refine Wx.blk_r ?_ | refine Wx.ng_r ?_)
    refine Wx.ret1 rfl rfl rfl ?_
    have hf : (afind C.entries b).isSome = false := by simpa using hc1
    rw [show cDrop D C b = (D, C, 10) by unfold cDrop; rw [if_neg (by rw [hf]; decide)]]
    exact Ent.cacheP (lp := lp) (me := me) (mp := mp) rfl
  · skip
    try replace hc1 := of_decide_eq_false hc1
    have hf : (afind C.entries b).isSome = true := by simpa using hc1
    have hcl : cDrop D C b = cCome D C (.drop b) C.kept := by unfold cDrop; rw [if_pos hf]
    obtain ⟨e, hfe⟩ := Option.isSome_iff_exists.1 hf
    obtain ⟨he1, he2⟩ := entOf hC hfe
    have hw : whatOk C.blocks (.drop b) := by show 0 ≤ b ∧ b < C.blocks; rw [← he1]; exact he2.1
    refine Wc.skip ?_
    refine Wx.then_n ?_
    refine Wc.seq ?_
    refine Wc.region ?_
    refine Wl.val rfl (V.move rfl) ?_
    refine Wl.val rfl (V.move rfl) ?_
    refine Wl.val rfl (V.build B_cache_drop rfl rfl) ?_
    refine Wl.val rfl (V.mkIface rfl I_cache_drop) ?_
    refine Wl.val rfl (V.move rfl) ?_
    refine Wl.val rfl (V.nil rfl) ?_
    refine Wl.val rfl (V.fld _ rfl O_cache_Cache_5 rfl) ?_
    refine Wl.val rfl (V.ldA (vs := keptV C.kept) rfl C_cache_kept rfl) ?_
    refine Wl.ent (H' := Cache cc d C * (Dev d D * F)) (Ent.cache (lp := lp) (me := me) (mp := mp)) ?_
    refine Wl.callD rfl rfl (s_cache_Cache_come cc d hC (.drop b) C.kept hw hC.kept) (Take.two Take.here Take.here) ?_
    refine Wl.val rfl (V.assign rfl) ?_
    refine Wl.nil ?_
    refine Wx.then_n ?_
    refine Wc.ret ?_
    repeat (first | refine Wx.then_r ?_ | refine Wx.blk_r ?_ | refine Wx.ng_r ?_)
    refine Wx.ret1 rfl rfl rfl ?_
    rw [hcl]; exact Ent.resC rfl
theorem s_cache_Cache_Reset (cc d : Nat) {D : DevM} {C : CacheM} (hC : CacheOk D C) (v : Ver) (hv : verOk v) {S : HP} {lv : Value} (l : List Int) (hl : Vw S lv 1 l.length (numsV l)) (hlI : ∀ n ∈ l, I64 n) : Ctr P f_cache_Cache_Reset [ptr cc, .agg (verV v).toArray, lv] (Cache cc d C * (Dev d D * S)) (fun r => pu (r = i64 (cReset D C v l).2.2) * (Cache cc d (cReset D C v l).2.1 * (Dev d (cReset D C v l).1 * S))) := by
  refine Ctr.of_body (m := 22) fn_cache_Cache_Reset rfl rfl rfl rfl rfl (fun F g => ?_)
  refine Wc.ent (H' := Cache cc d C * (Dev d D * (S * F))) Ent.auto ?_
  refine Wc.seq ?_
  refine Wc.region ?_
  refine Wl.al rfl (M.box (l := verV v) rfl rfl) (fun r4 => ?_)
  refine Wl.val rfl (V.assign rfl) ?_
  refine Wl.nil ?_
  refine Wx.then_n ?_
  refine Wc.seq ?_
  refine Wc.seq ?_
  refine Wc.region ?_
  refine Wl.val rfl (V.ldA (vs := verV v) rfl C_api_Version rfl) ?_
  refine Wl.val rfl (V.move rfl) ?_
  first | refine Wl.callE rfl rfl (s_cache_wrong v l hl) ?_ | refine Wl.callD rfl rfl (s_cache_wrong v l hl) (by first | exact Take.here | exact Take.there Take.here | exact Take.there (Take.there Take.here) | exact Take.there (Take.there (Take.there Take.here)) | exact Take.none _ | exact TakeC.t | exact Take.there (Take.there (Take.there (Take.there Take.here))) | exact Take.there (Take.there (Take.there (Take.there (Take.there Take.here)))) | exact Take.there (Take.there (Take.there (Take.there (Take.there (Take.there Take.here)))))) ?_
  refine Wl.nil ?_
  refine Wx.then_n ?_
  refine Wc.cond rfl (fun hc1 => ?_) (fun hc1 => ?_)
  · skip
    try replace hc1 := of_decide_eq_true hc1
    refine Wc.seq ?_
    refine Wc.region ?_
    refine Wl.val rfl (V.assign rfl) ?_
    refine Wl.nil ?_
    refine Wx.then_n ?_
    refine Wc.ret ?_
    repeat (first | refine Wx.then_r ?_ | refine Wx.blk_r ?_ | refine Wx.ng_r ?_)
    refine Wx.ret1 rfl rfl rfl ?_
    rw [cReset, if_pos hc1]; exact Ent.resC rfl
  · skip
    try replace hc1 := of_decide_eq_false hc1
    have hcr : cReset D C v l = cCome D C .note ⟨v, tabOf l⟩ := by rw [cReset, if_neg (by rw [hc1]; decide)]
    have hl4 : l.length = 4 := by simp only [cWrong, Bool.or_eq_false_iff, Bool.not_eq_false', decide_eq_true_eq] at hc1; omega
    have hnv := tabOf_nums hl4
    have hko : keptOk ⟨v, tabOf l⟩ := ⟨hv, getD_I64 hlI 0, getD_I64 hlI 1, getD_I64 hlI 2, getD_I64 hlI 3⟩
    refine Wc.skip ?_
    refine Wx.then_n ?_
    refine Wc.seq ?_
    refine Wc.region ?_
    refine Wl.val rfl (V.ldA (vs := verV v) rfl C_api_Version rfl) ?_
    refine Wl.val rfl (V.build B_cache_kept rfl rfl) ?_
    refine Wl.al rfl (M.alloc N_cache_kept) (fun r7 => ?_)
    refine Wl.st (Go.Sl.S.putA rfl rfl C_cache_kept rfl rfl rfl rfl) ?_
    refine Wl.nil ?_
    refine Wx.then_n ?_
    refine Wc.seq ?_
    refine Wc.region ?_
    refine Wl.val rfl (V.fld _ rfl O_cache_kept_1 rfl) ?_
    refine Wl.val rfl (V.sliceA (l := 0) (h := 4) rfl U_A4int64 Z_int64 rfl rfl rfl rfl (by decide) (by decide)) ?_
    refine Wl.val rfl (V.move rfl) ?_
    refine Wl.exo rfl (X.copy (k := 4) (sn := l.length) (dn := 4) (o := 2) rfl rfl rfl U_Sint64 Z_int64 (Src.vw U_Sint64 hl (numsV_one l)) (by omega) (by simp)) (fun v16 => ?_)
    refine Wl.pull (fun _ => ?_)
    rw [hnv, putAt_tab2]
    refine Wl.nil ?_
    refine Wx.then_n ?_
    refine Wc.seq ?_
    refine Wc.region ?_
    refine Wl.val rfl (V.move rfl) ?_
    refine Wl.val rfl (V.build B_cache_note rfl rfl) ?_
    refine Wl.val rfl (V.mkIface rfl I_cache_note) ?_
    refine Wl.val rfl (V.ldA (vs := keptV ⟨v, tabOf l⟩) rfl C_cache_kept rfl) ?_
    refine Wl.ent (H' := Cache cc d C * (Dev d D * (S * F))) Ent.auto ?_
    refine Wl.callD rfl rfl (s_cache_Cache_come cc d hC .note ⟨v, tabOf l⟩ trivial hko) (Take.two Take.here Take.here) ?_
    refine Wl.val rfl (V.assign rfl) ?_
    refine Wl.nil ?_
    refine Wx.then_n ?_
    refine Wc.ret ?_
    repeat (first | refine Wx.then_r ?_ | refine Wx.blk_r ?_ | refine Wx.ng_r ?_)
    refine Wx.ret1 rfl rfl rfl ?_
    rw [hcr]; exact Ent.resC rfl
theorem s_cache_Cache_Note (cc d : Nat) {D : DevM} {C : CacheM} (hC : CacheOk D C) (v : Ver) (hv : verOk v) {S : HP} {lv : Value} (l : List Int) (hl : Vw S lv 1 l.length (numsV l)) (hlI : ∀ n ∈ l, I64 n) : Ctr P f_cache_Cache_Note [ptr cc, .agg (verV v).toArray, lv] (Cache cc d C * (Dev d D * S)) (fun r => pu (r = i64 (cNote D C v l).2.2) * (Cache cc d (cNote D C v l).2.1 * (Dev d (cNote D C v l).1 * S))) := by
  refine Ctr.of_body (m := 45) fn_cache_Cache_Note rfl rfl rfl rfl rfl (fun F g => ?_)
  refine Wc.ent (H' := Cache cc d C * (Dev d D * (S * F))) Ent.auto ?_
  refine Wc.seq ?_
  refine Wc.region ?_
  refine Wl.al rfl (M.box (l := verV v) rfl rfl) (fun r4 => ?_)
  refine Wl.val rfl (V.assign rfl) ?_
  refine Wl.nil ?_
  refine Wx.then_n ?_
  refine Wc.seq ?_
  refine Wc.seq ?_
  refine Wc.region ?_
  refine Wl.val rfl (V.ldA (vs := verV v) rfl C_api_Version rfl) ?_
  refine Wl.val rfl (V.move rfl) ?_
  first | refine Wl.callE rfl rfl (s_cache_wrong v l hl) ?_ | refine Wl.callD rfl rfl (s_cache_wrong v l hl) (by first | exact Take.here | exact Take.there Take.here | exact Take.there (Take.there Take.here) | exact Take.there (Take.there (Take.there Take.here)) | exact Take.none _ | exact TakeC.t | exact Take.there (Take.there (Take.there (Take.there Take.here))) | exact Take.there (Take.there (Take.there (Take.there (Take.there Take.here)))) | exact Take.there (Take.there (Take.there (Take.there (Take.there (Take.there Take.here)))))) ?_
  refine Wl.nil ?_
  refine Wx.then_n ?_
  refine Wc.cond rfl (fun hc1 => ?_) (fun hc1 => ?_)
  · skip
    try replace hc1 := of_decide_eq_true hc1
    refine Wc.seq ?_
    refine Wc.region ?_
    refine Wl.val rfl (V.assign rfl) ?_
    refine Wl.nil ?_
    refine Wx.then_n ?_
    refine Wc.ret ?_
    repeat (first | refine Wx.then_r ?_ | refine Wx.blk_r ?_ | refine Wx.ng_r ?_)
    refine Wx.ret1 rfl rfl rfl ?_
    rw [cNote, if_pos hc1]; exact Ent.resC rfl
  · skip
    try replace hc1 := of_decide_eq_false hc1
    have hcr : cNote D C v l = cCome D C .note (noteKept C v l) := by rw [cNote, if_neg (by rw [hc1]; decide)]
    have hl4 : l.length = 4 := by simp only [cWrong, Bool.or_eq_false_iff, Bool.not_eq_false', decide_eq_true_eq] at hc1; omega
    have hko : keptOk (noteKept C v l) := noteKept_ok hC hv hlI
    refine Wc.ent (H' := Cache cc d C * (row r4 T_api_Version (verV v) * (Dev d D * (S * F)))) Ent.auto (Wc.cache (fun lp me mp => ?_))
    refine Wc.skip ?_
    refine Wx.then_n ?_
    refine Wc.seq ?_
    refine Wc.region ?_
    refine Wl.val rfl (V.move rfl) ?_
    refine Wl.val rfl (V.nil rfl) ?_
    refine Wl.val rfl (V.fld _ rfl O_cache_Cache_5 rfl) ?_
    refine Wl.val rfl (V.ldA (vs := keptV C.kept) rfl C_cache_kept rfl) ?_
    refine Wl.al rfl (M.alloc N_cache_kept) (fun r7 => ?_)
    refine Wl.st (Go.Sl.S.putA rfl rfl C_cache_kept rfl rfl rfl rfl) ?_
    refine Wl.nil ?_
    refine Wx.then_n ?_
    refine Wc.cut (row r7 T_cache_kept (keptV ⟨(noteKept C v l).last, C.kept.t⟩) * (Cache cc d C * (Dev d D * (S * F)))) ([(0, ptr cc), (2, lv), (7, ptr r7)]) ?_ ?_
    · skip
      refine Wc.seq ?_
      refine Wc.region ?_
      refine Wl.val rfl (V.ldA (vs := verV v) rfl C_api_Version rfl) ?_
      refine Wl.val rfl (V.fld _ rfl O_cache_kept_0 rfl) ?_
      refine Wl.val rfl (V.ldA (vs := verV C.kept.last) rfl C_api_Version rfl) ?_
      first | refine Wl.callE rfl rfl (s_cache_above v C.kept.last) ?_ | refine Wl.callD rfl rfl (s_cache_above v C.kept.last) (by first | exact Take.here | exact Take.there Take.here | exact Take.there (Take.there Take.here) | exact Take.there (Take.there (Take.there Take.here)) | exact Take.none _ | exact TakeC.t | exact Take.there (Take.there (Take.there (Take.there Take.here))) | exact Take.there (Take.there (Take.there (Take.there (Take.there Take.here)))) | exact Take.there (Take.there (Take.there (Take.there (Take.there (Take.there Take.here)))))) ?_
      refine Wl.nil ?_
      refine Wx.then_n ?_
      refine Wc.cond rfl (fun hc2 => ?_) (fun hc2 => ?_)
      · skip
        try replace hc2 := of_decide_eq_true hc2
        refine Wc.region ?_
        refine Wl.val rfl (V.ldA (vs := verV v) rfl C_api_Version rfl) ?_
        refine Wl.val rfl (V.fld _ rfl O_cache_kept_0 rfl) ?_
        refine Wl.st (Go.Sl.S.putA rfl rfl C_api_Version rfl rfl rfl rfl) ?_
        refine Wl.nil ?_
        have hk : (noteKept C v l).last = v := by unfold noteKept; rw [if_pos hc2]
        rw [hk]
        exact Wx.cutn ((Ent.cache (cc := cc) (d := d) (M := C) (lp := lp) (me := me) (mp := mp) (F := row r7 T_cache_kept (keptV ⟨v, C.kept.t⟩) * (Dev d D * (S * F)))).trans Ent.auto) ⟨rfl, rfl, rfl, trivial⟩
      · skip
        try replace hc2 := of_decide_eq_false hc2
        refine Wc.skip ?_
        have hk : (noteKept C v l).last = C.kept.last := by unfold noteKept; rw [if_neg (by rw [hc2]; decide)]
        rw [hk]
        exact Wx.cutn ((Ent.cache (cc := cc) (d := d) (M := C) (lp := lp) (me := me) (mp := mp) (F := row r7 T_cache_kept (keptV ⟨C.kept.last, C.kept.t⟩) * (Dev d D * (S * F)))).trans Ent.auto) ⟨rfl, rfl, rfl, trivial⟩
    · skip
      refine Wc.seq ?_
      refine Wc.seq ?_
      refine Wc.region ?_
      refine Wl.val rfl (V.move rfl) ?_
      refine Wl.val rfl (V.lenW rfl U_Sint64 hl) ?_
      refine Wl.val rfl (V.move rfl) ?_
      refine Wl.nil ?_
      refine Wx.then_n ?_
      refine Wc.block ?_
      refine Wc.loop (α := Nat) (fun x => 4 - x) (fun x => pu (x ≤ 4) * (row r7 T_cache_kept (keptV ⟨(noteKept C v l).last, tabMaxN C.kept.t l x⟩) * (Cache cc d C * (Dev d D * (S * F))))) (fun x => [(0, ptr cc), (7, ptr r7), (23, lv), (24, i64 (l.length : Nat)), (25, i64 (x : Nat))]) 0 (by exact (by exact Ent.pure (Nat.zero_le _))) (by repeat (first | exact trivial | refine ⟨rfl, ?_⟩)) (fun x => ?_)
      refine Wc.pu (fun hx => ?_)
      refine Wc.seq ?_
      refine Wc.region ?_
      refine Wl.val rfl (V.lss rfl rfl) ?_
      refine Wl.nil ?_
      refine Wx.then_n ?_
      refine Wc.seq ?_
      refine Wc.cond rfl (fun hc3 => ?_) (fun hc3 => ?_)
      · skip
        try replace hc3 := of_decide_eq_true hc3
        have hx4 : x < 4 := by omega
        refine Wc.skip ?_
        refine Wx.then_n ?_
        refine Wc.seq ?_
        refine Wc.block ?_
        refine Wc.seq ?_
        refine Wc.region ?_
        refine Wl.val rfl (V.move rfl) ?_
        refine Wl.val rfl (V.idxW rfl rfl U_Sint64 Z_int64 hl (by omega) (by omega)) ?_
        refine Wl.val rfl (V.ldW (u := i64 (l.getD x 0)) rfl C_int64 hl (by rw [show (x : Int).toNat * 1 = x by omega]; exact nums_at (by omega))) ?_
        refine Wl.val rfl (V.assign rfl) ?_
        refine Wl.val rfl (V.assign rfl) ?_
        refine Wl.nil ?_
        refine Wx.then_n ?_
        refine Wc.region ?_
        refine Wl.val rfl (V.move rfl) ?_
        refine Wl.val rfl (V.move rfl) ?_
        refine Wl.val rfl (V.fld _ rfl O_cache_kept_1 rfl) ?_
        refine Wl.val rfl (V.idxA rfl rfl U_A4int64 Z_int64 (by first | decide | omega) (by first | decide | omega) rfl) ?_
        refine Wl.val rfl (V.ld (v := i64 (tabGet (tabMaxN C.kept.t l x) (x : Int))) rfl C_int64 (tab_ix2 (i := (x : Int)) (by omega) (by omega) (by omega))) ?_
        refine Wl.val rfl (V.move rfl) ?_
        refine Wl.val rfl (V.mx rfl rfl) ?_
        refine Wl.val rfl (V.fld _ rfl O_cache_kept_1 rfl) ?_
        refine Wl.val rfl (V.idxA rfl rfl U_A4int64 Z_int64 (by first | decide | omega) (by first | decide | omega) rfl) ?_
        refine Wl.st (Go.Sl.S.put rfl rfl C_int64 rfl (tab_upd2 (i := (x : Int)) (by omega) (by omega) (by omega))) ?_
        refine Wl.nil ?_
        refine Wx.blk_n ?_
        refine Wx.then_n ?_
        refine Wc.region ?_
        refine Wl.val rfl (V.addk rfl rfl (wr64 (by omega) (by omega))) ?_
        refine Wl.val rfl (V.move rfl) ?_
        refine Wl.nil ?_
        skip
        refine Wx.again (x + 1) (by exact (by show 4 - (x + 1) < 4 - x; omega)) (by exact (by show Ent _ (pu (x + 1 ≤ 4) * (row r7 T_cache_kept (keptV ⟨(noteKept C v l).last, tabMaxN C.kept.t l (x + 1)⟩) * (Cache cc d C * (Dev d D * (S * F))))); rw [show tabMaxN C.kept.t l (x + 1) = tabSet (tabMaxN C.kept.t l x) (x : Int) (max (tabGet (tabMaxN C.kept.t l x) (x : Int)) (l.getD x 0)) from rfl]; exact Ent.puC (by omega))) (by repeat (first | exact trivial | refine ⟨rfl, ?_⟩))
      · skip
        try replace hc3 := of_decide_eq_false hc3
        have hx4 : x = 4 := by omega
        subst hx4
        rw [tabMaxN_all]
        refine Wc.exit ?_
        refine Wx.then_x ?_
        refine Wx.then_x ?_
        refine Wx.blk_x ?_
        refine Wx.then_n ?_
        refine Wc.seq ?_
        refine Wc.region ?_
        refine Wl.val rfl (V.move rfl) ?_
        refine Wl.val rfl (V.build B_cache_note rfl rfl) ?_
        refine Wl.val rfl (V.mkIface rfl I_cache_note) ?_
        refine Wl.val rfl (V.ldA (vs := keptV (noteKept C v l)) rfl C_cache_kept rfl) ?_
        refine Wl.ent (H' := Cache cc d C * (Dev d D * (S * F))) Ent.auto ?_
        refine Wl.callD rfl rfl (s_cache_Cache_come cc d hC .note (noteKept C v l) trivial hko) (Take.two Take.here Take.here) ?_
        refine Wl.val rfl (V.assign rfl) ?_
        refine Wl.nil ?_
        refine Wx.then_n ?_
        refine Wc.ret ?_
        repeat (first | refine Wx.then_r ?_ | refine Wx.blk_r ?_ | refine Wx.ng_r ?_)
        refine Wx.ret1 rfl rfl rfl ?_
        rw [hcr]; exact Ent.resC rfl
theorem s_cache_Open (d : Nat) {D : DevM} (hD : DevOk D) (hal : D.dead = false) (first n a b : Nat) (blocks : Int) (hbI : I64 blocks) (hn : 2 ≤ n) (hf : first + n ≤ D.l.length) (hab : a ≠ b) (ha : a < D.l.length) (hb : b < D.l.length) (hra : a < first ∨ first + n ≤ a) (hrb : b < first ∨ first + n ≤ b) :
  Ctr P f_cache_Open [ptr d, i64 (first : Nat), i64 (n : Nat), i64 (a : Nat), i64 (b : Nat), i64 blocks] (Dev d D) (fun v => ex fun (o : Option Nat) => pu (v = .tuple #[optP o, i64 (cOpen D first n a b blocks).2.2] ∧ (o.isSome = true ↔ (cOpen D first n a b blocks).2.2 = 0)) * (optH (fun cc => Cache cc d (cOpen D first n a b blocks).2.1) o * Dev d (cOpen D first n a b blocks).1)) := by
  have hdn := hD.n
  refine Ctr.of_body (m := 75) fn_cache_Open rfl rfl rfl rfl rfl (fun F g => ?_)
  refine Wc.seq ?_
  refine Wc.region ?_
  refine Wl.val rfl (V.assign rfl) ?_
  refine Wl.val rfl (V.assign rfl) ?_
  refine Wl.nil ?_
  refine Wx.then_n ?_
  refine Wc.seq ?_
  refine Wc.seq ?_
  refine Wc.region ?_
  refine Wl.val rfl (V.move rfl) ?_
  refine Wl.val rfl (V.lss rfl rfl) ?_
  refine Wl.val rfl (V.move rfl) ?_
  refine Wl.bool 23 rfl (fun hb23 => ?_) (fun hb23 => ?_)
  · -- t23 is True
    try replace hb23 := of_decide_eq_true hb23
    refine Wl.gF rfl rfl rfl ?_
    refine Wl.gF rfl rfl rfl ?_
    refine Wl.val rfl (V.pickT rfl rfl) ?_
    refine Wl.val rfl (V.move rfl) ?_
    refine Wl.gF rfl rfl rfl ?_
    refine Wl.gF rfl rfl rfl ?_
    refine Wl.val rfl (V.pickT rfl rfl) ?_
    refine Wl.nil ?_
    refine Wx.then_n ?_
    refine Wc.condT rfl ?_
    refine Wc.seq ?_
    refine Wc.region ?_
    refine Wl.val rfl (V.assign rfl) ?_
    refine Wl.val rfl (V.assign rfl) ?_
    refine Wl.nil ?_
    refine Wx.then_n ?_
    refine Wc.ret ?_
    repeat (first | refine Wx.then_r ?_ | refine Wx.blk_r ?_ | refine Wx.ng_r ?_)
    refine Wx.ret2 rfl rfl rfl rfl ?_
    rw [ex_mul]; refine Ent.ex none ?_
    rw [cOpen_arg (by omega)]
    show Ent _ (pu _ * (emp * Dev d D) * F)
    exact Ent.resC ⟨rfl, by simp⟩
  · -- t23 is False
    try replace hb23 := of_decide_eq_false hb23
    refine Wl.gT rfl rfl ?_
    refine Wl.val rfl (V.move rfl) ?_
    refine Wl.gT rfl rfl ?_
    refine Wl.val rfl (V.gtr rfl rfl) ?_
    refine Wl.val rfl (V.pickF rfl rfl) ?_
    refine Wl.val rfl (V.move rfl) ?_
    refine Wl.bool 27 rfl (fun hb27 => ?_) (fun hb27 => ?_)
    · -- t27 is True
      try replace hb27 := of_decide_eq_true hb27
      refine Wl.gF rfl rfl rfl ?_
      refine Wl.gF rfl rfl rfl ?_
      refine Wl.val rfl (V.pickT rfl rfl) ?_
      refine Wl.nil ?_
      refine Wx.then_n ?_
      refine Wc.condT rfl ?_
      refine Wc.seq ?_
      refine Wc.region ?_
      refine Wl.val rfl (V.assign rfl) ?_
      refine Wl.val rfl (V.assign rfl) ?_
      refine Wl.nil ?_
      refine Wx.then_n ?_
      refine Wc.ret ?_
      repeat (first | refine Wx.then_r ?_ | refine Wx.blk_r ?_ | refine Wx.ng_r ?_)
      refine Wx.ret2 rfl rfl rfl rfl ?_
      rw [ex_mul]; refine Ent.ex none ?_
      rw [cOpen_arg (by omega)]
      show Ent _ (pu _ * (emp * Dev d D) * F)
      exact Ent.resC ⟨rfl, by simp⟩
    · -- t27 is False
      try replace hb27 := of_decide_eq_false hb27
      refine Wl.gT rfl rfl ?_
      refine Wl.val rfl (V.move rfl) ?_
      refine Wl.gT rfl rfl ?_
      refine Wl.val rfl (V.lss rfl rfl) ?_
      refine Wl.val rfl (V.pickF rfl rfl) ?_
      refine Wl.nil ?_
      refine Wx.then_n ?_
      refine Wc.cond rfl (fun hc1 => ?_) (fun hc1 => ?_)
      · skip
        try replace hc1 := of_decide_eq_true hc1
        refine Wc.seq ?_
        refine Wc.region ?_
        refine Wl.val rfl (V.assign rfl) ?_
        refine Wl.val rfl (V.assign rfl) ?_
        refine Wl.nil ?_
        refine Wx.then_n ?_
        refine Wc.ret ?_
        repeat (first | refine Wx.then_r ?_ | refine Wx.blk_r ?_ | refine Wx.ng_r ?_)
        refine Wx.ret2 rfl rfl rfl rfl ?_
        rw [ex_mul]; refine Ent.ex none ?_
        rw [cOpen_arg (by omega)]
        show Ent _ (pu _ * (emp * Dev d D) * F)
        exact Ent.resC ⟨rfl, by simp⟩
      · skip
        try replace hc1 := of_decide_eq_false hc1
        have hargs : ¬ (blocks < 1 ∨ 32 < blocks ∨ (n : Int) < 8) := by omega
        obtain ⟨hlo, hln⟩ := logOpen_ok hD first n a b hn hf
        refine Wc.skip ?_
        refine Wx.then_n ?_
        refine Wc.seq ?_
        refine Wc.region ?_
        refine Wl.val rfl (V.move rfl) ?_
        refine Wl.val rfl (V.move rfl) ?_
        refine Wl.val rfl (V.move rfl) ?_
        refine Wl.val rfl (V.move rfl) ?_
        refine Wl.val rfl (V.move rfl) ?_
        refine Wl.call rfl rfl (s_log_Open d hD hal first n a b hn hf hab ha hb hra hrb) (by first | exact Take.here | exact Take.there Take.here | exact Take.there (Take.there Take.here) | exact Take.there (Take.there (Take.there Take.here)) | exact Take.none _ | exact TakeC.t | exact Take.there (Take.there (Take.there (Take.there Take.here))) | exact Take.there (Take.there (Take.there (Take.there (Take.there Take.here)))) | exact Take.there (Take.there (Take.there (Take.there (Take.there (Take.there Take.here)))))) (fun v37 => ?_)
        refine Wl.exm (fun o => ?_)
        refine Wl.pull (fun hq => ?_)
        obtain ⟨rfl, hoe⟩ := hq
        have hco := cOpen_log (blocks := blocks) hargs (D' := (logOpen D first n a b).1) (L := (logOpen D first n a b).2.1) (e := (logOpen D first n a b).2.2) rfl
        generalize logOpen D first n a b = q at *
        obtain ⟨D', L, e⟩ := q
        dsimp only at hlo hln hoe hco ⊢
        refine Wl.ent (H' := optH (fun lp => Log lp d L) o * (Dev d D' * F)) Ent.auto ?_
        refine Wl.val rfl (V.move rfl) ?_
        refine Wl.val rfl (V.ext rfl rfl) ?_
        refine Wl.val rfl (V.ext rfl rfl) ?_
        refine Wl.val rfl (V.assign rfl) ?_
        refine Wl.val rfl (V.assign rfl) ?_
        refine Wl.nil ?_
        refine Wx.then_n ?_
        refine Wc.seq ?_
        refine Wc.seq ?_
        refine Wc.region ?_
        refine Wl.val rfl (V.move rfl) ?_
        refine Wl.val rfl (V.neq rfl rfl) ?_
        refine Wl.nil ?_
        refine Wx.then_n ?_
        refine Wc.cond rfl (fun hc2 => ?_) (fun hc2 => ?_)
        · skip
          try replace hc2 := of_decide_eq_true hc2
          refine Wc.seq ?_
          refine Wc.region ?_
          refine Wl.val rfl (V.move rfl) ?_
          refine Wl.val rfl (V.assign rfl) ?_
          refine Wl.val rfl (V.assign rfl) ?_
          refine Wl.nil ?_
          refine Wx.then_n ?_
          refine Wc.ret ?_
          repeat (first | refine Wx.then_r ?_ | refine Wx.blk_r ?_ | refine Wx.ng_r ?_)
          refine Wx.ret2 rfl rfl rfl rfl ?_
          have he : e ≠ 0 := by simpa using hc2
          rw [if_pos he] at hco
          rw [ex_mul]; refine Ent.ex none ?_
          have ho : o = none := by cases o with
            | none => rfl
            | some lp => exact absurd (hoe.1 rfl) he
          subst ho
          rw [hco]
          show Ent _ (pu _ * (emp * Dev d D') * F)
          exact Ent.resC ⟨rfl, by simpa using he⟩
        · skip
          try replace hc2 := of_decide_eq_false hc2
          have he : e = 0 := by simpa using hc2
          rw [if_neg (by simp [he])] at hco
          obtain ⟨lp, rfl⟩ : ∃ lp, o = some lp := by cases o with
            | none => exact absurd (hoe.2 he) (by simp)
            | some lp => exact ⟨lp, rfl⟩
          subst he
          have hbl : 1 ≤ blocks ∧ blocks ≤ 32 := by omega
          have hst := RepI.start hlo hbl
          rw [hln] at hst
          have hi := hlo.items'
          have hlh := hlo.head
          have hlh' := hlo.head'
          refine Wc.ent (H' := Log lp d L * (Dev d D' * F)) (Ent.refl _) ?_
          refine Wc.skip ?_
          refine Wx.then_n ?_
          refine Wc.seq ?_
          refine Wc.region ?_
          refine Wl.val rfl (V.move rfl) ?_
          refine Wl.val rfl (V.move rfl) ?_
          refine Wl.val rfl (V.move rfl) ?_
          refine Wl.al rfl (M.map) (fun r46 => ?_)
          refine Wl.al rfl (M.map) (fun r47 => ?_)
          refine Wl.val rfl (V.build B_cache_Cache rfl rfl) ?_
          refine Wl.al rfl (M.box (l := [ptr lp, i64 blocks, i64 (n : Nat), .map (some r46), .map (some r47), i64 0, i64 0, i64 0, i64 0, i64 0, i64 0]) rfl rfl) (fun r49 => ?_)
          refine Wl.val rfl (V.assign rfl) ?_
          refine Wl.nil ?_
          refine Wx.then_n ?_
          refine Wc.seq ?_
          refine Wc.seq ?_
          refine Wc.region ?_
          refine Wl.val rfl (V.move rfl) ?_
          refine Wl.call rfl rfl (s_log_Log_Records lp d hlo) (by first | exact Take.here | exact Take.there Take.here | exact Take.there (Take.there Take.here) | exact Take.there (Take.there (Take.there Take.here)) | exact Take.none _ | exact TakeC.t | exact Take.there (Take.there (Take.there (Take.there Take.here))) | exact Take.there (Take.there (Take.there (Take.there (Take.there Take.here)))) | exact Take.there (Take.there (Take.there (Take.there (Take.there (Take.there Take.here)))))) (fun v51 => ?_)
          refine Wl.ent (H' := own T_string 1 v51 (L.items.map (·.1)).length (textsV (L.items.map (·.1))) * (CacheB r49 lp r46 r47 d (cFresh L blocks n) * (Dev d D' * F))) (Ent.auto (G := own T_string 1 v51 (L.items.map (·.1)).length (textsV (L.items.map (·.1))) * ((row r49 T_cache_Cache [ptr lp, i64 blocks, i64 (n : Nat), .map (some r46), .map (some r47), i64 0, i64 0, i64 0, i64 0, i64 0, i64 0] * (Log lp d L * (mapI r46 [] * mapI r47 []))) * (Dev d D' * F)))) ?_
          refine Wl.know (fun g w s => Vw.of_own T_string 1 v51 _ _ g w (s.ent (Ent.left _ _))) (fun hv => ?_)
          refine Wl.val rfl (V.lenW rfl U_Sstring hv) ?_
          refine Wl.val rfl (V.move rfl) ?_
          refine Wl.nil ?_
          refine Wx.then_n ?_
          refine Wc.block ?_
          refine Wc.loop (α := Nat × CacheM) (fun x => L.items.length - x.1) (fun x => pu (RepI D' L blocks x.1 x.2 (cFresh L blocks n)) * (own T_string 1 v51 (L.items.map (·.1)).length (textsV (L.items.map (·.1))) * (CacheB r49 lp r46 r47 d x.2 * (Dev d D' * F)))) (fun x => [(14, ptr lp), (16, ptr r49), (51, v51), (52, i64 ((L.items.map (·.1)).length : Nat)), (53, i64 (x.1 : Nat))]) (0, cFresh L blocks n) (by exact (by exact Ent.pure hst)) (by repeat (first | exact trivial | refine ⟨rfl, ?_⟩)) (fun x => ?_)
          obtain ⟨i, C'⟩ := x
          refine Wc.pu (fun hR => ?_)
          dsimp only at hR
          have hCl := hR.log
          have hCb := hR.blocks
          refine Wc.seq ?_
          refine Wc.region ?_
          refine Wl.val rfl (V.lss rfl rfl) ?_
          refine Wl.nil ?_
          refine Wx.then_n ?_
          refine Wc.seq ?_
          refine Wc.cond rfl (fun hc3 => ?_) (fun hc3 => ?_)
          · skip
            try replace hc3 := of_decide_eq_true hc3
            have hlt : i < L.items.length := by (have hc3 : (i : Int) < ((L.items.map (·.1)).length : Int) := hc3); simpa using hc3
            obtain ⟨s, hs⟩ : ∃ s, (L.items.map (·.1))[i]? = some s := ⟨_, List.getElem?_eq_getElem (by simpa using hlt)⟩
            have hsl : s.length ≤ 110 := by
              obtain ⟨p, hp, rfl⟩ := List.mem_map.1 (List.mem_of_getElem? hs)
              exact (hlo.itemsOk p hp).1
            refine Wc.ent (H' := CacheR r49 lp r46 r47 C' * (Log lp d L * (mapI r46 (amap etyA C'.entries) * (mapI r47 (amap i64 C'.puts) * (own T_string 1 v51 (L.items.map (·.1)).length (textsV (L.items.map (·.1))) * (Dev d D' * F)))))) (by rw [← hCl]; exact Ent.auto) ?_
            refine Wc.skip ?_
            refine Wx.then_n ?_
            refine Wc.seq ?_
            refine Wc.block ?_
            refine Wc.seq ?_
            refine Wc.region ?_
            refine Wl.val rfl (V.move rfl) ?_
            refine Wl.val rfl (V.idxW rfl rfl U_Sstring Z_string hv (by omega) (by simpa using hlt)) ?_
            refine Wl.val rfl (V.ldW (u := str s) rfl C_string hv (by rw [show (i : Int).toNat * 1 = i by omega]; simp only [textsV, List.getElem?_map] at hs ⊢; rw [hs]; rfl)) ?_
            refine Wl.val rfl (V.assign rfl) ?_
            refine Wl.val rfl (V.assign rfl) ?_
            refine Wl.nil ?_
            refine Wx.then_n ?_
            refine Wc.seq ?_
            refine Wc.region ?_
            refine Wl.val rfl (V.move rfl) ?_
            refine Wl.val rfl (V.move rfl) ?_
            refine Wl.call rfl rfl (s_cache_Cache_read r49 lp r46 r47 C' (by rw [hCb]; exact hbl) s (by omega)) (by first | exact Take.here | exact Take.there Take.here | exact Take.there (Take.there Take.here) | exact Take.there (Take.there (Take.there Take.here)) | exact Take.none _ | exact TakeC.t | exact Take.there (Take.there (Take.there (Take.there Take.here))) | exact Take.there (Take.there (Take.there (Take.there (Take.there Take.here)))) | exact Take.there (Take.there (Take.there (Take.there (Take.there (Take.there Take.here)))))) (fun v61 => ?_)
            refine Wl.exm (fun q => ?_)
            refine Wl.pull (fun hq => ?_)
            obtain ⟨ow, kq⟩ := q
            obtain ⟨rfl, hq2⟩ := hq
            dsimp only
            refine Wl.val rfl (V.move rfl) ?_
            refine Wl.val rfl (V.ext rfl rfl) ?_
            refine Wl.val rfl (V.ext rfl rfl) ?_
            refine Wl.al rfl (M.alloc N_cache_record) (fun r19 => ?_)
            refine Wl.st (Go.Sl.S.putA (vs := [oWhatV ow, i64 kq.last.ep, i64 kq.last.sq, i64 kq.t.a, i64 kq.t.b, i64 kq.t.c, i64 kq.t.d]) rfl rfl C_cache_record (by simp only [oneCells, oWhatV_one]; rfl) rfl rfl rfl) ?_
            refine Wl.val rfl (V.assign rfl) ?_
            refine Wl.nil ?_
            refine Wx.then_n ?_
            refine Wc.seq ?_
            refine Wc.seq ?_
            refine Wc.region ?_
            refine Wl.val rfl (V.move rfl) ?_
            refine Wl.val rfl (V.not rfl) ?_
            refine Wl.nil ?_
            refine Wx.then_n ?_
            refine Wc.cond rfl (fun hc4 => ?_) (fun hc4 => ?_)
            · skip
              try replace hc4 := of_decide_eq_true hc4
              refine Wc.seq ?_
              refine Wc.region ?_
              refine Wl.val rfl (V.assign rfl) ?_
              refine Wl.val rfl (V.assign rfl) ?_
              refine Wl.nil ?_
              refine Wx.then_n ?_
              refine Wc.ret ?_
              repeat (first | refine Wx.then_r ?_ | refine Wx.blk_r ?_ | refine Wx.ng_r ?_)
              refine Wx.ret2 rfl rfl rfl rfl ?_
              have hr : cRead C'.blocks s = none := by cases h : cRead C'.blocks s <;> simp_all
              rw [hR.bad hs hr] at hco
              rw [ex_mul]; refine Ent.ex none ?_
              rw [hco]
              show Ent _ (pu _ * (emp * Dev d D') * F)
              exact Ent.resC ⟨rfl, by simp⟩
            · skip
              try replace hc4 := of_decide_eq_false hc4
              obtain ⟨w, k, hr⟩ : ∃ w k, cRead C'.blocks s = some (w, k) := by
                cases h : cRead C'.blocks s with
                | none => rw [h] at hc4; cases hc4
                | some p => exact ⟨p.1, p.2, rfl⟩
              have hqe := hq2 w k hr
              obtain ⟨rfl, rfl⟩ := Prod.mk.inj hqe
              have hstep := hR.step hs hr
              refine Wc.skip ?_
              refine Wx.then_n ?_
              refine Wc.draws 6 mixed (by kernel_rfl) (S := _) (M := emp) (Ent.empR _) ?_
              refine Wr.take [0, 1, 2, 3, 4, 5] 0 (by kernel_rfl) (by kernel_rfl) rfl rfl ?_
              refine Wt.val rfl (V.move rfl) ?_
              refine Wt.val rfl (V.ldA (vs := [whatV w, i64 kq.last.ep, i64 kq.last.sq, i64 kq.t.a, i64 kq.t.b, i64 kq.t.c, i64 kq.t.d]) rfl C_cache_record rfl) ?_
              refine Wt.val rfl (V.move rfl) ?_
              refine Wt.call rfl rfl (s_log_Log_HeadL lp d L) (by first | exact Take.here | exact Take.there Take.here | exact Take.there (Take.there Take.here) | exact Take.there (Take.there (Take.there Take.here)) | exact Take.none _ | exact TakeC.t | exact Take.there (Take.there (Take.there (Take.there Take.here))) | exact Take.there (Take.there (Take.there (Take.there (Take.there Take.here)))) | exact Take.there (Take.there (Take.there (Take.there (Take.there (Take.there Take.here)))))) ?_
              refine Wt.val rfl (V.move rfl) ?_
              refine Wt.val rfl (V.addk rfl rfl (wr64 (by omega) (by omega))) ?_
              refine Wt.nil ?_
              refine Wr.tail (by kernel_rfl) rfl ?_
              refine Wl.ent (H' := CacheB r49 lp r46 r47 d C' * (own T_string 1 v51 (L.items.map (·.1)).length (textsV (L.items.map (·.1))) * (Dev d D' * F))) (by rw [← hCl]; exact Ent.auto) ?_
              first | refine Wl.callE rfl rfl (s_cache_Cache_doesB r49 lp r46 r47 d C' w kq (L.head + i)) ?_ | refine Wl.callD rfl rfl (s_cache_Cache_doesB r49 lp r46 r47 d C' w kq (L.head + i)) Take.here ?_
              refine Wl.nil ?_
              refine Wx.blk_n ?_
              refine Wx.then_n ?_
              refine Wc.region ?_
              refine Wl.val rfl (V.addk rfl rfl (wr64 (by omega) (by omega))) ?_
              refine Wl.val rfl (V.move rfl) ?_
              refine Wl.nil ?_
              refine Wx.again (i + 1, cDoes C' w kq (L.head + i)) (by exact (by show L.items.length - (i + 1) < L.items.length - i; omega)) (by exact Ent.puC hstep) (by repeat (first | exact trivial | refine ⟨rfl, ?_⟩))
          · skip
            try replace hc3 := of_decide_eq_false hc3
            refine Wc.exit ?_
            refine Wx.then_x ?_
            refine Wx.then_x ?_
            refine Wx.blk_x ?_
            refine Wx.then_n ?_
            refine Wc.seq ?_
            refine Wc.region ?_
            refine Wl.val rfl (V.move rfl) ?_
            refine Wl.val rfl (V.assign rfl) ?_
            refine Wl.val rfl (V.assign rfl) ?_
            refine Wl.nil ?_
            refine Wx.then_n ?_
            refine Wc.ret ?_
            repeat (first | refine Wx.then_r ?_ | refine Wx.blk_r ?_ | refine Wx.ng_r ?_)
            refine Wx.ret2 rfl rfl rfl rfl ?_
            have hd := hR.done (by (have hc3 : ¬ (i : Int) < ((L.items.map (·.1)).length : Int) := hc3); simpa using hc3)
            rw [hd] at hco
            rw [ex_mul]; refine Ent.ex (some r49) ?_
            rw [hco]
            show Ent _ (pu _ * (Cache r49 d C' * Dev d D') * F)
            exact Ent.cacheP (lp := lp) (me := r46) (mp := r47) ⟨rfl, by simp⟩
end Go.Proofs.YtjfacgmobpbhcaaGreat
/- The walks: what the laws on caches call. -/
namespace Go.Proofs.YtjfacgmobpbhcaaGreat
open Go.Sl Sei
abbrev stV (av : Value) (k : Kept) : List Value := [av, i64 k.last.ep, i64 k.last.sq, i64 k.t.a, i64 k.t.b, i64 k.t.c, i64 k.t.d]
theorem s_cache_Cache_All' (cc d : Nat) (C : CacheM) (hb : 1 ≤ C.blocks ∧ C.blocks ≤ 32) : Ctr P f_cache_Cache_All [ptr cc] (Cache cc d C) (fun v => ex fun (x : Value) => pu (v = x) * (own T_api_Entry 7 x (cAll C).length (etysV (cAll C)) * Cache cc d C)) := (s_cache_Cache_All cc d C hb).mono fun v => Ent.ex v (Ent.pure rfl)
theorem tab_upd7 {x0 x1 x2 : Value} {t : Tab} {i x : Int} {k : Nat} (h0 : 0 ≤ i) (h1 : i < 4) (hk : k = 3 + i.toNat) : upd [x0, x1, x2, i64 t.a, i64 t.b, i64 t.c, i64 t.d] k (i64 x) = some [x0, x1, x2, i64 (tabSet t i x).a, i64 (tabSet t i x).b, i64 (tabSet t i x).c, i64 (tabSet t i x).d] := by
  have : i = 0 ∨ i = 1 ∨ i = 2 ∨ i = 3 := by omega
  rcases this with rfl | rfl | rfl | rfl <;> subst hk <;> rfl
def tabN (C : CacheM) : Nat → Tab
  | 0 => tab0
  | k + 1 => tabSet (tabN C k) (k : Int) (cNumber C (k : Int))
theorem tabN_all (C : CacheM) : tabN C 4 = C.kept.t := rfl
theorem s_law09_told (cc d : Nat) (C : CacheM) (hb : 1 ≤ C.blocks ∧ C.blocks ≤ 32) : Ctr P f_law09_told [ptr cc] (Cache cc d C) (fun v => ex fun (av : Value) => pu (v = .agg (stV av C.kept).toArray) * (own T_api_Entry 7 av (cAll C).length (etysV (cAll C)) * Cache cc d C)) := by
  refine Ctr.of_body (m := 21) fn_law09_told rfl rfl rfl rfl rfl (fun F g => ?_)
  refine Wc.seq ?_
  refine Wc.region ?_
  refine Wl.al rfl (M.alloc N_law09_state) (fun r2 => ?_)
  refine Wl.nil ?_
  refine Wx.then_n ?_
  refine Wc.seq ?_
  refine Wc.region ?_
  refine Wl.val rfl (V.move rfl) ?_
  refine Wl.call rfl rfl (s_cache_Cache_All' cc d C hb) (by first | exact Take.here | exact Take.there Take.here | exact Take.there (Take.there Take.here) | exact Take.there (Take.there (Take.there Take.here)) | exact Take.none _ | exact TakeC.t | exact Take.there (Take.there (Take.there (Take.there Take.here))) | exact Take.there (Take.there (Take.there (Take.there (Take.there Take.here)))) | exact Take.there (Take.there (Take.there (Take.there (Take.there (Take.there Take.here)))))) (fun v6 => ?_)
  refine Wl.exm (fun av => ?_)
  refine Wl.pull (fun hav => ?_)
  subst hav
  refine Wl.ent (H' := own T_api_Entry 7 v6 (cAll C).length (etysV (cAll C)) * (Cache cc d C * (row r2 T_law09_state [.slice none 0 0, i64 0, i64 0, i64 0, i64 0, i64 0, i64 0] * F))) Ent.auto ?_
  refine Wl.know (fun g w s => own_one s) (fun hone => ?_)
  refine Wl.val rfl (V.move rfl) ?_
  first | refine Wl.callE rfl rfl (s_cache_Cache_Last cc d C) ?_ | refine Wl.callD rfl rfl (s_cache_Cache_Last cc d C) (by first | exact Take.here | exact Take.there Take.here | exact Take.there (Take.there Take.here) | exact Take.there (Take.there (Take.there Take.here)) | exact Take.none _ | exact TakeC.t | exact Take.there (Take.there (Take.there (Take.there Take.here))) | exact Take.there (Take.there (Take.there (Take.there (Take.there Take.here)))) | exact Take.there (Take.there (Take.there (Take.there (Take.there (Take.there Take.here)))))) ?_
  refine Wl.val rfl (V.build (l := stV v6 ⟨C.kept.last, tab0⟩) B_law09_state rfl (by simp only [cellParts, cellsL_one hone]; rfl)) ?_
  refine Wl.al rfl (M.alloc N_law09_state) (fun r3 => ?_)
  refine Wl.st (Go.Sl.S.putA (vs := stV v6 ⟨C.kept.last, tab0⟩) rfl rfl C_law09_state (by simp only [oneCells, hone]; rfl) rfl rfl rfl) ?_
  refine Wl.nil ?_
  refine Wx.then_n ?_
  refine Wc.seq ?_
  refine Wc.seq ?_
  refine Wc.region ?_
  refine Wl.val rfl (V.move rfl) ?_
  refine Wl.nil ?_
  refine Wx.then_n ?_
  refine Wc.block ?_
  refine Wc.loop (α := Nat) (fun x => 4 - x) (fun x => pu (x ≤ 4) * (row r3 T_law09_state (stV v6 ⟨C.kept.last, tabN C x⟩) * (own T_api_Entry 7 v6 (cAll C).length (etysV (cAll C)) * (Cache cc d C * (row r2 T_law09_state [.slice none 0 0, i64 0, i64 0, i64 0, i64 0, i64 0, i64 0] * F))))) (fun x => [(0, ptr cc), (2, ptr r2), (3, ptr r3), (10, i64 (x : Nat))]) 0 (by exact (by show Ent _ (pu (0 ≤ 4) * (row r3 T_law09_state (stV v6 ⟨C.kept.last, tab0⟩) * _)); exact Ent.puC (Nat.zero_le _))) (by repeat (first | exact trivial | refine ⟨rfl, ?_⟩)) (fun x => ?_)
  refine Wc.pu (fun hx => ?_)
  refine Wc.seq ?_
  refine Wc.region ?_
  refine Wl.val rfl (V.lss rfl rfl) ?_
  refine Wl.nil ?_
  refine Wx.then_n ?_
  refine Wc.seq ?_
  refine Wc.cond rfl (fun hc1 => ?_) (fun hc1 => ?_)
  · skip
    try replace hc1 := of_decide_eq_true hc1
    have hx4 : x < 4 := by omega
    refine Wc.skip ?_
    refine Wx.then_n ?_
    refine Wc.seq ?_
    refine Wc.block ?_
    refine Wc.seq ?_
    refine Wc.region ?_
    refine Wl.val rfl (V.move rfl) ?_
    refine Wl.val rfl (V.assign rfl) ?_
    refine Wl.nil ?_
    refine Wx.then_n ?_
    refine Wc.region ?_
    refine Wl.val rfl (V.move rfl) ?_
    refine Wl.val rfl (V.move rfl) ?_
    refine Wl.val rfl (V.move rfl) ?_
    first | refine Wl.callE rfl rfl (s_cache_Cache_Number cc d C (x : Int)) ?_ | refine Wl.callD rfl rfl (s_cache_Cache_Number cc d C (x : Int)) (by first | exact Take.here | exact Take.there Take.here | exact Take.there (Take.there Take.here) | exact Take.there (Take.there (Take.there Take.here)) | exact Take.none _ | exact TakeC.t | exact Take.there (Take.there (Take.there (Take.there Take.here))) | exact Take.there (Take.there (Take.there (Take.there (Take.there Take.here)))) | exact Take.there (Take.there (Take.there (Take.there (Take.there (Take.there Take.here)))))) ?_
    refine Wl.val rfl (V.fld _ rfl O_law09_state_2 rfl) ?_
    refine Wl.val rfl (V.idxA rfl rfl U_A4int64 Z_int64 (by first | decide | omega) (by first | decide | omega) rfl) ?_
    refine Wl.st (Go.Sl.S.put rfl rfl C_int64 rfl (tab_upd7 (i := (x : Int)) (by omega) (by omega) (by omega))) ?_
    refine Wl.nil ?_
    refine Wx.blk_n ?_
    refine Wx.then_n ?_
    refine Wc.region ?_
    refine Wl.val rfl (V.addk rfl rfl (wr64 (by omega) (by omega))) ?_
    refine Wl.val rfl (V.move rfl) ?_
    refine Wl.nil ?_
    skip
    refine Wx.again (x + 1) (by exact (by show 4 - (x + 1) < 4 - x; omega)) (by exact (by show Ent _ (pu (x + 1 ≤ 4) * (row r3 T_law09_state (stV v6 ⟨C.kept.last, tabN C (x + 1)⟩) * _)); rw [show tabN C (x + 1) = tabSet (tabN C x) (x : Int) (cNumber C (x : Int)) from rfl]; exact Ent.puC (by omega))) (by repeat (first | exact trivial | refine ⟨rfl, ?_⟩))
  · skip
    try replace hc1 := of_decide_eq_false hc1
    have hx4 : x = 4 := by omega
    subst hx4
    rw [tabN_all]
    refine Wc.exit ?_
    refine Wx.then_x ?_
    refine Wx.then_x ?_
    refine Wx.blk_x ?_
    refine Wx.then_n ?_
    refine Wc.seq ?_
    refine Wc.region ?_
    refine Wl.val rfl (V.ldA (vs := stV v6 C.kept) rfl C_law09_state rfl) ?_
    refine Wl.st (Go.Sl.S.putA (vs := stV v6 C.kept) rfl rfl C_law09_state (by simp only [oneCells, hone]; rfl) rfl rfl rfl) ?_
    refine Wl.nil ?_
    refine Wx.then_n ?_
    refine Wc.ret ?_
    repeat (first | refine Wx.then_r ?_ | refine Wx.blk_r ?_ | refine Wx.ng_r ?_)
    refine Wx.rv1 rfl rfl (RV.cellA rfl C_law09_state rfl) ?_
    rw [ex_mul]; refine Ent.ex v6 ?_
    exact Ent.resC rfl
theorem s_law09_same {S : HP} {av bv : Value} (la lb : List Ety) (h1 : Vw S av 7 la.length (etysV la)) (h2 : Vw S bv 7 lb.length (etysV lb)) : Ctr P f_law09_same [av, bv] S (fun v => pu (v = .bool (decide (la = lb))) * S) := by
  have hl1 := h1.le
  refine Ctr.of_body (m := 26) fn_law09_same rfl rfl rfl rfl rfl (fun F g => ?_)
  refine Wc.seq ?_
  refine Wc.region ?_
  refine Wl.val rfl (V.assign rfl) ?_
  refine Wl.nil ?_
  refine Wx.then_n ?_
  refine Wc.seq ?_
  refine Wc.seq ?_
  refine Wc.region ?_
  refine Wl.val rfl (V.move rfl) ?_
  refine Wl.val rfl (V.lenW rfl U_Sapi_Entry h1) ?_
  refine Wl.val rfl (V.move rfl) ?_
  refine Wl.val rfl (V.lenW rfl U_Sapi_Entry h2) ?_
  refine Wl.val rfl (V.neq rfl rfl) ?_
  refine Wl.nil ?_
  refine Wx.then_n ?_
  refine Wc.cond rfl (fun hc1 => ?_) (fun hc1 => ?_)
  · skip
    try replace hc1 := of_decide_eq_true hc1
    refine Wc.seq ?_
    refine Wc.region ?_
    refine Wl.val rfl (V.assign rfl) ?_
    refine Wl.nil ?_
    refine Wx.then_n ?_
    refine Wc.ret ?_
    repeat (first | refine Wx.then_r ?_ | refine Wx.blk_r ?_ | refine Wx.ng_r ?_)
    refine Wx.ret1 rfl rfl rfl ?_
    exact Ent.resC (by rw [decide_eq_false (by rintro rfl; simp at hc1)])
  · skip
    try replace hc1 := of_decide_eq_false hc1
    have hll : la.length = lb.length := by simp at hc1; omega
    refine Wc.skip ?_
    refine Wx.then_n ?_
    refine Wc.seq ?_
    refine Wc.seq ?_
    refine Wc.region ?_
    refine Wl.val rfl (V.move rfl) ?_
    refine Wl.val rfl (V.lenW rfl U_Sapi_Entry h1) ?_
    refine Wl.val rfl (V.move rfl) ?_
    refine Wl.nil ?_
    refine Wx.then_n ?_
    refine Wc.block ?_
    refine Wc.loop (α := Nat) (fun x => la.length - x) (fun x => pu (x ≤ la.length ∧ ∀ j, j < x → la[j]? = lb[j]?) * (S * F)) (fun x => [(0, av), (1, bv), (12, i64 (la.length : Nat)), (13, i64 (x : Nat))]) 0 (by exact (by exact Ent.pure ⟨Nat.zero_le _, fun j hj => absurd hj (Nat.not_lt_zero _)⟩)) (by repeat (first | exact trivial | refine ⟨rfl, ?_⟩)) (fun x => ?_)
    refine Wc.pu (fun hI => ?_)
    obtain ⟨hx, hI⟩ := hI
    refine Wc.seq ?_
    refine Wc.region ?_
    refine Wl.val rfl (V.lss rfl rfl) ?_
    refine Wl.nil ?_
    refine Wx.then_n ?_
    refine Wc.seq ?_
    refine Wc.cond rfl (fun hc2 => ?_) (fun hc2 => ?_)
    · skip
      try replace hc2 := of_decide_eq_true hc2
      have hlt : x < la.length := by omega
      obtain ⟨ea, hea⟩ : ∃ e, la[x]? = some e := ⟨_, List.getElem?_eq_getElem hlt⟩
      obtain ⟨eb, heb⟩ : ∃ e, lb[x]? = some e := ⟨_, List.getElem?_eq_getElem (by omega)⟩
      refine Wc.skip ?_
      refine Wx.then_n ?_
      refine Wc.seq ?_
      refine Wc.block ?_
      refine Wc.seq ?_
      refine Wc.region ?_
      refine Wl.val rfl (V.move rfl) ?_
      refine Wl.val rfl (V.assign rfl) ?_
      refine Wl.nil ?_
      refine Wx.then_n ?_
      refine Wc.seq ?_
      refine Wc.quiet mixed (by kernel_rfl) ?_
      refine Wq.val rfl (V.move rfl) ?_
      refine Wq.val rfl (V.move rfl) ?_
      refine Wq.val rfl (V.idxW rfl rfl U_Sapi_Entry Z_api_Entry h1 (by omega) (by omega)) ?_
      refine Wq.val rfl (V.ldAW (vs := etyV ea) rfl C_api_Entry h1 (by omega) (by simpa using etysV_at hea)) ?_
      refine Wq.val rfl (V.move rfl) ?_
      refine Wq.val rfl (V.move rfl) ?_
      refine Wq.val rfl (V.idxW rfl rfl U_Sapi_Entry Z_api_Entry h2 (by omega) (by omega)) ?_
      refine Wq.val rfl (V.ldAW (vs := etyV eb) rfl C_api_Entry h2 (by omega) (by simpa using etysV_at heb)) ?_
      refine Wq.val rfl (V.neqV rfl rfl ⟨⟨_, rfl⟩, _, rfl⟩ rfl G_api_Entry E_api_Entry) ?_
      refine Wq.nil ?_
      refine Wx.then_n ?_
      refine Wc.cond rfl (fun hc3 => ?_) (fun hc3 => ?_)
      · skip
        try replace hc3 := of_decide_eq_true hc3
        refine Wc.seq ?_
        refine Wc.region ?_
        refine Wl.val rfl (V.assign rfl) ?_
        refine Wl.nil ?_
        refine Wx.then_n ?_
        refine Wc.ret ?_
        repeat (first | refine Wx.then_r ?_ | refine Wx.blk_r ?_ | refine Wx.ng_r ?_)
        refine Wx.ret1 rfl rfl rfl ?_
        rw [ety_eq] at hc3
        have hne : ea ≠ eb := by simpa using hc3
        exact Ent.resC (by rw [decide_eq_false (by rintro rfl; rw [hea] at heb; exact hne (Option.some.inj heb))])
      · skip
        try replace hc3 := of_decide_eq_false hc3
        refine Wc.skip ?_
        refine Wx.blk_n ?_
        refine Wx.then_n ?_
        refine Wc.region ?_
        refine Wl.val rfl (V.addk rfl rfl (wr64 (by omega) (by omega))) ?_
        refine Wl.val rfl (V.move rfl) ?_
        refine Wl.nil ?_
        rw [ety_eq] at hc3
        have heq : ea = eb := by simpa using hc3
        have hI2 : ∀ j, j < x + 1 → la[j]? = lb[j]? := by
          intro j hj
          rcases Nat.lt_or_ge j x with h | h
          · exact hI j h
          · have : j = x := by omega
            subst this; rw [hea, heb, heq]
        refine Wx.again (x + 1) (by exact (by show la.length - (x + 1) < la.length - x; omega)) (by exact Ent.pure ⟨by omega, hI2⟩) (by repeat (first | exact trivial | refine ⟨rfl, ?_⟩))
    · skip
      try replace hc2 := of_decide_eq_false hc2
      refine Wc.exit ?_
      refine Wx.then_x ?_
      refine Wx.then_x ?_
      refine Wx.blk_x ?_
      refine Wx.then_n ?_
      refine Wc.seq ?_
      refine Wc.region ?_
      refine Wl.val rfl (V.assign rfl) ?_
      refine Wl.nil ?_
      refine Wx.then_n ?_
      refine Wc.ret ?_
      repeat (first | refine Wx.then_r ?_ | refine Wx.blk_r ?_ | refine Wx.ng_r ?_)
      refine Wx.ret1 rfl rfl rfl ?_
      have hall : la = lb := by
        apply List.ext_getElem?
        intro j
        rcases Nat.lt_or_ge j x with h | h
        · exact hI j h
        · rw [List.getElem?_eq_none (by omega), List.getElem?_eq_none (by omega)]
      exact Ent.resC (by rw [decide_eq_true hall])
theorem s_law09_alike {S : HP} {av bv : Value} (a b : List Ety × Kept) (h1 : Vw S av 7 a.1.length (etysV a.1)) (h2 : Vw S bv 7 b.1.length (etysV b.1)) : Ctr P f_law09_alike [.agg (stV av a.2).toArray, .agg (stV bv b.2).toArray] S (fun v => pu (v = .bool (decide (a = b))) * S) := by
  have ho1 := h1.one
  have ho2 := h2.one
  refine Ctr.of_body (m := 24) fn_law09_alike rfl rfl rfl rfl rfl (fun F g => ?_)
  refine Wc.seq ?_
  refine Wc.region ?_
  refine Wl.al rfl (M.box (l := stV av a.2) rfl rfl) (fun r2 => ?_)
  refine Wl.al rfl (M.box (l := stV bv b.2) rfl rfl) (fun r3 => ?_)
  refine Wl.val rfl (V.assign rfl) ?_
  refine Wl.nil ?_
  refine Wx.then_n ?_
  refine Wc.seq ?_
  refine Wc.region ?_
  refine Wl.val rfl (V.fld _ rfl O_law09_state_0 rfl) ?_
  refine Wl.val rfl (V.ld rfl C_Sapi_Entry rfl) ?_
  refine Wl.val rfl (V.fld _ rfl O_law09_state_0 rfl) ?_
  refine Wl.val rfl (V.ld rfl C_Sapi_Entry rfl) ?_
  first | refine Wl.callE rfl rfl (s_law09_same a.1 b.1 h1 h2) ?_ | refine Wl.callD rfl rfl (s_law09_same a.1 b.1 h1 h2) (by first | exact Take.here | exact Take.there Take.here | exact Take.there (Take.there Take.here) | exact Take.there (Take.there (Take.there Take.here)) | exact Take.none _ | exact TakeC.t | exact Take.there (Take.there (Take.there (Take.there Take.here))) | exact Take.there (Take.there (Take.there (Take.there (Take.there Take.here)))) | exact Take.there (Take.there (Take.there (Take.there (Take.there (Take.there Take.here)))))) ?_
  refine Wl.val rfl (V.move rfl) ?_
  refine Wl.bool 10 rfl (fun hb10 => ?_) (fun hb10 => ?_)
  · -- t10 is True
    try replace hb10 := of_decide_eq_true hb10
    refine Wl.gT rfl rfl ?_
    refine Wl.val rfl (V.fld _ rfl O_law09_state_1 rfl) ?_
    refine Wl.gT rfl rfl ?_
    refine Wl.val rfl (V.ldA (vs := verV a.2.last) rfl C_api_Version rfl) ?_
    refine Wl.gT rfl rfl ?_
    refine Wl.val rfl (V.fld _ rfl O_law09_state_1 rfl) ?_
    refine Wl.gT rfl rfl ?_
    refine Wl.val rfl (V.ldA (vs := verV b.2.last) rfl C_api_Version rfl) ?_
    refine Wl.gT rfl rfl ?_
    refine Wl.val rfl (V.eqlV rfl rfl ⟨⟨_, rfl⟩, _, rfl⟩ rfl G_api_Version E_api_Version) ?_
    refine Wl.val rfl (V.pickT rfl rfl) ?_
    refine Wl.val rfl (V.move rfl) ?_
    refine Wl.bool 17 rfl (fun hb17 => ?_) (fun hb17 => ?_)
    · -- t17 is True
      try replace hb17 := of_decide_eq_true hb17
      refine Wl.gT rfl rfl ?_
      refine Wl.val rfl (V.fld _ rfl O_law09_state_2 rfl) ?_
      refine Wl.gT rfl rfl ?_
      refine Wl.val rfl (V.ldA (vs := tabV a.2.t) rfl C_A4int64 rfl) ?_
      refine Wl.gT rfl rfl ?_
      refine Wl.val rfl (V.fld _ rfl O_law09_state_2 rfl) ?_
      refine Wl.gT rfl rfl ?_
      refine Wl.val rfl (V.ldA (vs := tabV b.2.t) rfl C_A4int64 rfl) ?_
      refine Wl.gT rfl rfl ?_
      refine Wl.val rfl (V.eqlV rfl rfl ⟨⟨_, rfl⟩, _, rfl⟩ rfl G_A4int64 E_A4int64) ?_
      refine Wl.val rfl (V.pickT rfl rfl) ?_
      refine Wl.val rfl (V.assign rfl) ?_
      refine Wl.nil ?_
      refine Wx.then_n ?_
      refine Wc.ret ?_
      repeat (first | refine Wx.then_r ?_ | refine Wx.blk_r ?_ | refine Wx.ng_r ?_)
      refine Wx.ret1 rfl rfl rfl ?_
      refine Ent.resC ?_
      rw [tab_eq]
      rw [ver_eq] at hb17
      obtain ⟨la, ⟨va, ta⟩⟩ := a
      obtain ⟨lb, ⟨vb, tb⟩⟩ := b
      simp_all
    · -- t17 is False
      try replace hb17 := of_decide_eq_false hb17
      refine Wl.gF rfl rfl rfl ?_
      refine Wl.gF rfl rfl rfl ?_
      refine Wl.gF rfl rfl rfl ?_
      refine Wl.gF rfl rfl rfl ?_
      refine Wl.gF rfl rfl rfl ?_
      refine Wl.val rfl (V.pickF rfl rfl) ?_
      refine Wl.val rfl (V.assign rfl) ?_
      refine Wl.nil ?_
      refine Wx.then_n ?_
      refine Wc.ret ?_
      repeat (first | refine Wx.then_r ?_ | refine Wx.blk_r ?_ | refine Wx.ng_r ?_)
      refine Wx.ret1 rfl rfl rfl ?_
      refine Ent.resC ?_
      rw [ver_eq] at hb17
      rw [decide_eq_false (by rintro rfl; simp at hb17)]
  · -- t10 is False
    try replace hb10 := of_decide_eq_false hb10
    refine Wl.gF rfl rfl rfl ?_
    refine Wl.gF rfl rfl rfl ?_
    refine Wl.gF rfl rfl rfl ?_
    refine Wl.gF rfl rfl rfl ?_
    refine Wl.gF rfl rfl rfl ?_
    refine Wl.val rfl (V.pickF rfl rfl) ?_
    refine Wl.val rfl (V.move rfl) ?_
    refine Wl.gF rfl rfl rfl ?_
    refine Wl.gF rfl rfl rfl ?_
    refine Wl.gF rfl rfl rfl ?_
    refine Wl.gF rfl rfl rfl ?_
    refine Wl.gF rfl rfl rfl ?_
    refine Wl.val rfl (V.pickF rfl rfl) ?_
    refine Wl.val rfl (V.assign rfl) ?_
    refine Wl.nil ?_
    refine Wx.then_n ?_
    refine Wc.ret ?_
    repeat (first | refine Wx.then_r ?_ | refine Wx.blk_r ?_ | refine Wx.ng_r ?_)
    refine Wx.ret1 rfl rfl rfl ?_
    refine Ent.resC ?_
    rw [decide_eq_false (by rintro rfl; exact hb10 rfl)]
abbrev actA (x : ActM) (tv lv : Value) : Value := .agg (actV x tv lv).toArray
theorem s_law09_large {S : HP} {tv lv : Value} (x : ActM) (ht : Vw S tv 1 x.t.length (numsV x.t)) (hl : Vw S lv 2 x.l.length (keepsV x.l)) : Ctr P f_law09_large [actA x tv lv] S (fun v => pu (v = .bool (largeB x)) * S) := by
  have ho1 := ht.one
  have ho2 := hl.one
  refine Ctr.of_body (m := 26) fn_law09_large rfl rfl rfl rfl rfl (fun F g => ?_)
  refine Wc.seq ?_
  refine Wc.region ?_
  refine Wl.al rfl (M.box (l := actV x tv lv) rfl rfl) (fun r1 => ?_)
  refine Wl.val rfl (V.assign rfl) ?_
  refine Wl.nil ?_
  refine Wx.then_n ?_
  refine Wc.seq ?_
  refine Wc.region ?_
  refine Wl.val rfl (V.fld _ rfl O_law09_Act_4 rfl) ?_
  refine Wl.val rfl (V.ld rfl C_string rfl) ?_
  refine Wl.val rfl (V.lenT rfl U_string) ?_
  refine Wl.val rfl (V.gtr rfl rfl) ?_
  refine Wl.val rfl (V.move rfl) ?_
  refine Wl.bool 7 rfl (fun hb7 => ?_) (fun hb7 => ?_)
  · -- t7 is True
    try replace hb7 := of_decide_eq_true hb7
    refine Wl.gF rfl rfl rfl ?_
    refine Wl.gF rfl rfl rfl ?_
    refine Wl.gF rfl rfl rfl ?_
    refine Wl.gF rfl rfl rfl ?_
    refine Wl.val rfl (V.pickT rfl rfl) ?_
    refine Wl.val rfl (V.move rfl) ?_
    refine Wl.gF rfl rfl rfl ?_
    refine Wl.gF rfl rfl rfl ?_
    refine Wl.gF rfl rfl rfl ?_
    refine Wl.gF rfl rfl rfl ?_
    refine Wl.gF rfl rfl rfl ?_
    refine Wl.val rfl (V.pickT rfl rfl) ?_
    refine Wl.val rfl (V.move rfl) ?_
    refine Wl.gF rfl rfl rfl ?_
    refine Wl.gF rfl rfl rfl ?_
    refine Wl.gF rfl rfl rfl ?_
    refine Wl.gF rfl rfl rfl ?_
    refine Wl.val rfl (V.pickT rfl rfl) ?_
    refine Wl.val rfl (V.assign rfl) ?_
    refine Wl.nil ?_
    refine Wx.then_n ?_
    refine Wc.ret ?_
    repeat (first | refine Wx.then_r ?_ | refine Wx.blk_r ?_ | refine Wx.ng_r ?_)
    refine Wx.ret1 rfl rfl rfl ?_
    exact Ent.resC (by simp only [largeB, *, decide_true, decide_false, Bool.true_or, Bool.false_or, Bool.or_true, Bool.or_false])
  · -- t7 is False
    try replace hb7 := of_decide_eq_false hb7
    refine Wl.gT rfl rfl ?_
    refine Wl.val rfl (V.fld _ rfl O_law09_Act_5 rfl) ?_
    refine Wl.gT rfl rfl ?_
    refine Wl.val rfl (V.ld rfl C_Ssector_Keep rfl) ?_
    refine Wl.gT rfl rfl ?_
    refine Wl.val rfl (V.lenW rfl U_Ssector_Keep hl) ?_
    refine Wl.gT rfl rfl ?_
    refine Wl.val rfl (V.gtr rfl rfl) ?_
    refine Wl.val rfl (V.pickF rfl rfl) ?_
    refine Wl.val rfl (V.move rfl) ?_
    refine Wl.bool 13 rfl (fun hb13 => ?_) (fun hb13 => ?_)
    · -- t13 is True
      try replace hb13 := of_decide_eq_true hb13
      refine Wl.gF rfl rfl rfl ?_
      refine Wl.gF rfl rfl rfl ?_
      refine Wl.gF rfl rfl rfl ?_
      refine Wl.gF rfl rfl rfl ?_
      refine Wl.gF rfl rfl rfl ?_
      refine Wl.val rfl (V.pickT rfl rfl) ?_
      refine Wl.val rfl (V.move rfl) ?_
      refine Wl.gF rfl rfl rfl ?_
      refine Wl.gF rfl rfl rfl ?_
      refine Wl.gF rfl rfl rfl ?_
      refine Wl.gF rfl rfl rfl ?_
      refine Wl.val rfl (V.pickT rfl rfl) ?_
      refine Wl.val rfl (V.assign rfl) ?_
      refine Wl.nil ?_
      refine Wx.then_n ?_
      refine Wc.ret ?_
      repeat (first | refine Wx.then_r ?_ | refine Wx.blk_r ?_ | refine Wx.ng_r ?_)
      refine Wx.ret1 rfl rfl rfl ?_
      exact Ent.resC (by simp only [largeB, *, decide_true, decide_false, Bool.true_or, Bool.false_or, Bool.or_true, Bool.or_false])
    · -- t13 is False
      try replace hb13 := of_decide_eq_false hb13
      refine Wl.gT rfl rfl ?_
      refine Wl.val rfl (V.fld _ rfl O_law09_Act_2 rfl) ?_
      refine Wl.gT rfl rfl ?_
      refine Wl.val rfl (V.fld _ rfl O_api_Entry_2 rfl) ?_
      refine Wl.gT rfl rfl ?_
      refine Wl.val rfl (V.ld rfl C_string rfl) ?_
      refine Wl.gT rfl rfl ?_
      refine Wl.val rfl (V.lenT rfl U_string) ?_
      refine Wl.gT rfl rfl ?_
      refine Wl.val rfl (V.gtr rfl rfl) ?_
      refine Wl.val rfl (V.pickF rfl rfl) ?_
      refine Wl.val rfl (V.move rfl) ?_
      refine Wl.bool 20 rfl (fun hb20 => ?_) (fun hb20 => ?_)
      · -- t20 is True
        try replace hb20 := of_decide_eq_true hb20
        refine Wl.gF rfl rfl rfl ?_
        refine Wl.gF rfl rfl rfl ?_
        refine Wl.gF rfl rfl rfl ?_
        refine Wl.gF rfl rfl rfl ?_
        refine Wl.val rfl (V.pickT rfl rfl) ?_
        refine Wl.val rfl (V.assign rfl) ?_
        refine Wl.nil ?_
        refine Wx.then_n ?_
        refine Wc.ret ?_
        repeat (first | refine Wx.then_r ?_ | refine Wx.blk_r ?_ | refine Wx.ng_r ?_)
        refine Wx.ret1 rfl rfl rfl ?_
        exact Ent.resC (by simp only [largeB, *, decide_true, decide_false, Bool.true_or, Bool.false_or, Bool.or_true, Bool.or_false])
      · -- t20 is False
        try replace hb20 := of_decide_eq_false hb20
        refine Wl.gT rfl rfl ?_
        refine Wl.val rfl (V.fld _ rfl O_law09_Act_3 rfl) ?_
        refine Wl.gT rfl rfl ?_
        refine Wl.val rfl (V.ld rfl C_Sint64 rfl) ?_
        refine Wl.gT rfl rfl ?_
        refine Wl.val rfl (V.lenW rfl U_Sint64 ht) ?_
        refine Wl.gT rfl rfl ?_
        refine Wl.val rfl (V.gtr rfl rfl) ?_
        refine Wl.val rfl (V.pickF rfl rfl) ?_
        refine Wl.val rfl (V.assign rfl) ?_
        refine Wl.nil ?_
        refine Wx.then_n ?_
        refine Wc.ret ?_
        repeat (first | refine Wx.then_r ?_ | refine Wx.blk_r ?_ | refine Wx.ng_r ?_)
        refine Wx.ret1 rfl rfl rfl ?_
        exact Ent.resC (by simp only [largeB, *, decide_true, decide_false, Bool.true_or, Bool.false_or, Bool.or_true, Bool.or_false])
theorem s_law09_do {S : HP} {tv lv : Value} (cc d : Nat) {D : DevM} {C : CacheM} (hC : CacheOk D C) (x : ActM) (hx : ActOk x) (ht : Vw S tv 1 x.t.length (numsV x.t)) (hl : Vw S lv 2 x.l.length (keepsV x.l)) : Ctr P f_law09_do [ptr cc, actA x tv lv] (Cache cc d C * (Dev d D * S)) (fun r => pu (r = i64 (lDo D C x).2.2) * (Cache cc d (lDo D C x).2.1 * (Dev d (lDo D C x).1 * S))) := by
  have ho1 := ht.one
  have ho2 := hl.one
  refine Ctr.of_body (m := 52) fn_law09_do rfl rfl rfl rfl rfl (fun F g => ?_)
  refine Wc.ent (H' := Cache cc d C * (Dev d D * (S * F))) Ent.auto ?_
  refine Wc.seq ?_
  refine Wc.region ?_
  refine Wl.al rfl (M.box (l := actV x tv lv) rfl rfl) (fun r3 => ?_)
  refine Wl.val rfl (V.assign rfl) ?_
  refine Wl.nil ?_
  refine Wx.then_n ?_
  refine Wc.seq ?_
  refine Wc.seq ?_
  refine Wc.region ?_
  refine Wl.val rfl (V.fld _ rfl O_law09_Act_0 rfl) ?_
  refine Wl.val rfl (V.ld rfl C_int rfl) ?_
  refine Wl.nil ?_
  refine Wx.then_n ?_
  refine Wc.block ?_
  refine Wc.seq ?_
  refine Wc.region ?_
  refine Wl.val rfl (V.eql rfl rfl) ?_
  refine Wl.val rfl (V.assign rfl) ?_
  refine Wl.nil ?_
  refine Wx.then_n ?_
  refine Wc.cond rfl (fun hc1 => ?_) (fun hc1 => ?_)
  · skip
    try replace hc1 := of_decide_eq_true hc1
    refine Wc.seq ?_
    refine Wc.region ?_
    refine Wl.val rfl (V.move rfl) ?_
    refine Wl.val rfl (V.fld _ rfl O_law09_Act_2 rfl) ?_
    refine Wl.val rfl (V.ldA (vs := etyV x.e) rfl C_api_Entry rfl) ?_
    first | refine Wl.callE rfl rfl (s_cache_Cache_Put cc d hC x.e hx.block hx.v hx.client hx.en) ?_ | refine Wl.callD rfl rfl (s_cache_Cache_Put cc d hC x.e hx.block hx.v hx.client hx.en) (by first | exact Take.here | exact Take.there Take.here | exact Take.there (Take.there Take.here) | exact Take.there (Take.there (Take.there Take.here)) | exact Take.none _ | exact TakeC.t | exact Take.there (Take.there (Take.there (Take.there Take.here))) | exact Take.there (Take.there (Take.there (Take.there (Take.there Take.here)))) | exact Take.there (Take.there (Take.there (Take.there (Take.there (Take.there Take.here)))))) ?_
    refine Wl.val rfl (V.assign rfl) ?_
    refine Wl.nil ?_
    refine Wx.then_n ?_
    refine Wc.ret ?_
    repeat (first | refine Wx.then_r ?_ | refine Wx.blk_r ?_ | refine Wx.ng_r ?_)
    refine Wx.ret1 rfl rfl rfl ?_
    rw [show lDo D C x = cPut D C x.e by unfold lDo; rw [if_pos (by assumption)]]
    exact Ent.resC rfl
  · skip
    try replace hc1 := of_decide_eq_false hc1
    refine Wc.seq ?_
    refine Wc.region ?_
    refine Wl.val rfl (V.eql rfl rfl) ?_
    refine Wl.val rfl (V.assign rfl) ?_
    refine Wl.nil ?_
    refine Wx.then_n ?_
    refine Wc.cond rfl (fun hc2 => ?_) (fun hc2 => ?_)
    · skip
      try replace hc2 := of_decide_eq_true hc2
      refine Wc.seq ?_
      refine Wc.region ?_
      refine Wl.val rfl (V.move rfl) ?_
      refine Wl.val rfl (V.fld _ rfl O_law09_Act_2 rfl) ?_
      refine Wl.val rfl (V.fld _ rfl O_api_Entry_0 rfl) ?_
      refine Wl.val rfl (V.ld rfl C_int rfl) ?_
      refine Wl.val rfl (V.fld _ rfl O_law09_Act_2 rfl) ?_
      refine Wl.val rfl (V.fld _ rfl O_api_Entry_1 rfl) ?_
      refine Wl.val rfl (V.ldA (vs := verV x.e.v) rfl C_api_Version rfl) ?_
      first | refine Wl.callE rfl rfl (s_cache_Cache_Clean cc d hC x.e.block x.e.v hx.v) ?_ | refine Wl.callD rfl rfl (s_cache_Cache_Clean cc d hC x.e.block x.e.v hx.v) (by first | exact Take.here | exact Take.there Take.here | exact Take.there (Take.there Take.here) | exact Take.there (Take.there (Take.there Take.here)) | exact Take.none _ | exact TakeC.t | exact Take.there (Take.there (Take.there (Take.there Take.here))) | exact Take.there (Take.there (Take.there (Take.there (Take.there Take.here)))) | exact Take.there (Take.there (Take.there (Take.there (Take.there (Take.there Take.here)))))) ?_
      refine Wl.val rfl (V.assign rfl) ?_
      refine Wl.nil ?_
      refine Wx.then_n ?_
      refine Wc.ret ?_
      repeat (first | refine Wx.then_r ?_ | refine Wx.blk_r ?_ | refine Wx.ng_r ?_)
      refine Wx.ret1 rfl rfl rfl ?_
      rw [show lDo D C x = cClean D C x.e.block x.e.v by unfold lDo; rw [if_neg (by assumption), if_pos (by assumption)]]
      exact Ent.resC rfl
    · skip
      try replace hc2 := of_decide_eq_false hc2
      refine Wc.seq ?_
      refine Wc.region ?_
      refine Wl.val rfl (V.eql rfl rfl) ?_
      refine Wl.val rfl (V.assign rfl) ?_
      refine Wl.nil ?_
      refine Wx.then_n ?_
      refine Wc.cond rfl (fun hc3 => ?_) (fun hc3 => ?_)
      · skip
        try replace hc3 := of_decide_eq_true hc3
        refine Wc.seq ?_
        refine Wc.region ?_
        refine Wl.val rfl (V.move rfl) ?_
        refine Wl.val rfl (V.fld _ rfl O_law09_Act_2 rfl) ?_
        refine Wl.val rfl (V.fld _ rfl O_api_Entry_0 rfl) ?_
        refine Wl.val rfl (V.ld rfl C_int rfl) ?_
        first | refine Wl.callE rfl rfl (s_cache_Cache_Drop cc d hC x.e.block) ?_ | refine Wl.callD rfl rfl (s_cache_Cache_Drop cc d hC x.e.block) (by first | exact Take.here | exact Take.there Take.here | exact Take.there (Take.there Take.here) | exact Take.there (Take.there (Take.there Take.here)) | exact Take.none _ | exact TakeC.t | exact Take.there (Take.there (Take.there (Take.there Take.here))) | exact Take.there (Take.there (Take.there (Take.there (Take.there Take.here)))) | exact Take.there (Take.there (Take.there (Take.there (Take.there (Take.there Take.here)))))) ?_
        refine Wl.val rfl (V.assign rfl) ?_
        refine Wl.nil ?_
        refine Wx.then_n ?_
        refine Wc.ret ?_
        repeat (first | refine Wx.then_r ?_ | refine Wx.blk_r ?_ | refine Wx.ng_r ?_)
        refine Wx.ret1 rfl rfl rfl ?_
        rw [show lDo D C x = cDrop D C x.e.block by unfold lDo; rw [if_neg (by assumption), if_neg (by assumption), if_pos (by assumption)]]
        exact Ent.resC rfl
      · skip
        try replace hc3 := of_decide_eq_false hc3
        refine Wc.seq ?_
        refine Wc.region ?_
        refine Wl.val rfl (V.eql rfl rfl) ?_
        refine Wl.val rfl (V.assign rfl) ?_
        refine Wl.nil ?_
        refine Wx.then_n ?_
        refine Wc.cond rfl (fun hc4 => ?_) (fun hc4 => ?_)
        · skip
          try replace hc4 := of_decide_eq_true hc4
          refine Wc.seq ?_
          refine Wc.region ?_
          refine Wl.val rfl (V.move rfl) ?_
          refine Wl.val rfl (V.fld _ rfl O_law09_Act_2 rfl) ?_
          refine Wl.val rfl (V.fld _ rfl O_api_Entry_1 rfl) ?_
          refine Wl.val rfl (V.ldA (vs := verV x.e.v) rfl C_api_Version rfl) ?_
          refine Wl.val rfl (V.fld _ rfl O_law09_Act_3 rfl) ?_
          refine Wl.val rfl (V.ld rfl C_Sint64 rfl) ?_
          first | refine Wl.callE rfl rfl (s_cache_Cache_Note cc d hC x.e.v hx.v x.t ht hx.t) ?_ | refine Wl.callD rfl rfl (s_cache_Cache_Note cc d hC x.e.v hx.v x.t ht hx.t) (by first | exact Take.here | exact Take.there Take.here | exact Take.there (Take.there Take.here) | exact Take.there (Take.there (Take.there Take.here)) | exact Take.none _ | exact TakeC.t | exact Take.there (Take.there (Take.there (Take.there Take.here))) | exact Take.there (Take.there (Take.there (Take.there (Take.there Take.here)))) | exact Take.there (Take.there (Take.there (Take.there (Take.there (Take.there Take.here)))))) ?_
          refine Wl.val rfl (V.assign rfl) ?_
          refine Wl.nil ?_
          refine Wx.then_n ?_
          refine Wc.ret ?_
          repeat (first | refine Wx.then_r ?_ | refine Wx.blk_r ?_ | refine Wx.ng_r ?_)
          refine Wx.ret1 rfl rfl rfl ?_
          rw [show lDo D C x = cNote D C x.e.v x.t by unfold lDo; rw [if_neg (by assumption), if_neg (by assumption), if_neg (by assumption), if_pos (by assumption)]]
          exact Ent.resC rfl
        · skip
          try replace hc4 := of_decide_eq_false hc4
          refine Wc.seq ?_
          refine Wc.region ?_
          refine Wl.val rfl (V.eql rfl rfl) ?_
          refine Wl.val rfl (V.assign rfl) ?_
          refine Wl.nil ?_
          refine Wx.then_n ?_
          refine Wc.cond rfl (fun hc5 => ?_) (fun hc5 => ?_)
          · skip
            try replace hc5 := of_decide_eq_true hc5
            refine Wc.seq ?_
            refine Wc.region ?_
            refine Wl.val rfl (V.move rfl) ?_
            refine Wl.val rfl (V.fld _ rfl O_law09_Act_2 rfl) ?_
            refine Wl.val rfl (V.fld _ rfl O_api_Entry_1 rfl) ?_
            refine Wl.val rfl (V.ldA (vs := verV x.e.v) rfl C_api_Version rfl) ?_
            refine Wl.val rfl (V.fld _ rfl O_law09_Act_3 rfl) ?_
            refine Wl.val rfl (V.ld rfl C_Sint64 rfl) ?_
            first | refine Wl.callE rfl rfl (s_cache_Cache_Reset cc d hC x.e.v hx.v x.t ht hx.t) ?_ | refine Wl.callD rfl rfl (s_cache_Cache_Reset cc d hC x.e.v hx.v x.t ht hx.t) (by first | exact Take.here | exact Take.there Take.here | exact Take.there (Take.there Take.here) | exact Take.there (Take.there (Take.there Take.here)) | exact Take.none _ | exact TakeC.t | exact Take.there (Take.there (Take.there (Take.there Take.here))) | exact Take.there (Take.there (Take.there (Take.there (Take.there Take.here)))) | exact Take.there (Take.there (Take.there (Take.there (Take.there (Take.there Take.here)))))) ?_
            refine Wl.val rfl (V.assign rfl) ?_
            refine Wl.nil ?_
            refine Wx.then_n ?_
            refine Wc.ret ?_
            repeat (first | refine Wx.then_r ?_ | refine Wx.blk_r ?_ | refine Wx.ng_r ?_)
            refine Wx.ret1 rfl rfl rfl ?_
            rw [show lDo D C x = cReset D C x.e.v x.t by unfold lDo; rw [if_neg (by assumption), if_neg (by assumption), if_neg (by assumption), if_neg (by assumption), if_pos (by assumption)]]
            exact Ent.resC rfl
          · skip
            try replace hc5 := of_decide_eq_false hc5
            refine Wc.seq ?_
            refine Wc.region ?_
            refine Wl.val rfl (V.eql rfl rfl) ?_
            refine Wl.val rfl (V.assign rfl) ?_
            refine Wl.nil ?_
            refine Wx.then_n ?_
            refine Wc.cond rfl (fun hc6 => ?_) (fun hc6 => ?_)
            · skip
              try replace hc6 := of_decide_eq_true hc6
              refine Wc.seq ?_
              refine Wc.region ?_
              refine Wl.val rfl (V.move rfl) ?_
              first | refine Wl.callE rfl rfl (s_cache_Cache_Sync cc d C hC.log.dev) ?_ | refine Wl.callD rfl rfl (s_cache_Cache_Sync cc d C hC.log.dev) (by first | exact Take.here | exact Take.there Take.here | exact Take.there (Take.there Take.here) | exact Take.there (Take.there (Take.there Take.here)) | exact Take.none _ | exact TakeC.t | exact Take.there (Take.there (Take.there (Take.there Take.here))) | exact Take.there (Take.there (Take.there (Take.there (Take.there Take.here)))) | exact Take.there (Take.there (Take.there (Take.there (Take.there (Take.there Take.here)))))) ?_
              refine Wl.val rfl (V.assign rfl) ?_
              refine Wl.nil ?_
              refine Wx.then_n ?_
              refine Wc.ret ?_
              repeat (first | refine Wx.then_r ?_ | refine Wx.blk_r ?_ | refine Wx.ng_r ?_)
              refine Wx.ret1 rfl rfl rfl ?_
              rw [show lDo D C x = cSync D C by unfold lDo; rw [if_neg (by assumption), if_neg (by assumption), if_neg (by assumption), if_neg (by assumption), if_neg (by assumption), if_pos (by assumption)]]
              show Ent _ (pu (_ = i64 (cSync D C).2.2) * (Cache cc d C * (Dev d (cSync D C).1 * S)) * F)
              exact Ent.resC rfl
            · skip
              try replace hc6 := of_decide_eq_false hc6
              refine Wc.skip ?_
              refine Wx.blk_n ?_
              refine Wx.then_n ?_
              refine Wc.seq ?_
              refine Wc.region ?_
              refine Wl.val rfl (V.assign rfl) ?_
              refine Wl.nil ?_
              refine Wx.then_n ?_
              refine Wc.ret ?_
              repeat (first | refine Wx.then_r ?_ | refine Wx.blk_r ?_ | refine Wx.ng_r ?_)
              refine Wx.ret1 rfl rfl rfl ?_
              rw [show lDo D C x = (D, C, 0) by unfold lDo; rw [if_neg (by assumption), if_neg (by assumption), if_neg (by assumption), if_neg (by assumption), if_neg (by assumption), if_neg (by assumption)]]
              exact Ent.resC rfl
theorem s_law09_open (ring : Nat) (hr : ring < 256) (h0 : (open0 ring).2.2 = 0) : Ctr P f_law09_open [.int .u8 (ring : Nat)] emp (fun v => ex fun (q : Nat × Nat) => pu (v = .tuple #[ptr q.1, ptr q.2, i64 (openN ring : Nat)]) * (Cache q.2 q.1 (open0 ring).2.1 * Dev q.1 (open0 ring).1)) := by
  have hrm : Int.tmod (ring : Int) 30 = ((ring % 30 : Nat) : Int) := tmod_nat ring 30
  have hlt : ring % 30 < 30 := Nat.mod_lt _ (by omega)
  unfold open0 at h0
  unfold open0
  refine Ctr.of_body (m := 25) fn_law09_open rfl rfl rfl rfl rfl (fun F g => ?_)
  refine Wc.seq ?_
  refine Wc.region ?_
  refine Wl.val rfl (V.assign rfl) ?_
  refine Wl.val rfl (V.assign rfl) ?_
  refine Wl.val rfl (V.assign rfl) ?_
  refine Wl.nil ?_
  refine Wx.then_n ?_
  refine Wc.seq ?_
  refine Wc.region ?_
  refine Wl.val rfl (V.move rfl) ?_
  refine Wl.val rfl (V.remk rfl rfl (by decide) hrm) ?_
  refine Wl.val rfl (V.conv rfl U_uint8 U_int (wr64 (by omega) (by omega))) ?_
  refine Wl.val rfl (V.addk rfl rfl (r := ((openN ring : Nat) : Int)) (by rw [wr64 (by omega) (by omega)]; unfold openN; omega)) ?_
  refine Wl.val rfl (V.assign rfl) ?_
  refine Wl.nil ?_
  refine Wx.then_n ?_
  refine Wc.seq ?_
  refine Wc.region ?_
  refine Wl.val rfl (V.move rfl) ?_
  refine Wl.val rfl (V.addk rfl rfl (r := ((openN ring + 2 : Nat) : Int)) (by unfold openN; rw [wr64 (by omega) (by omega)]; omega)) ?_
  refine Wl.call rfl rfl (s_sector_New (openN ring + 2) (by unfold openN; omega)) (by first | exact Take.here | exact Take.there Take.here | exact Take.there (Take.there Take.here) | exact Take.there (Take.there (Take.there Take.here)) | exact Take.none _ | exact TakeC.t | exact Take.there (Take.there (Take.there (Take.there Take.here))) | exact Take.there (Take.there (Take.there (Take.there (Take.there Take.here)))) | exact Take.there (Take.there (Take.there (Take.there (Take.there (Take.there Take.here)))))) (fun v15 => ?_)
  refine Wl.exm (fun d => ?_)
  refine Wl.pull (fun hd => ?_)
  subst hd
  have hNl : (devNew (openN ring + 2)).l.length = openN ring + 2 := by simp [devNew]
  refine Wl.val rfl (V.assign rfl) ?_
  refine Wl.nil ?_
  refine Wx.then_n ?_
  refine Wc.seq ?_
  refine Wc.region ?_
  refine Wl.val rfl (V.move rfl) ?_
  refine Wl.val rfl (V.move rfl) ?_
  refine Wl.call rfl rfl (s_cache_Open d (devNew_ok (openN ring + 2) (by unfold openN; omega)) rfl 2 (openN ring) 0 1 32 ⟨by omega, by omega⟩ (by unfold openN; omega) (by omega) (by decide) (by omega) (by omega) (.inl (by decide)) (.inl (by decide))) (by first | exact Take.here | exact Take.there Take.here | exact Take.there (Take.there Take.here) | exact Take.there (Take.there (Take.there Take.here)) | exact Take.none _ | exact TakeC.t | exact Take.there (Take.there (Take.there (Take.there Take.here))) | exact Take.there (Take.there (Take.there (Take.there (Take.there Take.here)))) | exact Take.there (Take.there (Take.there (Take.there (Take.there (Take.there Take.here)))))) (fun v19 => ?_)
  refine Wl.exm (fun o => ?_)
  refine Wl.pull (fun hq => ?_)
  obtain ⟨rfl, hoe⟩ := hq
  obtain ⟨cc, rfl⟩ : ∃ cc, o = some cc := by cases o with
    | none => exact absurd (hoe.2 h0) (by simp)
    | some cc => exact ⟨cc, rfl⟩
  rw [show ∀ H : Nat → HP, optH H (some cc) = H cc from fun _ => rfl]
  refine Wl.ent (H' := Cache cc d (cOpen (devNew (openN ring + 2)) 2 (openN ring) 0 1 32).2.1 * (Dev d (cOpen (devNew (openN ring + 2)) 2 (openN ring) 0 1 32).1 * F)) Ent.auto ?_
  refine Wl.val rfl (V.move rfl) ?_
  refine Wl.val rfl (V.ext rfl rfl) ?_
  refine Wl.val rfl (V.ext rfl rfl) ?_
  refine Wl.val rfl (V.assign rfl) ?_
  refine Wl.val rfl (V.assign rfl) ?_
  refine Wl.nil ?_
  refine Wx.then_n ?_
  refine Wc.seq ?_
  refine Wc.region ?_
  refine Wl.val rfl (V.move rfl) ?_
  refine Wl.val rfl (V.move rfl) ?_
  refine Wl.val rfl (V.move rfl) ?_
  refine Wl.val rfl (V.assign rfl) ?_
  refine Wl.val rfl (V.assign rfl) ?_
  refine Wl.val rfl (V.assign rfl) ?_
  refine Wl.nil ?_
  refine Wx.then_n ?_
  refine Wc.ret ?_
  repeat (first | refine Wx.then_r ?_ | refine Wx.blk_r ?_ | refine Wx.ng_r ?_)
  refine Wx.ret3 rfl rfl rfl rfl rfl ?_
  rw [ex_mul]; refine Ent.ex (d, cc) ?_
  exact Ent.resC rfl
theorem s_ref09_Above (a b : Ver) : Ctr P f_ref09_Above [.agg (verV a).toArray, .agg (verV b).toArray] emp (fun v => pu (v = .bool (above a b)) * emp) := by
  refine Ctr.of_body (m := 20) fn_ref09_Above rfl rfl rfl rfl rfl (fun F g => ?_)
  refine Wc.seq ?_
  refine Wc.region ?_
  refine Wl.al rfl (M.box rfl rfl) (fun r2 => ?_)
  refine Wl.al rfl (M.box rfl rfl) (fun r3 => ?_)
  refine Wl.val rfl (V.assign rfl) ?_
  refine Wl.nil ?_
  refine Wx.then_n ?_
  refine Wc.seq ?_
  refine Wc.seq ?_
  refine Wc.region ?_
  refine Wl.val rfl (V.fld _ rfl O_api_Version_0 rfl) ?_
  refine Wl.val rfl (V.ld rfl C_int64 rfl) ?_
  refine Wl.val rfl (V.fld _ rfl O_api_Version_0 rfl) ?_
  refine Wl.val rfl (V.ld rfl C_int64 rfl) ?_
  refine Wl.val rfl (V.neq rfl rfl) ?_
  refine Wl.nil ?_
  refine Wx.then_n ?_
  refine Wc.cond rfl (fun hc1 => ?_) (fun hc1 => ?_)
  · skip
    try replace hc1 := of_decide_eq_true hc1
    refine Wc.seq ?_
    refine Wc.region ?_
    refine Wl.val rfl (V.fld _ rfl O_api_Version_0 rfl) ?_
    refine Wl.val rfl (V.ld rfl C_int64 rfl) ?_
    refine Wl.val rfl (V.fld _ rfl O_api_Version_0 rfl) ?_
    refine Wl.val rfl (V.ld rfl C_int64 rfl) ?_
    refine Wl.val rfl (V.gtr rfl rfl) ?_
    refine Wl.val rfl (V.assign rfl) ?_
    refine Wl.nil ?_
    refine Wx.then_n ?_
    refine Wc.ret ?_
    repeat (first | refine Wx.then_r ?_ | refine Wx.blk_r ?_ | refine Wx.ng_r ?_)
    refine Wx.ret1 rfl rfl rfl ?_
    have h : ¬ a.ep = b.ep := by simpa using hc1
    exact Ent.resC (by simp [above, h])
  · skip
    try replace hc1 := of_decide_eq_false hc1
    refine Wc.skip ?_
    refine Wx.then_n ?_
    refine Wc.seq ?_
    refine Wc.region ?_
    refine Wl.val rfl (V.fld _ rfl O_api_Version_1 rfl) ?_
    refine Wl.val rfl (V.ld rfl C_int64 rfl) ?_
    refine Wl.val rfl (V.fld _ rfl O_api_Version_1 rfl) ?_
    refine Wl.val rfl (V.ld rfl C_int64 rfl) ?_
    refine Wl.val rfl (V.gtr rfl rfl) ?_
    refine Wl.val rfl (V.assign rfl) ?_
    refine Wl.nil ?_
    refine Wx.then_n ?_
    refine Wc.ret ?_
    repeat (first | refine Wx.then_r ?_ | refine Wx.blk_r ?_ | refine Wx.ng_r ?_)
    refine Wx.ret1 rfl rfl rfl ?_
    have h : a.ep = b.ep := by simpa using hc1
    exact Ent.resC (by simp [above, h])
end Go.Proofs.YtjfacgmobpbhcaaGreat
/- The walks: laws on caches. -/
namespace Go.Proofs.YtjfacgmobpbhcaaGreat
open Go.Sl Sei
theorem ctr_post_know {f : FuncId} {args : List Value} {A : HP} {Φ : Value → HP} {p : Value → Prop} (h : Ctr P f args A Φ) (hp : ∀ v g w, Sat g w (Φ v) → p v) : Ctr P f args A (fun v => pu (p v) * Φ v) :=
  ⟨h.enters, fun F g w s => Calls.mono (h.calls F g w s) fun e w' hR => by
    obtain ⟨v, he, s'⟩ := hR
    refine ⟨v, he, s'.ent ?_⟩
    rw [sep_assoc]
    exact Ent.pure (hp v g w' (s'.ent (Ent.left _ _)))⟩
theorem s_cache_Cache_AllV (cc d : Nat) (C : CacheM) (hb : 1 ≤ C.blocks ∧ C.blocks ≤ 32) : Ctr P f_cache_Cache_All [ptr cc] (Cache cc d C) (fun v => pu (Vw (own T_api_Entry 7 v (cAll C).length (etysV (cAll C))) v 7 (cAll C).length (etysV (cAll C))) * (own T_api_Entry 7 v (cAll C).length (etysV (cAll C)) * Cache cc d C)) :=
  ctr_post_know (s_cache_Cache_All cc d C hb) fun v g w s => Vw.of_own T_api_Entry 7 v _ _ g w (s.ent (Ent.left _ _))
abbrev ToldV (av : Value) (a : List Ety × Kept) : Prop := Vw (own T_api_Entry 7 av a.1.length (etysV a.1)) av 7 a.1.length (etysV a.1)
abbrev toldO (av : Value) (a : List Ety × Kept) : HP := own T_api_Entry 7 av a.1.length (etysV a.1)
theorem s_law09_toldV (cc d : Nat) (C : CacheM) (hb : 1 ≤ C.blocks ∧ C.blocks ≤ 32) : Ctr P f_law09_told [ptr cc] (Cache cc d C) (fun v => ex fun (av : Value) => pu (v = .agg (stV av (toldOf C).2).toArray) * (pu (ToldV av (toldOf C)) * (toldO av (toldOf C) * Cache cc d C))) :=
  ⟨(s_law09_told cc d C hb).enters, fun F g w s => Calls.mono ((s_law09_told cc d C hb).calls F g w s) fun e w' hR => by
    obtain ⟨v, he, s'⟩ := hR
    refine ⟨v, he, ?_⟩
    rw [ex_mul] at s' ⊢
    obtain ⟨av, s'⟩ := s'.exE
    rw [sep_assoc] at s'
    obtain ⟨hv, s2⟩ := s'.pure
    have s3 : Sat g w' (pu (v = .agg (stV av (toldOf C).2).toArray) * (pu (ToldV av (toldOf C)) * (toldO av (toldOf C) * Cache cc d C)) * F) := s2.ent (by
      rw [sep_assoc (pu _), sep_assoc (pu _)]
      exact (Ent.pure (Vw.of_own T_api_Entry 7 av _ _ g w' (s2.ent (by rw [sep_assoc]; exact Ent.left _ _)))).trans (Ent.pure hv))
    exact s3.ent (Ent.ex av (Ent.refl _))⟩
theorem s_law09_full (cc d : Nat) {D : DevM} {C : CacheM} (hC : CacheOk D C) (b : Int) : Ctr P f_law09_full [ptr cc, i64 b] (Cache cc d C) (fun v => pu (v = .bool (!(cGet C b).2 && decide (cRoom C ≤ ((cAll C).length : Int)))) * Cache cc d C) := by
  have hnn : -1000 ≤ C.n ∧ C.n ≤ 1000 := by have := hC.n; have := hC.log.n'; omega
  refine Ctr.of_body (m := 23) fn_law09_full rfl rfl rfl rfl rfl (fun F g => ?_)
  refine Wc.seq ?_
  refine Wc.region ?_
  refine Wl.val rfl (V.assign rfl) ?_
  refine Wl.nil ?_
  refine Wx.then_n ?_
  refine Wc.seq ?_
  refine Wc.region ?_
  refine Wl.val rfl (V.move rfl) ?_
  refine Wl.val rfl (V.move rfl) ?_
  first | refine Wl.callE rfl rfl (s_cache_Cache_Get cc d C b) ?_ | refine Wl.callD rfl rfl (s_cache_Cache_Get cc d C b) (by first | exact Take.here | exact Take.there Take.here | exact Take.there (Take.there Take.here) | exact Take.there (Take.there (Take.there Take.here)) | exact Take.none _ | exact TakeC.t | exact Take.there (Take.there (Take.there (Take.there Take.here))) | exact Take.there (Take.there (Take.there (Take.there (Take.there Take.here)))) | exact Take.there (Take.there (Take.there (Take.there (Take.there (Take.there Take.here)))))) ?_
  refine Wl.val rfl (V.move rfl) ?_
  refine Wl.val rfl (V.ext rfl rfl) ?_
  refine Wl.val rfl (V.ext rfl rfl) ?_
  refine Wl.al rfl (M.alloc N_api_Entry) (fun r5 => ?_)
  refine Wl.st (Go.Sl.S.putA (vs := etyV (cGet C b).1) rfl rfl C_api_Entry rfl rfl rfl rfl) ?_
  refine Wl.val rfl (V.assign rfl) ?_
  refine Wl.nil ?_
  refine Wx.then_n ?_
  refine Wc.seq ?_
  refine Wc.region ?_
  refine Wl.val rfl (V.move rfl) ?_
  refine Wl.val rfl (V.not rfl) ?_
  refine Wl.val rfl (V.move rfl) ?_
  refine Wl.bool 15 rfl (fun hb15 => ?_) (fun hb15 => ?_)
  · -- t15 is True
    try replace hb15 := of_decide_eq_true hb15
    refine Wl.gT rfl rfl ?_
    refine Wl.val rfl (V.move rfl) ?_
    refine Wl.gT rfl rfl ?_
    refine Wl.call rfl rfl (s_cache_Cache_AllV cc d C hC.blocks) (by first | exact Take.here | exact Take.there Take.here | exact Take.there (Take.there Take.here) | exact Take.there (Take.there (Take.there Take.here)) | exact Take.none _ | exact TakeC.t | exact Take.there (Take.there (Take.there (Take.there Take.here))) | exact Take.there (Take.there (Take.there (Take.there (Take.there Take.here)))) | exact Take.there (Take.there (Take.there (Take.there (Take.there (Take.there Take.here)))))) (fun v17 => ?_)
    refine Wl.pull (fun hv => ?_)
    refine Wl.gT rfl rfl ?_
    refine Wl.val rfl (V.lenW rfl U_Sapi_Entry hv) ?_
    refine Wl.gT rfl rfl ?_
    refine Wl.val rfl (V.move rfl) ?_
    refine Wl.gT rfl rfl ?_
    first | refine Wl.callE rfl rfl (s_cache_Cache_Room cc d C hnn) ?_ | refine Wl.callD rfl rfl (s_cache_Cache_Room cc d C hnn) (by first | exact Take.here | exact Take.there Take.here | exact Take.there (Take.there Take.here) | exact Take.there (Take.there (Take.there Take.here)) | exact Take.none _ | exact TakeC.t | exact Take.there (Take.there (Take.there (Take.there Take.here))) | exact Take.there (Take.there (Take.there (Take.there (Take.there Take.here)))) | exact Take.there (Take.there (Take.there (Take.there (Take.there (Take.there Take.here)))))) ?_
    refine Wl.gT rfl rfl ?_
    refine Wl.val rfl (V.geq rfl rfl) ?_
    refine Wl.val rfl (V.pickT rfl rfl) ?_
    refine Wl.val rfl (V.assign rfl) ?_
    refine Wl.nil ?_
    refine Wx.then_n ?_
    refine Wc.ret ?_
    repeat (first | refine Wx.then_r ?_ | refine Wx.blk_r ?_ | refine Wx.ng_r ?_)
    refine Wx.ret1 rfl rfl rfl ?_
    exact Ent.resC (by simp only [*, Bool.not_true, Bool.not_false, Bool.true_and, Bool.false_and])
  · -- t15 is False
    try replace hb15 := of_decide_eq_false hb15
    refine Wl.gF rfl rfl rfl ?_
    refine Wl.gF rfl rfl rfl ?_
    refine Wl.gF rfl rfl rfl ?_
    refine Wl.gF rfl rfl rfl ?_
    refine Wl.gF rfl rfl rfl ?_
    refine Wl.gF rfl rfl rfl ?_
    refine Wl.val rfl (V.pickF rfl rfl) ?_
    refine Wl.val rfl (V.assign rfl) ?_
    refine Wl.nil ?_
    refine Wx.then_n ?_
    refine Wc.ret ?_
    repeat (first | refine Wx.then_r ?_ | refine Wx.blk_r ?_ | refine Wx.ng_r ?_)
    refine Wx.ret1 rfl rfl rfl ?_
    exact Ent.resC (by simp only [*, Bool.not_true, Bool.not_false, Bool.true_and, Bool.false_and])
abbrev AwakeC : Prop := Ctr P f_law09_awake [] emp (fun r => pu (r = .bool true) * emp)
abbrev LHeap (cc d : Nat) (q : DevM × CacheM) (S : HP) : HP := Cache cc d q.2 * (Dev d q.1 * S)
theorem act_le {acts : ActL} {S : HP} {v : Value} (hA : ActsAt S v acts) : acts.length ≤ 9223372036854775807 := hA.vw.le
theorem s_law09_CacheErrors {S : HP} {v : Value} (haw : AwakeC) (ring : Nat) (hr : ring < 256) (acts : ActL) (hA : ActsAt S v acts) (H : ErrsOk ring acts) : Ctr P f_law09_CacheErrors [.int .u8 (ring : Nat), v] S (fun r => pu (r = .bool true) * S) := by
  have hle := act_le hA
  refine Ctr.of_body (m := 74) fn_law09_CacheErrors rfl rfl rfl rfl rfl (fun F g => ?_)
  refine Wc.seq ?_
  refine Wc.region ?_
  refine Wl.val rfl (V.assign rfl) ?_
  refine Wl.nil ?_
  refine Wx.then_n ?_
  refine Wc.seq ?_
  refine Wc.seq ?_
  refine Wc.region ?_
  first | refine Wl.callE rfl rfl haw ?_ | refine Wl.callD rfl rfl haw (by first | exact Take.here | exact Take.there Take.here | exact Take.there (Take.there Take.here) | exact Take.there (Take.there (Take.there Take.here)) | exact Take.none _ | exact TakeC.t | exact Take.there (Take.there (Take.there (Take.there Take.here))) | exact Take.there (Take.there (Take.there (Take.there (Take.there Take.here)))) | exact Take.there (Take.there (Take.there (Take.there (Take.there (Take.there Take.here)))))) ?_
  refine Wl.val rfl (V.not rfl) ?_
  refine Wl.nil ?_
  refine Wx.then_n ?_
  refine Wc.cond rfl (fun hc1 => ?_) (fun hc1 => ?_)
  · skip
    try replace hc1 := of_decide_eq_true hc1
    refine Wc.seq ?_
    refine Wc.region ?_
    refine Wl.val rfl (V.assign rfl) ?_
    refine Wl.nil ?_
    refine Wx.then_n ?_
    refine Wc.ret ?_
    repeat (first | refine Wx.then_r ?_ | refine Wx.blk_r ?_ | refine Wx.ng_r ?_)
    refine Wx.ret1 rfl rfl rfl ?_
    simp at hc1
  · skip
    try replace hc1 := of_decide_eq_false hc1
    refine Wc.skip ?_
    refine Wx.then_n ?_
    refine Wc.seq ?_
    refine Wc.region ?_
    refine Wl.val rfl (V.move rfl) ?_
    refine Wl.call rfl rfl (s_law09_open ring hr H.opened) (by first | exact Take.here | exact Take.there Take.here | exact Take.there (Take.there Take.here) | exact Take.there (Take.there (Take.there Take.here)) | exact Take.none _ | exact TakeC.t | exact Take.there (Take.there (Take.there (Take.there Take.here))) | exact Take.there (Take.there (Take.there (Take.there (Take.there Take.here)))) | exact Take.there (Take.there (Take.there (Take.there (Take.there (Take.there Take.here)))))) (fun v16 => ?_)
    refine Wl.exm (fun q => ?_)
    refine Wl.pull (fun hq => ?_)
    subst hq
    refine Wl.val rfl (V.move rfl) ?_
    refine Wl.val rfl (V.ext rfl rfl) ?_
    refine Wl.val rfl (V.ext rfl rfl) ?_
    refine Wl.val rfl (V.ext rfl rfl) ?_
    refine Wl.val rfl (V.assign rfl) ?_
    refine Wl.val rfl (V.assign rfl) ?_
    refine Wl.val rfl (V.assign rfl) ?_
    refine Wl.nil ?_
    refine Wx.then_n ?_
    refine Wc.seq ?_
    refine Wc.seq ?_
    refine Wc.region ?_
    refine Wl.val rfl (V.move rfl) ?_
    refine Wl.val rfl (V.eqPtrNil rfl U_Pcache_Cache) ?_
    refine Wl.nil ?_
    refine Wx.then_n ?_
    refine Wc.cond rfl (fun hc2 => ?_) (fun hc2 => ?_)
    · skip
      try replace hc2 := of_decide_eq_true hc2
      refine Wc.seq ?_
      refine Wc.region ?_
      refine Wl.val rfl (V.assign rfl) ?_
      refine Wl.nil ?_
      refine Wx.then_n ?_
      refine Wc.ret ?_
      repeat (first | refine Wx.then_r ?_ | refine Wx.blk_r ?_ | refine Wx.ng_r ?_)
      refine Wx.ret1 rfl rfl rfl ?_
      simp at hc2
    · skip
      try replace hc2 := of_decide_eq_false hc2
      refine Wc.skip ?_
      refine Wx.then_n ?_
      refine Wc.seq ?_
      refine Wc.seq ?_
      refine Wc.region ?_
      refine Wl.val rfl (V.assign rfl) ?_
      refine Wl.nil ?_
      refine Wx.then_n ?_
      refine Wc.block ?_
      refine Wc.loop (α := Nat) (fun x => acts.length - x) (fun x => pu (x ≤ acts.length ∧ x ≤ 60) * LHeap q.2 q.1 (stN ring acts x) (S * F)) (fun x => [(1, v), (6, ptr q.2), (8, i64 (x : Nat))]) 0 (by exact (by rw [show stN ring acts 0 = ((open0 ring).1, (open0 ring).2.1) from rfl]; exact Ent.puC ⟨Nat.zero_le _, by decide⟩)) (by repeat (first | exact trivial | refine ⟨rfl, ?_⟩)) (fun x => ?_)
      refine Wc.pu (fun hx => ?_)
      refine Wc.seq ?_
      refine Wc.seq ?_
      refine Wc.region ?_
      refine Wl.val rfl (V.move rfl) ?_
      refine Wl.val rfl (V.move rfl) ?_
      refine Wl.val rfl (V.lenW rfl U_Slaw09_Act hA.vw) ?_
      refine Wl.val rfl (V.lss rfl rfl) ?_
      refine Wl.val rfl (V.move rfl) ?_
      refine Wl.bool 26 rfl (fun hb26 => ?_) (fun hb26 => ?_)
      · -- t26 is True
        try replace hb26 := of_decide_eq_true hb26
        refine Wl.gT rfl rfl ?_
        refine Wl.val rfl (V.move rfl) ?_
        refine Wl.gT rfl rfl ?_
        refine Wl.val rfl (V.lss rfl rfl) ?_
        refine Wl.val rfl (V.pickT rfl rfl) ?_
        refine Wl.nil ?_
        refine Wx.then_n ?_
        refine Wc.cond rfl (fun hc3 => ?_) (fun hc3 => ?_)
        · skip
          try replace hc3 := of_decide_eq_true hc3
          have hlt : x < acts.length := by omega
          obtain ⟨a, ha⟩ : ∃ a, acts[x]? = some a := ⟨_, List.getElem?_eq_getElem hlt⟩
          have hmem : a ∈ acts := List.mem_of_getElem? ha
          have hok := hA.ok a hmem
          have htv := hA.t a hmem
          have hlv := hA.l a hmem
          have ho1 := htv.one
          have ho2 := hlv.one
          have hC := H.ok x hx.2
          refine Wc.skip ?_
          refine Wx.then_n ?_
          refine Wc.seq ?_
          refine Wc.block ?_
          refine Wc.seq ?_
          refine Wc.region ?_
          refine Wl.val rfl (V.move rfl) ?_
          refine Wl.val rfl (V.move rfl) ?_
          refine Wl.val rfl (V.idxW rfl rfl U_Slaw09_Act Z_law09_Act hA.vw (by omega) (by omega)) ?_
          refine Wl.val rfl (V.ldAW (vs := actV a.1 a.2.1 a.2.2) rfl C_law09_Act hA.vw (by omega) (acts_at ha)) ?_
          refine Wl.al rfl (M.alloc N_law09_Act) (fun r9 => ?_)
          refine Wl.st (Go.Sl.S.putA (vs := actV a.1 a.2.1 a.2.2) rfl rfl C_law09_Act (by simp only [oneCells, ho1, ho2]; rfl) rfl rfl rfl) ?_
          refine Wl.nil ?_
          refine Wx.then_n ?_
          refine Wc.seq ?_
          refine Wc.seq ?_
          refine Wc.region ?_
          refine Wl.val rfl (V.ldA (vs := actV a.1 a.2.1 a.2.2) rfl C_law09_Act rfl) ?_
          first | refine Wl.callE rfl rfl (s_law09_large a.1 htv hlv) ?_ | refine Wl.callD rfl rfl (s_law09_large a.1 htv hlv) (by first | exact Take.here | exact Take.there Take.here | exact Take.there (Take.there Take.here) | exact Take.there (Take.there (Take.there Take.here)) | exact Take.none _ | exact TakeC.t | exact Take.there (Take.there (Take.there (Take.there Take.here))) | exact Take.there (Take.there (Take.there (Take.there (Take.there Take.here)))) | exact Take.there (Take.there (Take.there (Take.there (Take.there (Take.there Take.here)))))) ?_
          refine Wl.nil ?_
          refine Wx.then_n ?_
          refine Wc.cond rfl (fun hc4 => ?_) (fun hc4 => ?_)
          · skip
            try replace hc4 := of_decide_eq_true hc4
            refine Wc.seq ?_
            refine Wc.region ?_
            refine Wl.val rfl (V.assign rfl) ?_
            refine Wl.nil ?_
            refine Wx.then_n ?_
            refine Wc.ret ?_
            repeat (first | refine Wx.then_r ?_ | refine Wx.blk_r ?_ | refine Wx.ng_r ?_)
            refine Wx.ret1 rfl rfl rfl ?_
            exact Ent.resC rfl
          · skip
            try replace hc4 := of_decide_eq_false hc4
            refine Wc.skip ?_
            refine Wx.then_n ?_
            refine Wc.seq ?_
            refine Wc.region ?_
            refine Wl.val rfl (V.move rfl) ?_
            refine Wl.call rfl rfl (s_law09_toldV q.2 q.1 (stN ring acts x).2 hC.blocks) (by first | exact Take.here | exact Take.there Take.here | exact Take.there (Take.there Take.here) | exact Take.there (Take.there (Take.there Take.here)) | exact Take.none _ | exact TakeC.t | exact Take.there (Take.there (Take.there (Take.there Take.here))) | exact Take.there (Take.there (Take.there (Take.there (Take.there Take.here)))) | exact Take.there (Take.there (Take.there (Take.there (Take.there (Take.there Take.here)))))) (fun v39 => ?_)
            refine Wl.exm (fun av1 => ?_)
            refine Wl.pull (fun hq1 => ?_)
            subst hq1
            refine Wl.pull (fun hv1 => ?_)
            have ho3 := hv1.one
            refine Wl.al rfl (M.alloc N_law09_state) (fun r10 => ?_)
            refine Wl.st (Go.Sl.S.putA (vs := stV av1 (toldOf (stN ring acts x).2).2) rfl rfl C_law09_state (by simp only [oneCells, ho3]; rfl) rfl rfl rfl) ?_
            refine Wl.nil ?_
            refine Wx.then_n ?_
            refine Wc.seq ?_
            refine Wc.region ?_
            refine Wl.val rfl (V.move rfl) ?_
            refine Wl.val rfl (V.ldA (vs := actV a.1 a.2.1 a.2.2) rfl C_law09_Act rfl) ?_
            first | refine Wl.callE rfl rfl (s_law09_do q.2 q.1 hC a.1 hok htv hlv) ?_ | refine Wl.callD rfl rfl (s_law09_do q.2 q.1 hC a.1 hok htv hlv) (by first | exact Take.here | exact Take.there Take.here | exact Take.there (Take.there Take.here) | exact Take.there (Take.there (Take.there Take.here)) | exact Take.none _ | exact TakeC.t | exact Take.there (Take.there (Take.there (Take.there Take.here))) | exact Take.there (Take.there (Take.there (Take.there (Take.there Take.here)))) | exact Take.there (Take.there (Take.there (Take.there (Take.there (Take.there Take.here)))))) ?_
            have hC' := H.ok (x + 1) (by omega)
            have herr := H.errs x a (by omega) ha
            have hst := stN_next (ring := ring) ha
            rw [hst] at hC' herr
            generalize lDo (stN ring acts x).1 (stN ring acts x).2 a.1 = E at hC' herr hst ⊢
            refine Wl.ent (H' := Cache q.2 q.1 E.2.1 * (Dev q.1 E.1 * (S * (row r10 T_law09_state (stV av1 (toldOf (stN ring acts x).2).2) * (toldO av1 (toldOf (stN ring acts x).2) * F))))) Ent.auto ?_
            refine Wl.val rfl (V.assign rfl) ?_
            refine Wl.nil ?_
            refine Wx.then_n ?_
            refine Wc.seq ?_
            refine Wc.cut (Cache q.2 q.1 E.2.1 * (Dev q.1 E.1 * (S * F))) ([(1, v), (6, ptr q.2), (8, i64 (x : Nat)), (11, i64 E.2.2), (51, .bool false)]) ?_ ?_
            · skip
              refine Wc.draws 6 mixed (by kernel_rfl) (S := row r10 T_law09_state (stV av1 (toldOf (stN ring acts x).2).2) * (toldO av1 (toldOf (stN ring acts x).2) * F)) (M := Cache q.2 q.1 E.2.1 * (Dev q.1 E.1 * S)) (Ent.auto) ?_
              refine Wr.take [0, 1, 2, 3, 5] 1 (by kernel_rfl) (by kernel_rfl) rfl rfl ?_
              refine Wt.val rfl (V.move rfl) ?_
              refine Wt.val rfl (V.neq rfl rfl) ?_
              refine Wt.val rfl (V.move rfl) ?_
              refine Wt.bool 45 rfl (fun hb45 => ?_) (fun hb45 => ?_)
              · -- t45 is True
                try replace hb45 := of_decide_eq_true hb45
                refine Wt.gT rfl rfl rfl (V.move rfl) ?_
                refine Wt.gT rfl rfl rfl (V.ldA (vs := stV av1 (toldOf (stN ring acts x).2).2) rfl C_law09_state rfl) ?_
                refine Wt.nil ?_
                refine Wr.any [4] 0 (by kernel_rfl) rfl rfl ?_
                refine Wm.callMG rfl rfl rfl rfl rfl rfl (s_law09_toldV q.2 q.1 E.2.1 hC'.blocks) (by first | exact Take.here | exact Take.there Take.here | exact Take.there (Take.there Take.here) | exact Take.there (Take.there (Take.there Take.here)) | exact Take.none _ | exact TakeC.t | exact Take.there (Take.there (Take.there (Take.there Take.here))) | exact Take.there (Take.there (Take.there (Take.there (Take.there Take.here)))) | exact Take.there (Take.there (Take.there (Take.there (Take.there (Take.there Take.here)))))) (fun x47 => ?_) ?_
                · skip
                  refine Wr.tail (by kernel_rfl) rfl ?_
                  first | refine Wl.pull (fun hv2 => ?_) | skip
                  refine Wl.gT rfl rfl ?_
                  first | refine Wl.callE rfl rfl (s_law09_alike (S := toldO av1 (toldOf (stN ring acts x).2) * toldO x47 (toldOf E.2.1)) (toldOf E.2.1) (toldOf (stN ring acts x).2) (Vw.lift hv2) (Vw.lift hv1)) ?_ | refine Wl.callD rfl rfl (s_law09_alike (S := toldO av1 (toldOf (stN ring acts x).2) * toldO x47 (toldOf E.2.1)) (toldOf E.2.1) (toldOf (stN ring acts x).2) (Vw.lift hv2) (Vw.lift hv1)) (by first | exact Take.here | exact Take.there Take.here | exact Take.there (Take.there Take.here) | exact Take.there (Take.there (Take.there Take.here)) | exact Take.none _ | exact TakeC.t | exact Take.there (Take.there (Take.there (Take.there Take.here))) | exact Take.there (Take.there (Take.there (Take.there (Take.there Take.here)))) | exact Take.there (Take.there (Take.there (Take.there (Take.there (Take.there Take.here)))))) ?_
                  refine Wl.gT rfl rfl ?_
                  refine Wl.val rfl (V.not rfl) ?_
                  refine Wl.val rfl (V.pickT rfl rfl) ?_
                  refine Wl.nil ?_
                  have htt : toldOf E.2.1 = toldOf (stN ring acts x).2 := herr.2 (by simpa using hb45)
                  exact Wx.cutn Ent.auto (by repeat (first | exact trivial | refine ⟨by first | rfl | (rw [htt, decide_eq_true rfl]; rfl), ?_⟩))
                exact Wm.nil
              · -- t45 is False
                try replace hb45 := of_decide_eq_false hb45
                refine Wt.gF rfl rfl rfl ?_
                refine Wt.gF rfl rfl rfl ?_
                refine Wt.nil ?_
                refine Wr.any [4] 0 (by kernel_rfl) rfl rfl ?_
                refine Wm.gF rfl rfl rfl rfl rfl ?_ ?_
                · skip
                  refine Wr.tail (by kernel_rfl) rfl ?_
                  first | refine Wl.pull (fun hv2 => ?_) | skip
                  refine Wl.gF rfl rfl rfl ?_
                  refine Wl.gF rfl rfl rfl ?_
                  refine Wl.val rfl (V.pickF rfl rfl) ?_
                  refine Wl.nil ?_
                  exact Wx.cutn Ent.auto (by repeat (first | exact trivial | refine ⟨rfl, ?_⟩))
                exact Wm.nil
            · skip
              refine Wc.cond rfl (fun hc5 => ?_) (fun hc5 => ?_)
              · skip
                try replace hc5 := of_decide_eq_true hc5
                refine Wc.seq ?_
                refine Wc.region ?_
                refine Wl.val rfl (V.assign rfl) ?_
                refine Wl.nil ?_
                refine Wx.then_n ?_
                refine Wc.ret ?_
                repeat (first | refine Wx.then_r ?_ | refine Wx.blk_r ?_ | refine Wx.ng_r ?_)
                refine Wx.ret1 rfl rfl rfl ?_
                simp at hc5
              · skip
                try replace hc5 := of_decide_eq_false hc5
                refine Wc.skip ?_
                refine Wx.then_n ?_
                refine Wc.cut (Cache q.2 q.1 E.2.1 * (Dev q.1 E.1 * (S * F))) ([(1, v), (6, ptr q.2), (8, i64 (x : Nat)), (73, .bool false)]) ?_ ?_
                · skip
                  refine Wc.region ?_
                  refine Wl.val rfl (V.move rfl) ?_
                  refine Wl.val rfl (V.neq rfl rfl) ?_
                  refine Wl.val rfl (V.move rfl) ?_
                  refine Wl.bool 54 rfl (fun hb54 => ?_) (fun hb54 => ?_)
                  · -- t54 is True
                    try replace hb54 := of_decide_eq_true hb54
                    refine Wl.gT rfl rfl ?_
                    refine Wl.val rfl (V.move rfl) ?_
                    refine Wl.gT rfl rfl ?_
                    refine Wl.val rfl (V.neq rfl rfl) ?_
                    refine Wl.val rfl (V.pickT rfl rfl) ?_
                    refine Wl.val rfl (V.move rfl) ?_
                    refine Wl.bool 58 rfl (fun hb58 => ?_) (fun hb58 => ?_)
                    · -- t58 is True
                      try replace hb58 := of_decide_eq_true hb58
                      refine Wl.gT rfl rfl ?_
                      refine Wl.val rfl (V.move rfl) ?_
                      refine Wl.gT rfl rfl ?_
                      refine Wl.val rfl (V.neq rfl rfl) ?_
                      refine Wl.val rfl (V.pickT rfl rfl) ?_
                      refine Wl.val rfl (V.move rfl) ?_
                      refine Wl.bool 62 rfl (fun hb62 => ?_) (fun hb62 => ?_)
                      · -- t62 is True
                        try replace hb62 := of_decide_eq_true hb62
                        refine Wl.gT rfl rfl ?_
                        refine Wl.val rfl (V.move rfl) ?_
                        refine Wl.gT rfl rfl ?_
                        refine Wl.val rfl (V.neq rfl rfl) ?_
                        refine Wl.val rfl (V.pickT rfl rfl) ?_
                        refine Wl.val rfl (V.move rfl) ?_
                        refine Wl.bool 66 rfl (fun hb66 => ?_) (fun hb66 => ?_)
                        · -- t66 is True
                          try replace hb66 := of_decide_eq_true hb66
                          refine Wl.gT rfl rfl ?_
                          refine Wl.val rfl (V.move rfl) ?_
                          refine Wl.gT rfl rfl ?_
                          refine Wl.val rfl (V.neq rfl rfl) ?_
                          refine Wl.val rfl (V.pickT rfl rfl) ?_
                          refine Wl.val rfl (V.move rfl) ?_
                          refine Wl.bool 70 rfl (fun hb70 => ?_) (fun hb70 => ?_)
                          · -- t70 is True
                            try replace hb70 := of_decide_eq_true hb70
                            refine Wl.gT rfl rfl ?_
                            refine Wl.val rfl (V.move rfl) ?_
                            refine Wl.gT rfl rfl ?_
                            refine Wl.val rfl (V.neq rfl rfl) ?_
                            refine Wl.val rfl (V.pickT rfl rfl) ?_
                            refine Wl.nil ?_
                            have h10 : E.2.2 = 10 := by
                              have := herr.1
                              unfold errOk at this
                              simp only [Bool.not_eq_true', decide_eq_false_iff_not] at hb54 hb58 hb62 hb66 hb70
                              omega
                            exact Wx.cutn Ent.auto (by repeat (first | exact trivial | refine ⟨by first | rfl | (rw [h10]; rfl), ?_⟩))
                          · -- t70 is False
                            try replace hb70 := of_decide_eq_false hb70
                            refine Wl.gF rfl rfl rfl ?_
                            refine Wl.gF rfl rfl rfl ?_
                            refine Wl.val rfl (V.pickF rfl rfl) ?_
                            refine Wl.nil ?_
                            exact Wx.cutn Ent.auto (by repeat (first | exact trivial | refine ⟨rfl, ?_⟩))
                        · -- t66 is False
                          try replace hb66 := of_decide_eq_false hb66
                          refine Wl.gF rfl rfl rfl ?_
                          refine Wl.gF rfl rfl rfl ?_
                          refine Wl.val rfl (V.pickF rfl rfl) ?_
                          refine Wl.val rfl (V.move rfl) ?_
                          refine Wl.gF rfl rfl rfl ?_
                          refine Wl.gF rfl rfl rfl ?_
                          refine Wl.val rfl (V.pickF rfl rfl) ?_
                          refine Wl.nil ?_
                          exact Wx.cutn Ent.auto (by repeat (first | exact trivial | refine ⟨rfl, ?_⟩))
                      · -- t62 is False
                        try replace hb62 := of_decide_eq_false hb62
                        refine Wl.gF rfl rfl rfl ?_
                        refine Wl.gF rfl rfl rfl ?_
                        refine Wl.val rfl (V.pickF rfl rfl) ?_
                        refine Wl.val rfl (V.move rfl) ?_
                        refine Wl.gF rfl rfl rfl ?_
                        refine Wl.gF rfl rfl rfl ?_
                        refine Wl.val rfl (V.pickF rfl rfl) ?_
                        refine Wl.val rfl (V.move rfl) ?_
                        refine Wl.gF rfl rfl rfl ?_
                        refine Wl.gF rfl rfl rfl ?_
                        refine Wl.val rfl (V.pickF rfl rfl) ?_
                        refine Wl.nil ?_
                        exact Wx.cutn Ent.auto (by repeat (first | exact trivial | refine ⟨rfl, ?_⟩))
                    · -- t58 is False
                      try replace hb58 := of_decide_eq_false hb58
                      refine Wl.gF rfl rfl rfl ?_
                      refine Wl.gF rfl rfl rfl ?_
                      refine Wl.val rfl (V.pickF rfl rfl) ?_
                      refine Wl.val rfl (V.move rfl) ?_
                      refine Wl.gF rfl rfl rfl ?_
                      refine Wl.gF rfl rfl rfl ?_
                      refine Wl.val rfl (V.pickF rfl rfl) ?_
                      refine Wl.val rfl (V.move rfl) ?_
                      refine Wl.gF rfl rfl rfl ?_
                      refine Wl.gF rfl rfl rfl ?_
                      refine Wl.val rfl (V.pickF rfl rfl) ?_
                      refine Wl.val rfl (V.move rfl) ?_
                      refine Wl.gF rfl rfl rfl ?_
                      refine Wl.gF rfl rfl rfl ?_
                      refine Wl.val rfl (V.pickF rfl rfl) ?_
                      refine Wl.nil ?_
                      exact Wx.cutn Ent.auto (by repeat (first | exact trivial | refine ⟨rfl, ?_⟩))
                  · -- t54 is False
                    try replace hb54 := of_decide_eq_false hb54
                    refine Wl.gF rfl rfl rfl ?_
                    refine Wl.gF rfl rfl rfl ?_
                    refine Wl.val rfl (V.pickF rfl rfl) ?_
                    refine Wl.val rfl (V.move rfl) ?_
                    refine Wl.gF rfl rfl rfl ?_
                    refine Wl.gF rfl rfl rfl ?_
                    refine Wl.val rfl (V.pickF rfl rfl) ?_
                    refine Wl.val rfl (V.move rfl) ?_
                    refine Wl.gF rfl rfl rfl ?_
                    refine Wl.gF rfl rfl rfl ?_
                    refine Wl.val rfl (V.pickF rfl rfl) ?_
                    refine Wl.val rfl (V.move rfl) ?_
                    refine Wl.gF rfl rfl rfl ?_
                    refine Wl.gF rfl rfl rfl ?_
                    refine Wl.val rfl (V.pickF rfl rfl) ?_
                    refine Wl.val rfl (V.move rfl) ?_
                    refine Wl.gF rfl rfl rfl ?_
                    refine Wl.gF rfl rfl rfl ?_
                    refine Wl.val rfl (V.pickF rfl rfl) ?_
                    refine Wl.nil ?_
                    exact Wx.cutn Ent.auto (by repeat (first | exact trivial | refine ⟨rfl, ?_⟩))
                · skip
                  refine Wc.cond rfl (fun hc6 => ?_) (fun hc6 => ?_)
                  · skip
                    try replace hc6 := of_decide_eq_true hc6
                    refine Wc.seq ?_
                    refine Wc.region ?_
                    refine Wl.val rfl (V.assign rfl) ?_
                    refine Wl.nil ?_
                    refine Wx.then_n ?_
                    refine Wc.ret ?_
                    repeat (first | refine Wx.then_r ?_ | refine Wx.blk_r ?_ | refine Wx.ng_r ?_)
                    refine Wx.ret1 rfl rfl rfl ?_
                    simp at hc6
                  · skip
                    try replace hc6 := of_decide_eq_false hc6
                    refine Wc.skip ?_
                    refine Wx.blk_n ?_
                    refine Wx.then_n ?_
                    refine Wc.region ?_
                    refine Wl.val rfl (V.move rfl) ?_
                    refine Wl.val rfl (V.addk rfl rfl (wr64 (by omega) (by omega))) ?_
                    refine Wl.val rfl (V.assign rfl) ?_
                    refine Wl.nil ?_
                    skip
                    refine Wx.again (x + 1) (by exact (by show acts.length - (x + 1) < acts.length - x; omega)) (by exact (by rw [hst]; exact Ent.puC ⟨by omega, by omega⟩)) (by repeat (first | exact trivial | refine ⟨rfl, ?_⟩))
        · skip
          try replace hc3 := of_decide_eq_false hc3
          refine Wc.exit ?_
          refine Wx.then_x ?_
          refine Wx.then_x ?_
          refine Wx.blk_x ?_
          refine Wx.then_n ?_
          refine Wc.seq ?_
          refine Wc.region ?_
          refine Wl.val rfl (V.assign rfl) ?_
          refine Wl.nil ?_
          refine Wx.then_n ?_
          refine Wc.ret ?_
          repeat (first | refine Wx.then_r ?_ | refine Wx.blk_r ?_ | refine Wx.ng_r ?_)
          refine Wx.ret1 rfl rfl rfl ?_
          exact Ent.resC rfl
      · -- t26 is False
        try replace hb26 := of_decide_eq_false hb26
        refine Wl.gF rfl rfl rfl ?_
        refine Wl.gF rfl rfl rfl ?_
        refine Wl.val rfl (V.pickF rfl rfl) ?_
        refine Wl.nil ?_
        refine Wx.then_n ?_
        refine Wc.condF rfl ?_
        refine Wc.exit ?_
        refine Wx.then_x ?_
        refine Wx.then_x ?_
        refine Wx.blk_x ?_
        refine Wx.then_n ?_
        refine Wc.seq ?_
        refine Wc.region ?_
        refine Wl.val rfl (V.assign rfl) ?_
        refine Wl.nil ?_
        refine Wx.then_n ?_
        refine Wc.ret ?_
        repeat (first | refine Wx.then_r ?_ | refine Wx.blk_r ?_ | refine Wx.ng_r ?_)
        refine Wx.ret1 rfl rfl rfl ?_
        exact Ent.resC rfl
end Go.Proofs.YtjfacgmobpbhcaaGreat
/- The walks: laws on caches, Rises. -/
namespace Go.Proofs.YtjfacgmobpbhcaaGreat
open Go.Sl Sei
theorem tab_st {x0 x1 x2 : Value} {t : Tab} {i : Int} {k : Nat} (h0 : 0 ≤ i) (h1 : i < 4) (hk : k = 3 + i.toNat) : [x0, x1, x2, i64 t.a, i64 t.b, i64 t.c, i64 t.d][k]? = some (i64 (tabGet t i)) := by
  have : i = 0 ∨ i = 1 ∨ i = 2 ∨ i = 3 := by omega
  rcases this with rfl | rfl | rfl | rfl <;> subst hk <;> rfl
theorem etysV_ver {l : List Ety} {k : Nat} {e : Ety} (h : l[k]? = some e) : getN (etysV l) (k * 7 + 1) 2 = some (verV e.v) := by
  have := etysV_at h
  obtain ⟨h1, h2⟩ := List.getElem?_eq_some_iff.1 h
  rw [getN_intro _ _ _ (by rw [etysV_len]; omega), ← List.drop_drop, etysV_drop, List.drop_eq_getElem_cons h1, h2]
  rfl
theorem s_law09_CacheRises {S : HP} {v : Value} (haw : AwakeC) (ring : Nat) (hr : ring < 256) (acts : ActL) (hA : ActsAt S v acts) (H : RiseOk ring acts) : Ctr P f_law09_CacheRises [.int .u8 (ring : Nat), v] S (fun r => pu (r = .bool true) * S) := by
  have hle := act_le hA
  have hok0 := H.ok 0 (by decide)
  have hs0 : stR ring acts 0 = ((open0 ring).1, (open0 ring).2.1) := rfl
  rw [hs0] at hok0
  refine Ctr.of_body (m := 89) fn_law09_CacheRises rfl rfl rfl rfl rfl (fun F g => ?_)
  refine Wc.seq ?_
  refine Wc.region ?_
  refine Wl.val rfl (V.assign rfl) ?_
  refine Wl.nil ?_
  refine Wx.then_n ?_
  refine Wc.seq ?_
  refine Wc.seq ?_
  refine Wc.region ?_
  first | refine Wl.callE rfl rfl haw ?_ | refine Wl.callD rfl rfl haw (by first | exact Take.here | exact Take.there Take.here | exact Take.there (Take.there Take.here) | exact Take.there (Take.there (Take.there Take.here)) | exact Take.none _ | exact TakeC.t | exact Take.there (Take.there (Take.there (Take.there Take.here))) | exact Take.there (Take.there (Take.there (Take.there (Take.there Take.here)))) | exact Take.there (Take.there (Take.there (Take.there (Take.there (Take.there Take.here)))))) ?_
  refine Wl.val rfl (V.not rfl) ?_
  refine Wl.nil ?_
  refine Wx.then_n ?_
  refine Wc.cond rfl (fun hc1 => ?_) (fun hc1 => ?_)
  · skip
    try replace hc1 := of_decide_eq_true hc1
    refine Wc.seq ?_
    refine Wc.region ?_
    refine Wl.val rfl (V.assign rfl) ?_
    refine Wl.nil ?_
    refine Wx.then_n ?_
    refine Wc.ret ?_
    repeat (first | refine Wx.then_r ?_ | refine Wx.blk_r ?_ | refine Wx.ng_r ?_)
    refine Wx.ret1 rfl rfl rfl ?_
    simp at hc1
  · skip
    try replace hc1 := of_decide_eq_false hc1
    refine Wc.skip ?_
    refine Wx.then_n ?_
    refine Wc.seq ?_
    refine Wc.region ?_
    refine Wl.val rfl (V.move rfl) ?_
    refine Wl.call rfl rfl (s_law09_open ring hr H.opened) (by first | exact Take.here | exact Take.there Take.here | exact Take.there (Take.there Take.here) | exact Take.there (Take.there (Take.there Take.here)) | exact Take.none _ | exact TakeC.t | exact Take.there (Take.there (Take.there (Take.there Take.here))) | exact Take.there (Take.there (Take.there (Take.there (Take.there Take.here)))) | exact Take.there (Take.there (Take.there (Take.there (Take.there (Take.there Take.here)))))) (fun v17 => ?_)
    refine Wl.exm (fun q => ?_)
    refine Wl.pull (fun hq => ?_)
    subst hq
    generalize open0 ring = O at hs0 hok0 ⊢
    refine Wl.val rfl (V.move rfl) ?_
    refine Wl.val rfl (V.ext rfl rfl) ?_
    refine Wl.val rfl (V.ext rfl rfl) ?_
    refine Wl.val rfl (V.ext rfl rfl) ?_
    refine Wl.val rfl (V.assign rfl) ?_
    refine Wl.val rfl (V.assign rfl) ?_
    refine Wl.val rfl (V.assign rfl) ?_
    refine Wl.nil ?_
    refine Wx.then_n ?_
    refine Wc.seq ?_
    refine Wc.seq ?_
    refine Wc.region ?_
    refine Wl.val rfl (V.move rfl) ?_
    refine Wl.val rfl (V.eqPtrNil rfl U_Pcache_Cache) ?_
    refine Wl.nil ?_
    refine Wx.then_n ?_
    refine Wc.cond rfl (fun hc2 => ?_) (fun hc2 => ?_)
    · skip
      try replace hc2 := of_decide_eq_true hc2
      refine Wc.seq ?_
      refine Wc.region ?_
      refine Wl.val rfl (V.assign rfl) ?_
      refine Wl.nil ?_
      refine Wx.then_n ?_
      refine Wc.ret ?_
      repeat (first | refine Wx.then_r ?_ | refine Wx.blk_r ?_ | refine Wx.ng_r ?_)
      refine Wx.ret1 rfl rfl rfl ?_
      simp at hc2
    · skip
      try replace hc2 := of_decide_eq_false hc2
      refine Wc.skip ?_
      refine Wx.then_n ?_
      refine Wc.seq ?_
      refine Wc.region ?_
      refine Wl.val rfl (V.move rfl) ?_
      refine Wl.call rfl rfl (s_law09_toldV q.2 q.1 O.2.1 hok0.blocks) (by first | exact Take.here | exact Take.there Take.here | exact Take.there (Take.there Take.here) | exact Take.there (Take.there (Take.there Take.here)) | exact Take.none _ | exact TakeC.t | exact Take.there (Take.there (Take.there (Take.there Take.here))) | exact Take.there (Take.there (Take.there (Take.there (Take.there Take.here)))) | exact Take.there (Take.there (Take.there (Take.there (Take.there (Take.there Take.here)))))) (fun v24 => ?_)
      refine Wl.exm (fun av0 => ?_)
      refine Wl.pull (fun hq1 => ?_)
      subst hq1
      refine Wl.pull (fun hv0 => ?_)
      have ho0 := hv0.one
      refine Wl.al rfl (M.alloc N_law09_state) (fun r8 => ?_)
      refine Wl.st (Go.Sl.S.putA (vs := stV av0 (toldOf O.2.1).2) rfl rfl C_law09_state (by simp only [oneCells, ho0]; rfl) rfl rfl rfl) ?_
      refine Wl.nil ?_
      refine Wx.then_n ?_
      refine Wc.seq ?_
      refine Wc.seq ?_
      refine Wc.region ?_
      refine Wl.val rfl (V.assign rfl) ?_
      refine Wl.nil ?_
      refine Wx.then_n ?_
      refine Wc.block ?_
      refine Wc.loop (α := Nat × Value) (fun x => acts.length - x.1) (fun x => pu (x.1 ≤ acts.length ∧ x.1 ≤ 60 ∧ x.2.oneCell' = true) * (row r8 T_law09_state (stV x.2 (toldOf (stR ring acts x.1).2).2) * LHeap q.2 q.1 (stR ring acts x.1) (S * F))) (fun x => [(1, v), (6, ptr q.2), (8, ptr r8), (9, i64 (x.1 : Nat))]) (0, av0) (by exact (by rw [hs0]; exact Ent.puC ⟨Nat.zero_le _, Nat.zero_le _, ho0⟩)) (by repeat (first | exact trivial | refine ⟨rfl, ?_⟩)) (fun x => ?_)
      obtain ⟨k, av⟩ := x
      refine Wc.pu (fun hx => ?_)
      dsimp only at hx
      obtain ⟨hx1, hx, hoa⟩ := hx
      refine Wc.seq ?_
      refine Wc.seq ?_
      refine Wc.region ?_
      refine Wl.val rfl (V.move rfl) ?_
      refine Wl.val rfl (V.move rfl) ?_
      refine Wl.val rfl (V.lenW rfl U_Slaw09_Act hA.vw) ?_
      refine Wl.val rfl (V.lss rfl rfl) ?_
      refine Wl.val rfl (V.move rfl) ?_
      refine Wl.bool 29 rfl (fun hb29 => ?_) (fun hb29 => ?_)
      · -- t29 is True
        try replace hb29 := of_decide_eq_true hb29
        refine Wl.gT rfl rfl ?_
        refine Wl.val rfl (V.move rfl) ?_
        refine Wl.gT rfl rfl ?_
        refine Wl.val rfl (V.lss rfl rfl) ?_
        refine Wl.val rfl (V.pickT rfl rfl) ?_
        refine Wl.nil ?_
        refine Wx.then_n ?_
        refine Wc.cond rfl (fun hc3 => ?_) (fun hc3 => ?_)
        · skip
          try replace hc3 := of_decide_eq_true hc3
          have hc3 : (k : Int) < 60 := hc3
          have hb29 : (k : Int) < (acts.length : Int) := hb29
          have hlt : k < acts.length := by omega
          obtain ⟨a, ha⟩ : ∃ a, acts[k]? = some a := ⟨_, List.getElem?_eq_getElem hlt⟩
          have hmem : a ∈ acts := List.mem_of_getElem? ha
          have hok := hA.ok a hmem
          have htv := hA.t a hmem
          have hlv := hA.l a hmem
          have ho1 := htv.one
          have ho2 := hlv.one
          have hC := H.ok k hx
          have hlast := H.last k (by omega)
          have htt := fun i => H.t k i (by omega)
          have hents := fun e => H.ents (k + 1) e (by omega)
          have hC' := H.ok (k + 1) (by omega)
          refine Wc.skip ?_
          refine Wx.then_n ?_
          refine Wc.seq ?_
          refine Wc.block ?_
          refine Wc.seq ?_
          refine Wc.seq ?_
          refine Wc.region ?_
          refine Wl.val rfl (V.move rfl) ?_
          refine Wl.val rfl (V.move rfl) ?_
          refine Wl.val rfl (V.idxW rfl rfl U_Slaw09_Act Z_law09_Act hA.vw (by omega) (by omega)) ?_
          refine Wl.val rfl (V.ldAW (vs := actV a.1 a.2.1 a.2.2) rfl C_law09_Act hA.vw (by omega) (acts_at ha)) ?_
          first | refine Wl.callE rfl rfl (s_law09_large a.1 htv hlv) ?_ | refine Wl.callD rfl rfl (s_law09_large a.1 htv hlv) (by first | exact Take.here | exact Take.there Take.here | exact Take.there (Take.there Take.here) | exact Take.there (Take.there (Take.there Take.here)) | exact Take.none _ | exact TakeC.t | exact Take.there (Take.there (Take.there (Take.there Take.here))) | exact Take.there (Take.there (Take.there (Take.there (Take.there Take.here)))) | exact Take.there (Take.there (Take.there (Take.there (Take.there (Take.there Take.here)))))) ?_
          refine Wl.nil ?_
          refine Wx.then_n ?_
          refine Wc.cond rfl (fun hc4 => ?_) (fun hc4 => ?_)
          · skip
            try replace hc4 := of_decide_eq_true hc4
            refine Wc.seq ?_
            refine Wc.region ?_
            refine Wl.val rfl (V.assign rfl) ?_
            refine Wl.nil ?_
            refine Wx.then_n ?_
            refine Wc.ret ?_
            repeat (first | refine Wx.then_r ?_ | refine Wx.blk_r ?_ | refine Wx.ng_r ?_)
            refine Wx.ret1 rfl rfl rfl ?_
            exact Ent.resC rfl
          · skip
            try replace hc4 := of_decide_eq_false hc4
            refine Wc.skip ?_
            refine Wx.then_n ?_
            refine Wc.seq ?_
            refine Wc.seq ?_
            refine Wc.region ?_
            refine Wl.val rfl (V.move rfl) ?_
            refine Wl.val rfl (V.move rfl) ?_
            refine Wl.val rfl (V.idxW rfl rfl U_Slaw09_Act Z_law09_Act hA.vw (by omega) (by omega)) ?_
            refine Wl.val rfl (V.fldW (k * 12) rfl O_law09_Act_0 hA.vw (by omega) (by omega)) ?_
            refine Wl.val rfl (V.ldW (u := i64 a.1.kind) rfl C_int hA.vw (by simpa using (getN_spec _ _ _ _ (acts_at ha)).2 0 _ rfl)) ?_
            refine Wl.val rfl (V.eql rfl rfl) ?_
            refine Wl.nil ?_
            refine Wx.then_n ?_
            refine Wc.cond rfl (fun hc5 => ?_) (fun hc5 => ?_)
            · skip
              try replace hc5 := of_decide_eq_true hc5
              refine Wc.exit ?_
              refine Wx.then_x ?_
              refine Wx.blk_x ?_
              refine Wx.then_n ?_
              refine Wc.region ?_
              refine Wl.val rfl (V.move rfl) ?_
              refine Wl.val rfl (V.addk rfl rfl (wr64 (by omega) (by omega))) ?_
              refine Wl.val rfl (V.assign rfl) ?_
              refine Wl.nil ?_
              skip
              refine Wx.again (k + 1, av) (by exact (by show acts.length - (k + 1) < acts.length - k; omega)) (by exact (by dsimp only; rw [stR_pass ha hc5]; exact Ent.puC ⟨by omega, by omega, hoa⟩)) (by repeat (first | exact trivial | refine ⟨rfl, ?_⟩))
            · skip
              try replace hc5 := of_decide_eq_false hc5
              refine Wc.skip ?_
              refine Wx.then_n ?_
              refine Wc.seq ?_
              refine Wc.region ?_
              refine Wl.val rfl (V.move rfl) ?_
              refine Wl.val rfl (V.move rfl) ?_
              refine Wl.val rfl (V.move rfl) ?_
              refine Wl.val rfl (V.idxW rfl rfl U_Slaw09_Act Z_law09_Act hA.vw (by omega) (by omega)) ?_
              refine Wl.val rfl (V.ldAW (vs := actV a.1 a.2.1 a.2.2) rfl C_law09_Act hA.vw (by omega) (acts_at ha)) ?_
              first | refine Wl.callE rfl rfl (s_law09_do q.2 q.1 hC a.1 hok htv hlv) ?_ | refine Wl.callD rfl rfl (s_law09_do q.2 q.1 hC a.1 hok htv hlv) (by first | exact Take.here | exact Take.there Take.here | exact Take.there (Take.there Take.here) | exact Take.there (Take.there (Take.there Take.here)) | exact Take.none _ | exact TakeC.t | exact Take.there (Take.there (Take.there (Take.there Take.here))) | exact Take.there (Take.there (Take.there (Take.there (Take.there Take.here)))) | exact Take.there (Take.there (Take.there (Take.there (Take.there (Take.there Take.here)))))) ?_
              have hst := stR_next (ring := ring) ha hc5
              simp only [hst] at hlast htt hents hC'
              generalize lDo (stR ring acts k).1 (stR ring acts k).2 a.1 = E at hlast htt hents hC' hst ⊢
              refine Wl.nil ?_
              refine Wx.then_n ?_
              refine Wc.seq ?_
              refine Wc.region ?_
              refine Wl.val rfl (V.move rfl) ?_
              refine Wl.call rfl rfl (s_law09_toldV q.2 q.1 E.2.1 hC'.blocks) (by first | exact Take.here | exact Take.there Take.here | exact Take.there (Take.there Take.here) | exact Take.there (Take.there (Take.there Take.here)) | exact Take.none _ | exact TakeC.t | exact Take.there (Take.there (Take.there (Take.there Take.here))) | exact Take.there (Take.there (Take.there (Take.there (Take.there Take.here)))) | exact Take.there (Take.there (Take.there (Take.there (Take.there (Take.there Take.here)))))) (fun v53 => ?_)
              refine Wl.exm (fun av1 => ?_)
              refine Wl.pull (fun hq1 => ?_)
              subst hq1
              refine Wl.pull (fun hv1 => ?_)
              have ho4 := hv1.one
              have hle1 := hv1.le
              refine Wl.al rfl (M.alloc N_law09_state) (fun r10 => ?_)
              refine Wl.st (Go.Sl.S.putA (vs := stV av1 (toldOf E.2.1).2) rfl rfl C_law09_state (by simp only [oneCells, ho4]; rfl) rfl rfl rfl) ?_
              refine Wl.nil ?_
              refine Wx.then_n ?_
              refine Wc.seq ?_
              refine Wc.seq ?_
              refine Wc.region ?_
              refine Wl.val rfl (V.fld _ rfl O_law09_state_1 rfl) ?_
              refine Wl.val rfl (V.ldA (vs := verV (stR ring acts k).2.kept.last) rfl C_api_Version rfl) ?_
              refine Wl.val rfl (V.fld _ rfl O_law09_state_1 rfl) ?_
              refine Wl.val rfl (V.ldA (vs := verV E.2.1.kept.last) rfl C_api_Version rfl) ?_
              first | refine Wl.callE rfl rfl (s_ref09_Above ..) ?_ | refine Wl.callD rfl rfl (s_ref09_Above ..) (by first | exact Take.here | exact Take.there Take.here | exact Take.there (Take.there Take.here) | exact Take.there (Take.there (Take.there Take.here)) | exact Take.none _ | exact TakeC.t | exact Take.there (Take.there (Take.there (Take.there Take.here))) | exact Take.there (Take.there (Take.there (Take.there (Take.there Take.here)))) | exact Take.there (Take.there (Take.there (Take.there (Take.there (Take.there Take.here)))))) ?_
              refine Wl.nil ?_
              refine Wx.then_n ?_
              refine Wc.cond rfl (fun hc6 => ?_) (fun hc6 => ?_)
              · skip
                try replace hc6 := of_decide_eq_true hc6
                refine Wc.seq ?_
                refine Wc.region ?_
                refine Wl.val rfl (V.assign rfl) ?_
                refine Wl.nil ?_
                refine Wx.then_n ?_
                refine Wc.ret ?_
                repeat (first | refine Wx.then_r ?_ | refine Wx.blk_r ?_ | refine Wx.ng_r ?_)
                refine Wx.ret1 rfl rfl rfl ?_
                exact absurd (hlast.symm.trans hc6) (by decide)
              · skip
                try replace hc6 := of_decide_eq_false hc6
                refine Wc.skip ?_
                refine Wx.then_n ?_
                refine Wc.seq ?_
                refine Wc.seq ?_
                refine Wc.region ?_
                refine Wl.val rfl (V.move rfl) ?_
                refine Wl.nil ?_
                refine Wx.then_n ?_
                refine Wc.block ?_
                refine Wc.loop (α := Nat) (fun x => 4 - x) (fun x => pu (x ≤ 4) * (row r8 T_law09_state (stV av (toldOf (stR ring acts k).2).2) * (row r10 T_law09_state (stV av1 (toldOf E.2.1).2) * (toldO av1 (toldOf E.2.1) * LHeap q.2 q.1 (E.1, E.2.1) (S * F))))) (fun x => [(1, v), (6, ptr q.2), (8, ptr r8), (9, i64 (k : Nat)), (10, ptr r10), (59, i64 (x : Nat))]) 0 (by exact Ent.puC (Nat.zero_le _)) (by repeat (first | exact trivial | refine ⟨rfl, ?_⟩)) (fun x => ?_)
                refine Wc.pu (fun hy => ?_)
                refine Wc.seq ?_
                refine Wc.region ?_
                refine Wl.val rfl (V.lss rfl rfl) ?_
                refine Wl.nil ?_
                refine Wx.then_n ?_
                refine Wc.seq ?_
                refine Wc.cond rfl (fun hc7 => ?_) (fun hc7 => ?_)
                · skip
                  try replace hc7 := of_decide_eq_true hc7
                  refine Wc.skip ?_
                  refine Wx.then_n ?_
                  refine Wc.seq ?_
                  refine Wc.block ?_
                  refine Wc.seq ?_
                  refine Wc.region ?_
                  refine Wl.val rfl (V.move rfl) ?_
                  refine Wl.val rfl (V.assign rfl) ?_
                  refine Wl.nil ?_
                  refine Wx.then_n ?_
                  refine Wc.seq ?_
                  refine Wc.quiet mixed (by kernel_rfl) ?_
                  refine Wq.val rfl (V.move rfl) ?_
                  refine Wq.val rfl (V.fld _ rfl O_law09_state_2 rfl) ?_
                  refine Wq.val rfl (V.idxA rfl rfl U_A4int64 Z_int64 (by first | decide | omega) (by first | decide | omega) rfl) ?_
                  refine Wq.val rfl (V.ld (v := i64 (tabGet E.2.1.kept.t (x : Int))) rfl C_int64 (tab_st (i := (x : Int)) (by omega) (by omega) (by omega))) ?_
                  refine Wq.val rfl (V.move rfl) ?_
                  refine Wq.val rfl (V.fld _ rfl O_law09_state_2 rfl) ?_
                  refine Wq.val rfl (V.idxA rfl rfl U_A4int64 Z_int64 (by first | decide | omega) (by first | decide | omega) rfl) ?_
                  refine Wq.val rfl (V.ld (v := i64 (tabGet (stR ring acts k).2.kept.t (x : Int))) rfl C_int64 (tab_st (i := (x : Int)) (by omega) (by omega) (by omega))) ?_
                  refine Wq.val rfl (V.lss rfl rfl) ?_
                  refine Wq.nil ?_
                  refine Wx.then_n ?_
                  refine Wc.cond rfl (fun hc8 => ?_) (fun hc8 => ?_)
                  · skip
                    try replace hc8 := of_decide_eq_true hc8
                    refine Wc.seq ?_
                    refine Wc.region ?_
                    refine Wl.val rfl (V.assign rfl) ?_
                    refine Wl.nil ?_
                    refine Wx.then_n ?_
                    refine Wc.ret ?_
                    repeat (first | refine Wx.then_r ?_ | refine Wx.blk_r ?_ | refine Wx.ng_r ?_)
                    refine Wx.ret1 rfl rfl rfl ?_
                    exact absurd hc8 (by have := htt (x : Int); omega)
                  · skip
                    try replace hc8 := of_decide_eq_false hc8
                    refine Wc.skip ?_
                    refine Wx.blk_n ?_
                    refine Wx.then_n ?_
                    refine Wc.region ?_
                    refine Wl.val rfl (V.addk rfl rfl (wr64 (by omega) (by omega))) ?_
                    refine Wl.val rfl (V.move rfl) ?_
                    refine Wl.nil ?_
                    skip
                    refine Wx.again (x + 1) (by exact (by show 4 - (x + 1) < 4 - x; omega)) (by exact Ent.puC (by omega)) (by repeat (first | exact trivial | refine ⟨rfl, ?_⟩))
                · skip
                  try replace hc7 := of_decide_eq_false hc7
                  refine Wc.exit ?_
                  refine Wx.then_x ?_
                  refine Wx.then_x ?_
                  refine Wx.blk_x ?_
                  refine Wx.then_n ?_
                  refine Wc.seq ?_
                  refine Wc.seq ?_
                  refine Wc.region ?_
                  refine Wl.val rfl (V.fld _ rfl O_law09_state_0 rfl) ?_
                  refine Wl.val rfl (V.ld rfl C_Sapi_Entry rfl) ?_
                  refine Wl.val rfl (V.lenW rfl U_Sapi_Entry hv1) ?_
                  refine Wl.val rfl (V.move rfl) ?_
                  refine Wl.nil ?_
                  refine Wx.then_n ?_
                  refine Wc.block ?_
                  refine Wc.loop (α := Nat) (fun x => (toldOf E.2.1).1.length - x) (fun x => pu (x ≤ (toldOf E.2.1).1.length) * (row r8 T_law09_state (stV av (toldOf (stR ring acts k).2).2) * (row r10 T_law09_state (stV av1 (toldOf E.2.1).2) * (toldO av1 (toldOf E.2.1) * LHeap q.2 q.1 (E.1, E.2.1) (S * F))))) (fun x => [(1, v), (6, ptr q.2), (8, ptr r8), (9, i64 (k : Nat)), (10, ptr r10), (74, i64 ((toldOf E.2.1).1.length : Nat)), (75, i64 (x : Nat))]) 0 (by exact Ent.puC (Nat.zero_le _)) (by repeat (first | exact trivial | refine ⟨rfl, ?_⟩)) (fun x => ?_)
                  refine Wc.pu (fun hy => ?_)
                  refine Wc.seq ?_
                  refine Wc.region ?_
                  refine Wl.val rfl (V.lss rfl rfl) ?_
                  refine Wl.nil ?_
                  refine Wx.then_n ?_
                  refine Wc.seq ?_
                  refine Wc.cond rfl (fun hc9 => ?_) (fun hc9 => ?_)
                  · skip
                    try replace hc9 := of_decide_eq_true hc9
                    have hlt2 : x < (toldOf E.2.1).1.length := by omega
                    obtain ⟨e, he⟩ : ∃ e, (toldOf E.2.1).1[x]? = some e := ⟨_, List.getElem?_eq_getElem hlt2⟩
                    refine Wc.skip ?_
                    refine Wx.then_n ?_
                    refine Wc.seq ?_
                    refine Wc.block ?_
                    refine Wc.seq ?_
                    refine Wc.region ?_
                    refine Wl.val rfl (V.move rfl) ?_
                    refine Wl.val rfl (V.assign rfl) ?_
                    refine Wl.nil ?_
                    refine Wx.then_n ?_
                    refine Wc.seq ?_
                    refine Wc.quiet mixed (by kernel_rfl) ?_
                    refine Wq.val rfl (V.fld _ rfl O_law09_state_0 rfl) ?_
                    refine Wq.val rfl (V.ld rfl C_Sapi_Entry rfl) ?_
                    refine Wq.val rfl (V.move rfl) ?_
                    refine Wq.val rfl (V.idxW rfl rfl U_Sapi_Entry Z_api_Entry hv1 (by omega) (by omega)) ?_
                    refine Wq.val rfl (V.fldW (x * 7 + 1) rfl O_api_Entry_1 hv1 (by omega) (by omega)) ?_
                    refine Wq.val rfl (V.ldAW (vs := verV e.v) rfl C_api_Version hv1 (by omega) (etysV_ver he)) ?_
                    refine Wq.val rfl (V.fld _ rfl O_law09_state_1 rfl) ?_
                    refine Wq.val rfl (V.ldA (vs := verV E.2.1.kept.last) rfl C_api_Version rfl) ?_
                    refine Wq.call rfl rfl (s_ref09_Above ..) (by first | exact Take.here | exact Take.there Take.here | exact Take.there (Take.there Take.here) | exact Take.there (Take.there (Take.there Take.here)) | exact Take.none _ | exact TakeC.t | exact Take.there (Take.there (Take.there (Take.there Take.here))) | exact Take.there (Take.there (Take.there (Take.there (Take.there Take.here)))) | exact Take.there (Take.there (Take.there (Take.there (Take.there (Take.there Take.here)))))) ?_
                    refine Wq.nil ?_
                    refine Wx.then_n ?_
                    refine Wc.cond rfl (fun hc10 => ?_) (fun hc10 => ?_)
                    · skip
                      try replace hc10 := of_decide_eq_true hc10
                      refine Wc.seq ?_
                      refine Wc.region ?_
                      refine Wl.val rfl (V.assign rfl) ?_
                      refine Wl.nil ?_
                      refine Wx.then_n ?_
                      refine Wc.ret ?_
                      repeat (first | refine Wx.then_r ?_ | refine Wx.blk_r ?_ | refine Wx.ng_r ?_)
                      refine Wx.ret1 rfl rfl rfl ?_
                      exact absurd hc10 (by rw [show above e.v E.2.1.kept.last = false from hents e (List.mem_of_getElem? he)]; decide)
                    · skip
                      try replace hc10 := of_decide_eq_false hc10
                      refine Wc.skip ?_
                      refine Wx.blk_n ?_
                      refine Wx.then_n ?_
                      refine Wc.region ?_
                      refine Wl.val rfl (V.addk rfl rfl (wr64 (by omega) (by omega))) ?_
                      refine Wl.val rfl (V.move rfl) ?_
                      refine Wl.nil ?_
                      skip
                      refine Wx.again (x + 1) (by exact (by show (toldOf E.2.1).1.length - (x + 1) < (toldOf E.2.1).1.length - x; omega)) (by exact Ent.puC (by omega)) (by repeat (first | exact trivial | refine ⟨rfl, ?_⟩))
                  · skip
                    try replace hc9 := of_decide_eq_false hc9
                    refine Wc.exit ?_
                    refine Wx.then_x ?_
                    refine Wx.then_x ?_
                    refine Wx.blk_x ?_
                    refine Wx.then_n ?_
                    refine Wc.region ?_
                    refine Wl.val rfl (V.ldA (vs := stV av1 (toldOf E.2.1).2) rfl C_law09_state rfl) ?_
                    refine Wl.st (Go.Sl.S.putA (vs := stV av1 (toldOf E.2.1).2) rfl rfl C_law09_state (by simp only [oneCells, ho4]; rfl) rfl rfl rfl) ?_
                    refine Wl.nil ?_
                    refine Wx.blk_n ?_
                    refine Wx.then_n ?_
                    refine Wc.region ?_
                    refine Wl.val rfl (V.move rfl) ?_
                    refine Wl.val rfl (V.addk rfl rfl (wr64 (by omega) (by omega))) ?_
                    refine Wl.val rfl (V.assign rfl) ?_
                    refine Wl.nil ?_
                    skip
                    refine Wx.again (k + 1, av1) (by exact (by show acts.length - (k + 1) < acts.length - k; omega)) (by exact (by dsimp only; rw [hst]; exact Ent.puC ⟨by omega, by omega, ho4⟩)) (by repeat (first | exact trivial | refine ⟨rfl, ?_⟩))
        · skip
          try replace hc3 := of_decide_eq_false hc3
          refine Wc.exit ?_
          refine Wx.then_x ?_
          refine Wx.then_x ?_
          refine Wx.blk_x ?_
          refine Wx.then_n ?_
          refine Wc.seq ?_
          refine Wc.region ?_
          refine Wl.val rfl (V.assign rfl) ?_
          refine Wl.nil ?_
          refine Wx.then_n ?_
          refine Wc.ret ?_
          repeat (first | refine Wx.then_r ?_ | refine Wx.blk_r ?_ | refine Wx.ng_r ?_)
          refine Wx.ret1 rfl rfl rfl ?_
          first | exact Ent.resF rfl | exact Ent.resC rfl | exact Ent.refl _ | exact Ent.auto
      · -- t29 is False
        try replace hb29 := of_decide_eq_false hb29
        refine Wl.gF rfl rfl rfl ?_
        refine Wl.gF rfl rfl rfl ?_
        refine Wl.val rfl (V.pickF rfl rfl) ?_
        refine Wl.nil ?_
        refine Wx.then_n ?_
        refine Wc.condF rfl ?_
        refine Wc.exit ?_
        refine Wx.then_x ?_
        refine Wx.then_x ?_
        refine Wx.blk_x ?_
        refine Wx.then_n ?_
        refine Wc.seq ?_
        refine Wc.region ?_
        refine Wl.val rfl (V.assign rfl) ?_
        refine Wl.nil ?_
        refine Wx.then_n ?_
        refine Wc.ret ?_
        repeat (first | refine Wx.then_r ?_ | refine Wx.blk_r ?_ | refine Wx.ng_r ?_)
        refine Wx.ret1 rfl rfl rfl ?_
        first | exact Ent.resF rfl | exact Ent.resC rfl | exact Ent.refl _ | exact Ent.auto
end Go.Proofs.YtjfacgmobpbhcaaGreat
/- The walks: laws on caches, Apart. -/
namespace Go.Proofs.YtjfacgmobpbhcaaGreat
open Go.Sl Sei
theorem s_law09_CacheApart {S : HP} {v : Value} (haw : AwakeC) (ring : Nat) (hr : ring < 256) (acts : ActL) (hA : ActsAt S v acts) (H : ApartOk ring acts) : Ctr P f_law09_CacheApart [.int .u8 (ring : Nat), v] S (fun r => pu (r = .bool true) * S) := by
  have hle := act_le hA
  have hs0 : stN ring acts 0 = ((open0 ring).1, (open0 ring).2.1) := rfl
  refine Ctr.of_body (m := 129) fn_law09_CacheApart rfl rfl rfl rfl rfl (fun F g => ?_)
  refine Wc.seq ?_
  refine Wc.region ?_
  refine Wl.val rfl (V.assign rfl) ?_
  refine Wl.nil ?_
  refine Wx.then_n ?_
  refine Wc.seq ?_
  refine Wc.seq ?_
  refine Wc.region ?_
  first | refine Wl.callE rfl rfl haw ?_ | refine Wl.callD rfl rfl haw (by first | exact Take.here | exact Take.there Take.here | exact Take.there (Take.there Take.here) | exact Take.there (Take.there (Take.there Take.here)) | exact Take.none _ | exact TakeC.t | exact Take.there (Take.there (Take.there (Take.there Take.here))) | exact Take.there (Take.there (Take.there (Take.there (Take.there Take.here)))) | exact Take.there (Take.there (Take.there (Take.there (Take.there (Take.there Take.here)))))) ?_
  refine Wl.val rfl (V.not rfl) ?_
  refine Wl.nil ?_
  refine Wx.then_n ?_
  refine Wc.cond rfl (fun hc1 => ?_) (fun hc1 => ?_)
  · skip
    try replace hc1 := of_decide_eq_true hc1
    refine Wc.seq ?_
    refine Wc.region ?_
    refine Wl.val rfl (V.assign rfl) ?_
    refine Wl.nil ?_
    refine Wx.then_n ?_
    refine Wc.ret ?_
    repeat (first | refine Wx.then_r ?_ | refine Wx.blk_r ?_ | refine Wx.ng_r ?_)
    refine Wx.ret1 rfl rfl rfl ?_
    simp at hc1
  · skip
    try replace hc1 := of_decide_eq_false hc1
    refine Wc.skip ?_
    refine Wx.then_n ?_
    refine Wc.seq ?_
    refine Wc.region ?_
    refine Wl.val rfl (V.move rfl) ?_
    refine Wl.call rfl rfl (s_law09_open ring hr H.opened) (by first | exact Take.here | exact Take.there Take.here | exact Take.there (Take.there Take.here) | exact Take.there (Take.there (Take.there Take.here)) | exact Take.none _ | exact TakeC.t | exact Take.there (Take.there (Take.there (Take.there Take.here))) | exact Take.there (Take.there (Take.there (Take.there (Take.there Take.here)))) | exact Take.there (Take.there (Take.there (Take.there (Take.there (Take.there Take.here)))))) (fun v23 => ?_)
    refine Wl.exm (fun q => ?_)
    refine Wl.pull (fun hq => ?_)
    subst hq
    generalize open0 ring = O at hs0 ⊢
    refine Wl.val rfl (V.move rfl) ?_
    refine Wl.val rfl (V.ext rfl rfl) ?_
    refine Wl.val rfl (V.ext rfl rfl) ?_
    refine Wl.val rfl (V.ext rfl rfl) ?_
    refine Wl.val rfl (V.assign rfl) ?_
    refine Wl.val rfl (V.assign rfl) ?_
    refine Wl.val rfl (V.assign rfl) ?_
    refine Wl.nil ?_
    refine Wx.then_n ?_
    refine Wc.seq ?_
    refine Wc.seq ?_
    refine Wc.region ?_
    refine Wl.val rfl (V.move rfl) ?_
    refine Wl.val rfl (V.eqPtrNil rfl U_Pcache_Cache) ?_
    refine Wl.nil ?_
    refine Wx.then_n ?_
    refine Wc.cond rfl (fun hc2 => ?_) (fun hc2 => ?_)
    · skip
      try replace hc2 := of_decide_eq_true hc2
      refine Wc.seq ?_
      refine Wc.region ?_
      refine Wl.val rfl (V.assign rfl) ?_
      refine Wl.nil ?_
      refine Wx.then_n ?_
      refine Wc.ret ?_
      repeat (first | refine Wx.then_r ?_ | refine Wx.blk_r ?_ | refine Wx.ng_r ?_)
      refine Wx.ret1 rfl rfl rfl ?_
      simp at hc2
    · skip
      try replace hc2 := of_decide_eq_false hc2
      refine Wc.skip ?_
      refine Wx.then_n ?_
      refine Wc.seq ?_
      refine Wc.seq ?_
      refine Wc.region ?_
      refine Wl.val rfl (V.assign rfl) ?_
      refine Wl.nil ?_
      refine Wx.then_n ?_
      refine Wc.block ?_
      refine Wc.loop (α := Nat) (fun x => acts.length - x) (fun x => pu (x ≤ acts.length ∧ x ≤ 60) * LHeap q.2 q.1 (stN ring acts x) (S * F)) (fun x => [(1, v), (6, ptr q.2), (8, i64 (x : Nat))]) 0 (by exact (by rw [hs0]; exact Ent.puC ⟨Nat.zero_le _, Nat.zero_le _⟩)) (by repeat (first | exact trivial | refine ⟨rfl, ?_⟩)) (fun x => ?_)
      revert x
      intro k
      refine Wc.pu (fun hx => ?_)
      refine Wc.seq ?_
      refine Wc.seq ?_
      refine Wc.region ?_
      refine Wl.val rfl (V.move rfl) ?_
      refine Wl.val rfl (V.move rfl) ?_
      refine Wl.val rfl (V.lenW rfl U_Slaw09_Act hA.vw) ?_
      refine Wl.val rfl (V.lss rfl rfl) ?_
      refine Wl.val rfl (V.move rfl) ?_
      refine Wl.bool 33 rfl (fun hb33 => ?_) (fun hb33 => ?_)
      · -- t33 is True
        try replace hb33 := of_decide_eq_true hb33
        refine Wl.gT rfl rfl ?_
        refine Wl.val rfl (V.move rfl) ?_
        refine Wl.gT rfl rfl ?_
        refine Wl.val rfl (V.lss rfl rfl) ?_
        refine Wl.val rfl (V.pickT rfl rfl) ?_
        refine Wl.nil ?_
        refine Wx.then_n ?_
        refine Wc.cond rfl (fun hc3 => ?_) (fun hc3 => ?_)
        · skip
          try replace hc3 := of_decide_eq_true hc3
          have hlt : k < acts.length := by omega
          obtain ⟨a, ha⟩ : ∃ a, acts[k]? = some a := ⟨_, List.getElem?_eq_getElem hlt⟩
          have hmem : a ∈ acts := List.mem_of_getElem? ha
          have hok := hA.ok a hmem
          have htv := hA.t a hmem
          have hlv := hA.l a hmem
          have ho1 := htv.one
          have ho2 := hlv.one
          have hC := H.ok k (by omega)
          have hC' := H.ok (k + 1) (by omega)
          have hsame := fun y => H.same k a y (by omega) ha
          have hgone := H.gone k a (by omega) ha
          have hmany := H.many k (by omega)
          have hst := stN_next (ring := ring) ha
          rw [hst] at hC' hgone hmany
          simp only [hst] at hsame
          dsimp only at hC' hgone hmany
          have hnn : -1000 ≤ (stN ring acts k).2.n ∧ (stN ring acts k).2.n ≤ 1000 := by have := hC.n; have := hC.log.n'; omega
          refine Wc.skip ?_
          refine Wx.then_n ?_
          refine Wc.seq ?_
          refine Wc.block ?_
          refine Wc.seq ?_
          refine Wc.region ?_
          refine Wl.val rfl (V.move rfl) ?_
          refine Wl.val rfl (V.move rfl) ?_
          refine Wl.val rfl (V.idxW rfl rfl U_Slaw09_Act Z_law09_Act hA.vw (by omega) (by omega)) ?_
          refine Wl.val rfl (V.ldAW (vs := actV a.1 a.2.1 a.2.2) rfl C_law09_Act hA.vw (by omega) (acts_at ha)) ?_
          refine Wl.al rfl (M.alloc N_law09_Act) (fun r9 => ?_)
          refine Wl.st (Go.Sl.S.putA (vs := actV a.1 a.2.1 a.2.2) rfl rfl C_law09_Act (by simp only [oneCells, ho1, ho2]; rfl) rfl rfl rfl) ?_
          refine Wl.nil ?_
          refine Wx.then_n ?_
          refine Wc.seq ?_
          refine Wc.seq ?_
          refine Wc.region ?_
          refine Wl.val rfl (V.ldA (vs := actV a.1 a.2.1 a.2.2) rfl C_law09_Act rfl) ?_
          first | refine Wl.callE rfl rfl (s_law09_large a.1 htv hlv) ?_ | refine Wl.callD rfl rfl (s_law09_large a.1 htv hlv) (by first | exact Take.here | exact Take.there Take.here | exact Take.there (Take.there Take.here) | exact Take.there (Take.there (Take.there Take.here)) | exact Take.none _ | exact TakeC.t | exact Take.there (Take.there (Take.there (Take.there Take.here))) | exact Take.there (Take.there (Take.there (Take.there (Take.there Take.here)))) | exact Take.there (Take.there (Take.there (Take.there (Take.there (Take.there Take.here)))))) ?_
          refine Wl.nil ?_
          refine Wx.then_n ?_
          refine Wc.cond rfl (fun hc4 => ?_) (fun hc4 => ?_)
          · skip
            try replace hc4 := of_decide_eq_true hc4
            refine Wc.seq ?_
            refine Wc.region ?_
            refine Wl.val rfl (V.assign rfl) ?_
            refine Wl.nil ?_
            refine Wx.then_n ?_
            refine Wc.ret ?_
            repeat (first | refine Wx.then_r ?_ | refine Wx.blk_r ?_ | refine Wx.ng_r ?_)
            refine Wx.ret1 rfl rfl rfl ?_
            first | exact Ent.resF rfl | exact Ent.resC rfl | exact Ent.refl _ | exact Ent.auto
          · skip
            try replace hc4 := of_decide_eq_false hc4
            refine Wc.skip ?_
            refine Wx.then_n ?_
            refine Wc.seq ?_
            refine Wc.region ?_
            refine Wl.val rfl (V.move rfl) ?_
            refine Wl.call rfl rfl (s_cache_Cache_AllV q.2 q.1 (stN ring acts k).2 hC.blocks) (by first | exact Take.here | exact Take.there Take.here | exact Take.there (Take.there Take.here) | exact Take.there (Take.there (Take.there Take.here)) | exact Take.none _ | exact TakeC.t | exact Take.there (Take.there (Take.there (Take.there Take.here))) | exact Take.there (Take.there (Take.there (Take.there (Take.there Take.here)))) | exact Take.there (Take.there (Take.there (Take.there (Take.there (Take.there Take.here)))))) (fun v46 => ?_)
            refine Wl.pull (fun hv1 => ?_)
            have ho3 := hv1.one
            have hle1 := hv1.le
            refine Wl.val rfl (V.assign rfl) ?_
            refine Wl.nil ?_
            refine Wx.then_n ?_
            refine Wc.seq ?_
            refine Wc.region ?_
            refine Wl.val rfl (V.move rfl) ?_
            refine Wl.val rfl (V.fld _ rfl O_law09_Act_2 rfl) ?_
            refine Wl.val rfl (V.fld _ rfl O_api_Entry_0 rfl) ?_
            refine Wl.val rfl (V.ld rfl C_int rfl) ?_
            first | refine Wl.callE rfl rfl (s_cache_Cache_Get q.2 q.1 (stN ring acts k).2 a.1.e.block) ?_ | refine Wl.callD rfl rfl (s_cache_Cache_Get q.2 q.1 (stN ring acts k).2 a.1.e.block) (by first | exact Take.here | exact Take.there Take.here | exact Take.there (Take.there Take.here) | exact Take.there (Take.there (Take.there Take.here)) | exact Take.none _ | exact TakeC.t | exact Take.there (Take.there (Take.there (Take.there Take.here))) | exact Take.there (Take.there (Take.there (Take.there (Take.there Take.here)))) | exact Take.there (Take.there (Take.there (Take.there (Take.there (Take.there Take.here)))))) ?_
            refine Wl.val rfl (V.move rfl) ?_
            refine Wl.val rfl (V.ext rfl rfl) ?_
            refine Wl.val rfl (V.ext rfl rfl) ?_
            refine Wl.al rfl (M.alloc N_api_Entry) (fun r11 => ?_)
            refine Wl.st (Go.Sl.S.putA (vs := etyV (cGet (stN ring acts k).2 a.1.e.block).1) rfl rfl C_api_Entry rfl rfl rfl rfl) ?_
            refine Wl.val rfl (V.assign rfl) ?_
            refine Wl.nil ?_
            refine Wx.then_n ?_
            refine Wc.cut (row r9 T_law09_Act (actV a.1 a.2.1 a.2.2) * (own T_api_Entry 7 v46 (cAll (stN ring acts k).2).length (etysV (cAll (stN ring acts k).2)) * LHeap q.2 q.1 (stN ring acts k) (S * F))) ([(1, v), (6, ptr q.2), (8, i64 (k : Nat)), (9, ptr r9), (10, v46), (13, .bool (placeB (stN ring acts k).2 a.1))]) ?_ ?_
            · skip
              refine Wc.region ?_
              refine Wl.val rfl (V.fld _ rfl O_law09_Act_0 rfl) ?_
              refine Wl.val rfl (V.ld rfl C_int rfl) ?_
              refine Wl.val rfl (V.eql rfl rfl) ?_
              refine Wl.val rfl (V.move rfl) ?_
              refine Wl.bool 58 rfl (fun hb58 => ?_) (fun hb58 => ?_)
              · -- t58 is True
                try replace hb58 := of_decide_eq_true hb58
                refine Wl.gT rfl rfl ?_
                refine Wl.val rfl (V.move rfl) ?_
                refine Wl.gT rfl rfl ?_
                refine Wl.val rfl (V.not rfl) ?_
                refine Wl.val rfl (V.pickT rfl rfl) ?_
                refine Wl.val rfl (V.move rfl) ?_
                refine Wl.bool 62 rfl (fun hb62 => ?_) (fun hb62 => ?_)
                · -- t62 is True
                  try replace hb62 := of_decide_eq_true hb62
                  refine Wl.gT rfl rfl ?_
                  refine Wl.val rfl (V.move rfl) ?_
                  refine Wl.gT rfl rfl ?_
                  refine Wl.val rfl (V.lenW rfl U_Sapi_Entry hv1) ?_
                  refine Wl.gT rfl rfl ?_
                  refine Wl.val rfl (V.move rfl) ?_
                  refine Wl.gT rfl rfl ?_
                  first | refine Wl.callE rfl rfl (s_cache_Cache_Room q.2 q.1 (stN ring acts k).2 hnn) ?_ | refine Wl.callD rfl rfl (s_cache_Cache_Room q.2 q.1 (stN ring acts k).2 hnn) (by first | exact Take.here | exact Take.there Take.here | exact Take.there (Take.there Take.here) | exact Take.there (Take.there (Take.there Take.here)) | exact Take.none _ | exact TakeC.t | exact Take.there (Take.there (Take.there (Take.there Take.here))) | exact Take.there (Take.there (Take.there (Take.there (Take.there Take.here)))) | exact Take.there (Take.there (Take.there (Take.there (Take.there (Take.there Take.here)))))) ?_
                  refine Wl.gT rfl rfl ?_
                  refine Wl.val rfl (V.geq rfl rfl) ?_
                  refine Wl.val rfl (V.pickT rfl rfl) ?_
                  refine Wl.val rfl (V.assign rfl) ?_
                  refine Wl.nil ?_
                  exact Wx.cutn Ent.auto ⟨rfl, rfl, rfl, rfl, rfl, lookB rfl (by simp only [placeB, *, decide_true, Bool.true_and, Bool.not_true, Bool.not_false]), trivial⟩
                · -- t62 is False
                  try replace hb62 := of_decide_eq_false hb62
                  refine Wl.gF rfl rfl rfl ?_
                  refine Wl.gF rfl rfl rfl ?_
                  refine Wl.gF rfl rfl rfl ?_
                  refine Wl.gF rfl rfl rfl ?_
                  refine Wl.gF rfl rfl rfl ?_
                  refine Wl.val rfl (V.pickF rfl rfl) ?_
                  refine Wl.val rfl (V.assign rfl) ?_
                  refine Wl.nil ?_
                  exact Wx.cutn Ent.auto ⟨rfl, rfl, rfl, rfl, rfl, lookB rfl (by simp only [placeB, *, decide_true, Bool.true_and, Bool.false_and, Bool.not_true, Bool.not_false]), trivial⟩
              · -- t58 is False
                try replace hb58 := of_decide_eq_false hb58
                refine Wl.gF rfl rfl rfl ?_
                refine Wl.gF rfl rfl rfl ?_
                refine Wl.val rfl (V.pickF rfl rfl) ?_
                refine Wl.val rfl (V.move rfl) ?_
                refine Wl.gF rfl rfl rfl ?_
                refine Wl.gF rfl rfl rfl ?_
                refine Wl.gF rfl rfl rfl ?_
                refine Wl.gF rfl rfl rfl ?_
                refine Wl.gF rfl rfl rfl ?_
                refine Wl.val rfl (V.pickF rfl rfl) ?_
                refine Wl.val rfl (V.assign rfl) ?_
                refine Wl.nil ?_
                exact Wx.cutn Ent.auto ⟨rfl, rfl, rfl, rfl, rfl, lookB rfl (by simp only [placeB, *, decide_false, Bool.false_and]), trivial⟩
            · skip
              refine Wc.seq ?_
              refine Wc.region ?_
              refine Wl.val rfl (V.move rfl) ?_
              refine Wl.val rfl (V.ldA (vs := actV a.1 a.2.1 a.2.2) rfl C_law09_Act rfl) ?_
              first | refine Wl.callE rfl rfl (s_law09_do q.2 q.1 hC a.1 hok htv hlv) ?_ | refine Wl.callD rfl rfl (s_law09_do q.2 q.1 hC a.1 hok htv hlv) (by first | exact Take.here | exact Take.there Take.here | exact Take.there (Take.there Take.here) | exact Take.there (Take.there (Take.there Take.here)) | exact Take.none _ | exact TakeC.t | exact Take.there (Take.there (Take.there (Take.there Take.here))) | exact Take.there (Take.there (Take.there (Take.there (Take.there Take.here)))) | exact Take.there (Take.there (Take.there (Take.there (Take.there (Take.there Take.here)))))) ?_
              generalize lDo (stN ring acts k).1 (stN ring acts k).2 a.1 = E at hC' hsame hgone hmany hst ⊢
              generalize (stN ring acts k).2 = C at hC hnn hv1 hle1 hsame hgone hmany ⊢
              have hnn' : -1000 ≤ E.2.1.n ∧ E.2.1.n ≤ 1000 := by have := hC'.n; have := hC'.log.n'; omega
              refine Wl.nil ?_
              refine Wx.then_n ?_
              refine Wc.seq ?_
              refine Wc.region ?_
              refine Wl.val rfl (V.assign rfl) ?_
              refine Wl.nil ?_
              refine Wx.then_n ?_
              refine Wc.seq ?_
              refine Wc.seq ?_
              refine Wc.region ?_
              refine Wl.val rfl (V.move rfl) ?_
              refine Wl.val rfl (V.lenW rfl U_Sapi_Entry hv1) ?_
              refine Wl.val rfl (V.move rfl) ?_
              refine Wl.nil ?_
              refine Wx.then_n ?_
              refine Wc.block ?_
              refine Wc.loop (α := Nat) (fun x => (cAll C).length - x) (fun x => pu (x ≤ (cAll C).length) * (row r9 T_law09_Act (actV a.1 a.2.1 a.2.2) * (own T_api_Entry 7 v46 (cAll C).length (etysV (cAll C)) * LHeap q.2 q.1 (E.1, E.2.1) (S * F)))) (fun x => [(1, v), (6, ptr q.2), (8, i64 (k : Nat)), (9, ptr r9), (10, v46), (13, .bool (placeB C a.1)), (14, i64 (goneN (leaves C a.1 E.2.1) (cAll C) x : Nat)), (72, v46), (73, i64 ((cAll C).length : Nat)), (74, i64 (x : Nat))]) 0 (by exact Ent.puC (Nat.zero_le _)) (by repeat (first | exact trivial | refine ⟨rfl, ?_⟩)) (fun x => ?_)
              refine Wc.pu (fun hy => ?_)
              have hgl := goneN_le (leaves C a.1 E.2.1) (cAll C) x
              refine Wc.seq ?_
              refine Wc.region ?_
              refine Wl.val rfl (V.lss rfl rfl) ?_
              refine Wl.nil ?_
              refine Wx.then_n ?_
              refine Wc.seq ?_
              refine Wc.cond rfl (fun hc5 => ?_) (fun hc5 => ?_)
              · skip
                try replace hc5 := of_decide_eq_true hc5
                have hlt2 : x < (cAll C).length := by omega
                obtain ⟨y, hyy⟩ : ∃ y, (cAll C)[x]? = some y := ⟨_, List.getElem?_eq_getElem hlt2⟩
                have hym : y ∈ cAll C := List.mem_of_getElem? hyy
                have hgn := goneN_next (p := leaves C a.1 E.2.1) hyy
                refine Wc.skip ?_
                refine Wx.then_n ?_
                refine Wc.seq ?_
                refine Wc.block ?_
                refine Wc.seq ?_
                refine Wc.region ?_
                refine Wl.val rfl (V.idxW rfl rfl U_Sapi_Entry Z_api_Entry hv1 (by omega) (by omega)) ?_
                refine Wl.val rfl (V.ldAW (vs := etyV y) rfl C_api_Entry hv1 (by omega) (by simpa using etysV_at hyy)) ?_
                refine Wl.al rfl (M.alloc N_api_Entry) (fun r16 => ?_)
                refine Wl.st (Go.Sl.S.putA (vs := etyV y) rfl rfl C_api_Entry rfl rfl rfl rfl) ?_
                refine Wl.nil ?_
                refine Wx.then_n ?_
                refine Wc.seq ?_
                refine Wc.region ?_
                refine Wl.val rfl (V.move rfl) ?_
                refine Wl.val rfl (V.fld _ rfl O_api_Entry_0 rfl) ?_
                refine Wl.val rfl (V.ld rfl C_int rfl) ?_
                first | refine Wl.callE rfl rfl (s_cache_Cache_Get q.2 q.1 E.2.1 y.block) ?_ | refine Wl.callD rfl rfl (s_cache_Cache_Get q.2 q.1 E.2.1 y.block) (by first | exact Take.here | exact Take.there Take.here | exact Take.there (Take.there Take.here) | exact Take.there (Take.there (Take.there Take.here)) | exact Take.none _ | exact TakeC.t | exact Take.there (Take.there (Take.there (Take.there Take.here))) | exact Take.there (Take.there (Take.there (Take.there (Take.there Take.here)))) | exact Take.there (Take.there (Take.there (Take.there (Take.there (Take.there Take.here)))))) ?_
                refine Wl.val rfl (V.move rfl) ?_
                refine Wl.val rfl (V.ext rfl rfl) ?_
                refine Wl.val rfl (V.ext rfl rfl) ?_
                refine Wl.al rfl (M.alloc N_api_Entry) (fun r17 => ?_)
                refine Wl.st (Go.Sl.S.putA (vs := etyV (cGet E.2.1 y.block).1) rfl rfl C_api_Entry rfl rfl rfl rfl) ?_
                refine Wl.val rfl (V.assign rfl) ?_
                refine Wl.nil ?_
                refine Wx.then_n ?_
                refine Wc.seq ?_
                refine Wc.cut (row r16 T_api_Entry (etyV y) * (row r17 T_api_Entry (etyV (cGet E.2.1 y.block).1) * (row r9 T_law09_Act (actV a.1 a.2.1 a.2.2) * (own T_api_Entry 7 v46 (cAll C).length (etysV (cAll C)) * LHeap q.2 q.1 (E.1, E.2.1) (S * F))))) ([(1, v), (6, ptr q.2), (8, i64 (k : Nat)), (9, ptr r9), (10, v46), (13, .bool (placeB C a.1)), (14, i64 (goneN (leaves C a.1 E.2.1) (cAll C) x : Nat)), (16, ptr r16), (17, ptr r17), (18, .bool (cGet E.2.1 y.block).2), (72, v46), (73, i64 ((cAll C).length : Nat)), (74, i64 (x : Nat)), (95, .bool (skipB a.1 y))]) ?_ ?_
                · skip
                  refine Wc.region ?_
                  refine Wl.val rfl (V.fld _ rfl O_law09_Act_0 rfl) ?_
                  refine Wl.val rfl (V.ld rfl C_int rfl) ?_
                  refine Wl.val rfl (V.leq rfl rfl) ?_
                  refine Wl.val rfl (V.move rfl) ?_
                  refine Wl.bool 88 rfl (fun hb88 => ?_) (fun hb88 => ?_)
                  · -- t88 is True
                    try replace hb88 := of_decide_eq_true hb88
                    refine Wl.gT rfl rfl ?_
                    refine Wl.val rfl (V.fld _ rfl O_api_Entry_0 rfl) ?_
                    refine Wl.gT rfl rfl ?_
                    refine Wl.val rfl (V.ld rfl C_int rfl) ?_
                    refine Wl.gT rfl rfl ?_
                    refine Wl.val rfl (V.fld _ rfl O_law09_Act_2 rfl) ?_
                    refine Wl.gT rfl rfl ?_
                    refine Wl.val rfl (V.fld _ rfl O_api_Entry_0 rfl) ?_
                    refine Wl.gT rfl rfl ?_
                    refine Wl.val rfl (V.ld rfl C_int rfl) ?_
                    refine Wl.gT rfl rfl ?_
                    refine Wl.val rfl (V.eql rfl rfl) ?_
                    refine Wl.val rfl (V.pickT rfl rfl) ?_
                    refine Wl.nil ?_
                    exact Wx.cutn Ent.auto (by repeat (first | exact trivial | refine ⟨by first | rfl | exact lookB rfl (by simp only [skipB, *, decide_true, Bool.true_and]), ?_⟩))
                  · -- t88 is False
                    try replace hb88 := of_decide_eq_false hb88
                    refine Wl.gF rfl rfl rfl ?_
                    refine Wl.gF rfl rfl rfl ?_
                    refine Wl.gF rfl rfl rfl ?_
                    refine Wl.gF rfl rfl rfl ?_
                    refine Wl.gF rfl rfl rfl ?_
                    refine Wl.gF rfl rfl rfl ?_
                    refine Wl.val rfl (V.pickF rfl rfl) ?_
                    refine Wl.nil ?_
                    exact Wx.cutn Ent.auto (by repeat (first | exact trivial | refine ⟨by first | rfl | exact lookB rfl (by simp only [skipB, *, decide_false, Bool.false_and]), ?_⟩))
                · skip
                  refine Wc.cond rfl (fun hc6 => ?_) (fun hc6 => ?_)
                  · skip
                    try replace hc6 := of_decide_eq_true hc6
                    refine Wc.exit ?_
                    refine Wx.then_x ?_
                    refine Wx.blk_x ?_
                    refine Wx.then_n ?_
                    refine Wc.region ?_
                    refine Wl.val rfl (V.addk rfl rfl (wr64 (by omega) (by omega))) ?_
                    refine Wl.val rfl (V.move rfl) ?_
                    refine Wl.nil ?_
                    rw [show goneN (leaves C a.1 E.2.1) (cAll C) x = goneN (leaves C a.1 E.2.1) (cAll C) (x + 1) by rw [hgn, show leaves C a.1 E.2.1 y = false by simp [leaves, hc6]]; rfl]
                    refine Wx.again (x + 1) (by exact (by show (cAll C).length - (x + 1) < (cAll C).length - x; omega)) (by exact Ent.puC (by omega)) (by repeat (first | exact trivial | refine ⟨rfl, ?_⟩))
                  · skip
                    try replace hc6 := of_decide_eq_false hc6
                    refine Wc.skip ?_
                    refine Wx.then_n ?_
                    refine Wc.seq ?_
                    refine Wc.cut (row r16 T_api_Entry (etyV y) * (row r17 T_api_Entry (etyV (cGet E.2.1 y.block).1) * (row r9 T_law09_Act (actV a.1 a.2.1 a.2.2) * (own T_api_Entry 7 v46 (cAll C).length (etysV (cAll C)) * LHeap q.2 q.1 (E.1, E.2.1) (S * F))))) ([(1, v), (6, ptr q.2), (8, i64 (k : Nat)), (9, ptr r9), (10, v46), (13, .bool (placeB C a.1)), (14, i64 (goneN (leaves C a.1 E.2.1) (cAll C) x : Nat)), (16, ptr r16), (17, ptr r17), (18, .bool (cGet E.2.1 y.block).2), (72, v46), (73, i64 ((cAll C).length : Nat)), (74, i64 (x : Nat)), (105, .bool (goneB C a.1 E.2.1 y))]) ?_ ?_
                    · skip
                      refine Wc.region ?_
                      refine Wl.val rfl (V.move rfl) ?_
                      refine Wl.val rfl (V.not rfl) ?_
                      refine Wl.val rfl (V.move rfl) ?_
                      refine Wl.bool 98 rfl (fun hb98 => ?_) (fun hb98 => ?_)
                      · -- t98 is True
                        try replace hb98 := of_decide_eq_true hb98
                        refine Wl.gT rfl rfl ?_
                        refine Wl.val rfl (V.move rfl) ?_
                        refine Wl.val rfl (V.pickT rfl rfl) ?_
                        refine Wl.val rfl (V.move rfl) ?_
                        refine Wl.bool 101 rfl (fun hb101 => ?_) (fun hb101 => ?_)
                        · -- t101 is True
                          try replace hb101 := of_decide_eq_true hb101
                          refine Wl.gT rfl rfl ?_
                          refine Wl.val rfl (V.fld _ rfl O_api_Entry_3 rfl) ?_
                          refine Wl.gT rfl rfl ?_
                          refine Wl.val rfl (V.ld rfl C_bool rfl) ?_
                          refine Wl.gT rfl rfl ?_
                          refine Wl.val rfl (V.not rfl) ?_
                          refine Wl.val rfl (V.pickT rfl rfl) ?_
                          refine Wl.nil ?_
                          exact Wx.cutn Ent.auto (by repeat (first | exact trivial | refine ⟨by first | rfl | exact lookB rfl (by simp only [goneB, *, Bool.true_and, Bool.not_true, Bool.not_false]), ?_⟩))
                        · -- t101 is False
                          try replace hb101 := of_decide_eq_false hb101
                          refine Wl.gF rfl rfl rfl ?_
                          refine Wl.gF rfl rfl rfl ?_
                          refine Wl.gF rfl rfl rfl ?_
                          refine Wl.val rfl (V.pickF rfl rfl) ?_
                          refine Wl.nil ?_
                          exact Wx.cutn Ent.auto (by repeat (first | exact trivial | refine ⟨by first | rfl | exact lookB rfl (by simp only [goneB, *, Bool.true_and, Bool.false_and, Bool.not_true, Bool.not_false]), ?_⟩))
                      · -- t98 is False
                        try replace hb98 := of_decide_eq_false hb98
                        refine Wl.gF rfl rfl rfl ?_
                        refine Wl.val rfl (V.pickF rfl rfl) ?_
                        refine Wl.val rfl (V.move rfl) ?_
                        refine Wl.gF rfl rfl rfl ?_
                        refine Wl.gF rfl rfl rfl ?_
                        refine Wl.gF rfl rfl rfl ?_
                        refine Wl.val rfl (V.pickF rfl rfl) ?_
                        refine Wl.nil ?_
                        exact Wx.cutn Ent.auto (by repeat (first | exact trivial | refine ⟨by first | rfl | exact lookB rfl (by simp only [goneB, *, Bool.false_and, Bool.not_true, Bool.not_false]), ?_⟩))
                    · skip
                      refine Wc.cond rfl (fun hc7 => ?_) (fun hc7 => ?_)
                      · skip
                        try replace hc7 := of_decide_eq_true hc7
                        refine Wc.seq ?_
                        refine Wc.region ?_
                        refine Wl.val rfl (V.move rfl) ?_
                        refine Wl.val rfl (V.addk rfl rfl (r := ((goneN (leaves C a.1 E.2.1) (cAll C) (x + 1) : Nat) : Int)) (by rw [wr64 (by omega) (by omega), hgn, show leaves C a.1 E.2.1 y = true by simp [leaves, hc6, hc7]]; simp)) ?_
                        refine Wl.val rfl (V.assign rfl) ?_
                        refine Wl.nil ?_
                        refine Wx.then_n ?_
                        refine Wc.exit ?_
                        refine Wx.then_x ?_
                        refine Wx.blk_x ?_
                        refine Wx.then_n ?_
                        refine Wc.region ?_
                        refine Wl.val rfl (V.addk rfl rfl (wr64 (by omega) (by omega))) ?_
                        refine Wl.val rfl (V.move rfl) ?_
                        refine Wl.nil ?_
                        skip
                        refine Wx.again (x + 1) (by exact (by show (cAll C).length - (x + 1) < (cAll C).length - x; omega)) (by exact Ent.puC (by omega)) (by repeat (first | exact trivial | refine ⟨rfl, ?_⟩))
                      · skip
                        try replace hc7 := of_decide_eq_false hc7
                        refine Wc.skip ?_
                        refine Wx.then_n ?_
                        refine Wc.seq ?_
                        refine Wc.region ?_
                        refine Wl.val rfl (V.move rfl) ?_
                        refine Wl.val rfl (V.not rfl) ?_
                        refine Wl.val rfl (V.move rfl) ?_
                        refine Wl.bool 110 rfl (fun hb110 => ?_) (fun hb110 => ?_)
                        · -- t110 is True
                          try replace hb110 := of_decide_eq_true hb110
                          refine Wl.gF rfl rfl rfl ?_
                          refine Wl.gF rfl rfl rfl ?_
                          refine Wl.gF rfl rfl rfl ?_
                          refine Wl.val rfl (V.pickT rfl rfl) ?_
                          refine Wl.nil ?_
                          refine Wx.then_n ?_
                          refine Wc.condT rfl ?_
                          refine Wc.seq ?_
                          refine Wc.region ?_
                          refine Wl.val rfl (V.assign rfl) ?_
                          refine Wl.nil ?_
                          refine Wx.then_n ?_
                          refine Wc.ret ?_
                          repeat (first | refine Wx.then_r ?_ | refine Wx.blk_r ?_ | refine Wx.ng_r ?_)
                          refine Wx.ret1 rfl rfl rfl ?_
                          exact absurd hb110 (by rw [hsame y hym hc6 hc7]; simp)
                        · -- t110 is False
                          try replace hb110 := of_decide_eq_false hb110
                          refine Wl.gT rfl rfl ?_
                          refine Wl.val rfl (V.ldA rfl C_api_Entry rfl) ?_
                          refine Wl.gT rfl rfl ?_
                          refine Wl.val rfl (V.ldA rfl C_api_Entry rfl) ?_
                          refine Wl.gT rfl rfl ?_
                          refine Wl.val rfl (V.neqV rfl rfl ⟨⟨_, rfl⟩, _, rfl⟩ rfl G_api_Entry E_api_Entry) ?_
                          refine Wl.val rfl (V.pickF rfl rfl) ?_
                          refine Wl.nil ?_
                          refine Wx.then_n ?_
                          refine Wc.cond rfl (fun hc8 => ?_) (fun hc8 => ?_)
                          · skip
                            try replace hc8 := of_decide_eq_true hc8
                            refine Wc.seq ?_
                            refine Wc.region ?_
                            refine Wl.val rfl (V.assign rfl) ?_
                            refine Wl.nil ?_
                            refine Wx.then_n ?_
                            refine Wc.ret ?_
                            repeat (first | refine Wx.then_r ?_ | refine Wx.blk_r ?_ | refine Wx.ng_r ?_)
                            refine Wx.ret1 rfl rfl rfl ?_
                            rw [ety_eq] at hc8
                            exact absurd hc8 (by rw [hsame y hym hc6 hc7]; simp)
                          · skip
                            try replace hc8 := of_decide_eq_false hc8
                            refine Wc.skip ?_
                            refine Wx.blk_n ?_
                            refine Wx.then_n ?_
                            refine Wc.region ?_
                            refine Wl.val rfl (V.addk rfl rfl (wr64 (by omega) (by omega))) ?_
                            refine Wl.val rfl (V.move rfl) ?_
                            refine Wl.nil ?_
                            rw [show goneN (leaves C a.1 E.2.1) (cAll C) x = goneN (leaves C a.1 E.2.1) (cAll C) (x + 1) by rw [hgn, show leaves C a.1 E.2.1 y = false by simp [leaves, hc7]]; rfl]
                            refine Wx.again (x + 1) (by exact (by show (cAll C).length - (x + 1) < (cAll C).length - x; omega)) (by exact Ent.puC (by omega)) (by repeat (first | exact trivial | refine ⟨rfl, ?_⟩))
              · skip
                try replace hc5 := of_decide_eq_false hc5
                have hxe : x = (cAll C).length := by omega
                have hgx : goneN (leaves C a.1 E.2.1) (cAll C) x ≤ 1 := by unfold goneN; rw [hxe, List.take_length]; exact hgone
                refine Wc.exit ?_
                refine Wx.then_x ?_
                refine Wx.then_x ?_
                refine Wx.blk_x ?_
                refine Wx.then_n ?_
                refine Wc.seq ?_
                refine Wc.region ?_
                refine Wl.val rfl (V.move rfl) ?_
                refine Wl.val rfl (V.gtr rfl rfl) ?_
                refine Wl.val rfl (V.move rfl) ?_
                refine Wl.bool 118 rfl (fun hb118 => ?_) (fun hb118 => ?_)
                · -- t118 is True
                  try replace hb118 := of_decide_eq_true hb118
                  refine Wl.gF rfl rfl rfl ?_
                  refine Wl.gF rfl rfl rfl ?_
                  refine Wl.gF rfl rfl rfl ?_
                  refine Wl.gF rfl rfl rfl ?_
                  refine Wl.gF rfl rfl rfl ?_
                  refine Wl.gF rfl rfl rfl ?_
                  refine Wl.gF rfl rfl rfl ?_
                  refine Wl.gF rfl rfl rfl ?_
                  refine Wl.gF rfl rfl rfl ?_
                  refine Wl.val rfl (V.pickT rfl rfl) ?_
                  refine Wl.nil ?_
                  refine Wx.then_n ?_
                  refine Wc.condT rfl ?_
                  refine Wc.seq ?_
                  refine Wc.region ?_
                  refine Wl.val rfl (V.assign rfl) ?_
                  refine Wl.nil ?_
                  refine Wx.then_n ?_
                  refine Wc.ret ?_
                  repeat (first | refine Wx.then_r ?_ | refine Wx.blk_r ?_ | refine Wx.ng_r ?_)
                  refine Wx.ret1 rfl rfl rfl ?_
                  exact absurd hb118 (by omega)
                · -- t118 is False
                  try replace hb118 := of_decide_eq_false hb118
                  refine Wl.gT rfl rfl ?_
                  refine Wl.val rfl (V.move rfl) ?_
                  refine Wl.gT rfl rfl ?_
                  refine Wl.call rfl rfl (s_cache_Cache_AllV q.2 q.1 E.2.1 hC'.blocks) (by first | exact Take.here | exact Take.there Take.here | exact Take.there (Take.there Take.here) | exact Take.there (Take.there (Take.there Take.here)) | exact Take.none _ | exact TakeC.t | exact Take.there (Take.there (Take.there (Take.there Take.here))) | exact Take.there (Take.there (Take.there (Take.there (Take.there Take.here)))) | exact Take.there (Take.there (Take.there (Take.there (Take.there (Take.there Take.here)))))) (fun v120 => ?_)
                  refine Wl.pull (fun hv3 => ?_)
                  refine Wl.gT rfl rfl ?_
                  refine Wl.val rfl (V.lenW rfl U_Sapi_Entry hv3) ?_
                  refine Wl.gT rfl rfl ?_
                  refine Wl.val rfl (V.move rfl) ?_
                  refine Wl.gT rfl rfl ?_
                  first | refine Wl.callE rfl rfl (s_cache_Cache_Room q.2 q.1 E.2.1 hnn') ?_ | refine Wl.callD rfl rfl (s_cache_Cache_Room q.2 q.1 E.2.1 hnn') (by first | exact Take.here | exact Take.there Take.here | exact Take.there (Take.there Take.here) | exact Take.there (Take.there (Take.there Take.here)) | exact Take.none _ | exact TakeC.t | exact Take.there (Take.there (Take.there (Take.there Take.here))) | exact Take.there (Take.there (Take.there (Take.there (Take.there Take.here)))) | exact Take.there (Take.there (Take.there (Take.there (Take.there (Take.there Take.here)))))) ?_
                  refine Wl.gT rfl rfl ?_
                  refine Wl.val rfl (V.move rfl) ?_
                  refine Wl.gT rfl rfl ?_
                  refine Wl.val rfl (V.lenW rfl U_Sapi_Entry hv1) ?_
                  refine Wl.gT rfl rfl ?_
                  refine Wl.val rfl (V.mx rfl rfl) ?_
                  refine Wl.gT rfl rfl ?_
                  refine Wl.val rfl (V.gtr rfl rfl) ?_
                  refine Wl.val rfl (V.pickF rfl rfl) ?_
                  refine Wl.nil ?_
                  refine Wx.then_n ?_
                  refine Wc.cond rfl (fun hc9 => ?_) (fun hc9 => ?_)
                  · skip
                    try replace hc9 := of_decide_eq_true hc9
                    refine Wc.seq ?_
                    refine Wc.region ?_
                    refine Wl.val rfl (V.assign rfl) ?_
                    refine Wl.nil ?_
                    refine Wx.then_n ?_
                    refine Wc.ret ?_
                    repeat (first | refine Wx.then_r ?_ | refine Wx.blk_r ?_ | refine Wx.ng_r ?_)
                    refine Wx.ret1 rfl rfl rfl ?_
                    exact absurd hc9 (by omega)
                  · skip
                    try replace hc9 := of_decide_eq_false hc9
                    refine Wc.skip ?_
                    refine Wx.blk_n ?_
                    refine Wx.then_n ?_
                    refine Wc.region ?_
                    refine Wl.val rfl (V.move rfl) ?_
                    refine Wl.val rfl (V.addk rfl rfl (wr64 (by omega) (by omega))) ?_
                    refine Wl.val rfl (V.assign rfl) ?_
                    refine Wl.nil ?_
                    skip
                    refine Wx.again (k + 1) (by exact (by show acts.length - (k + 1) < acts.length - k; omega)) (by exact (by rw [hst]; exact Ent.puC ⟨by omega, by omega⟩)) (by repeat (first | exact trivial | refine ⟨rfl, ?_⟩))
        · skip
          try replace hc3 := of_decide_eq_false hc3
          refine Wc.exit ?_
          refine Wx.then_x ?_
          refine Wx.then_x ?_
          refine Wx.blk_x ?_
          refine Wx.then_n ?_
          refine Wc.seq ?_
          refine Wc.region ?_
          refine Wl.val rfl (V.assign rfl) ?_
          refine Wl.nil ?_
          refine Wx.then_n ?_
          refine Wc.ret ?_
          repeat (first | refine Wx.then_r ?_ | refine Wx.blk_r ?_ | refine Wx.ng_r ?_)
          refine Wx.ret1 rfl rfl rfl ?_
          first | exact Ent.resF rfl | exact Ent.resC rfl | exact Ent.refl _ | exact Ent.auto
      · -- t33 is False
        try replace hb33 := of_decide_eq_false hb33
        refine Wl.gF rfl rfl rfl ?_
        refine Wl.gF rfl rfl rfl ?_
        refine Wl.val rfl (V.pickF rfl rfl) ?_
        refine Wl.nil ?_
        refine Wx.then_n ?_
        refine Wc.condF rfl ?_
        refine Wc.exit ?_
        refine Wx.then_x ?_
        refine Wx.then_x ?_
        refine Wx.blk_x ?_
        refine Wx.then_n ?_
        refine Wc.seq ?_
        refine Wc.region ?_
        refine Wl.val rfl (V.assign rfl) ?_
        refine Wl.nil ?_
        refine Wx.then_n ?_
        refine Wc.ret ?_
        repeat (first | refine Wx.then_r ?_ | refine Wx.blk_r ?_ | refine Wx.ng_r ?_)
        refine Wx.ret1 rfl rfl rfl ?_
        first | exact Ent.resF rfl | exact Ent.resC rfl | exact Ent.refl _ | exact Ent.auto
end Go.Proofs.YtjfacgmobpbhcaaGreat
/- The walks: laws on caches, Reset. -/
namespace Go.Proofs.YtjfacgmobpbhcaaGreat
open Go.Sl Sei
theorem tabOf_get {l : List Int} {x : Nat} (hx : x < 4) : tabGet (tabOf l) (x : Int) = l.getD x 0 := by
  have : x = 0 ∨ x = 1 ∨ x = 2 ∨ x = 3 := by omega
  rcases this with rfl | rfl | rfl | rfl <;> rfl
theorem s_law09_CacheReset {S : HP} {v lv : Value} (haw : AwakeC) (ring : Nat) (hr : ring < 256) (acts : ActL) (hA : ActsAt S v acts) (ve : Ver) (hve : verOk ve) (l : List Int) (hl : Vw S lv 1 l.length (numsV l)) (hlI : ∀ n ∈ l, I64 n) (H : ResetOk ring acts ve l) : Ctr P f_law09_CacheReset [.int .u8 (ring : Nat), v, .agg (verV ve).toArray, lv] S (fun r => pu (r = .bool true) * S) := by
  have hle := act_le hA
  have hll := hl.le
  have hs0 : stN ring acts 0 = ((open0 ring).1, (open0 ring).2.1) := rfl
  refine Ctr.of_body (m := 106) fn_law09_CacheReset rfl rfl rfl rfl rfl (fun F g => ?_)
  refine Wc.seq ?_
  refine Wc.region ?_
  refine Wl.al rfl (M.box (l := verV ve) rfl rfl) (fun r6 => ?_)
  refine Wl.val rfl (V.assign rfl) ?_
  refine Wl.nil ?_
  refine Wx.then_n ?_
  refine Wc.seq ?_
  refine Wc.seq ?_
  refine Wc.region ?_
  first | refine Wl.callE rfl rfl haw ?_ | refine Wl.callD rfl rfl haw (by first | exact Take.here | exact Take.there Take.here | exact Take.there (Take.there Take.here) | exact Take.there (Take.there (Take.there Take.here)) | exact Take.none _ | exact TakeC.t | exact Take.there (Take.there (Take.there (Take.there Take.here))) | exact Take.there (Take.there (Take.there (Take.there (Take.there Take.here)))) | exact Take.there (Take.there (Take.there (Take.there (Take.there (Take.there Take.here)))))) ?_
  refine Wl.val rfl (V.not rfl) ?_
  refine Wl.nil ?_
  refine Wx.then_n ?_
  refine Wc.cond rfl (fun hc1 => ?_) (fun hc1 => ?_)
  · skip
    try replace hc1 := of_decide_eq_true hc1
    refine Wc.seq ?_
    refine Wc.region ?_
    refine Wl.val rfl (V.assign rfl) ?_
    refine Wl.nil ?_
    refine Wx.then_n ?_
    refine Wc.ret ?_
    repeat (first | refine Wx.then_r ?_ | refine Wx.blk_r ?_ | refine Wx.ng_r ?_)
    refine Wx.ret1 rfl rfl rfl ?_
    simp at hc1
  · skip
    try replace hc1 := of_decide_eq_false hc1
    refine Wc.skip ?_
    refine Wx.then_n ?_
    refine Wc.seq ?_
    refine Wc.region ?_
    refine Wl.val rfl (V.move rfl) ?_
    refine Wl.call rfl rfl (s_law09_open ring hr H.opened) (by first | exact Take.here | exact Take.there Take.here | exact Take.there (Take.there Take.here) | exact Take.there (Take.there (Take.there Take.here)) | exact Take.none _ | exact TakeC.t | exact Take.there (Take.there (Take.there (Take.there Take.here))) | exact Take.there (Take.there (Take.there (Take.there (Take.there Take.here)))) | exact Take.there (Take.there (Take.there (Take.there (Take.there (Take.there Take.here)))))) (fun v21 => ?_)
    refine Wl.exm (fun q => ?_)
    refine Wl.pull (fun hq => ?_)
    subst hq
    generalize open0 ring = O at hs0 ⊢
    refine Wl.val rfl (V.move rfl) ?_
    refine Wl.val rfl (V.ext rfl rfl) ?_
    refine Wl.val rfl (V.ext rfl rfl) ?_
    refine Wl.val rfl (V.ext rfl rfl) ?_
    refine Wl.val rfl (V.assign rfl) ?_
    refine Wl.val rfl (V.assign rfl) ?_
    refine Wl.val rfl (V.assign rfl) ?_
    refine Wl.nil ?_
    refine Wx.then_n ?_
    refine Wc.seq ?_
    refine Wc.seq ?_
    refine Wc.region ?_
    refine Wl.val rfl (V.move rfl) ?_
    refine Wl.val rfl (V.eqPtrNil rfl U_Pcache_Cache) ?_
    refine Wl.val rfl (V.move rfl) ?_
    refine Wl.bool 27 rfl (fun hb27 => ?_) (fun hb27 => ?_)
    · -- t27 is True
      try replace hb27 := of_decide_eq_true hb27
      refine Wl.gF rfl rfl rfl ?_
      refine Wl.gF rfl rfl rfl ?_
      refine Wl.gF rfl rfl rfl ?_
      refine Wl.val rfl (V.pickT rfl rfl) ?_
      refine Wl.nil ?_
      refine Wx.then_n ?_
      refine Wc.condT rfl ?_
      refine Wc.seq ?_
      refine Wc.region ?_
      refine Wl.val rfl (V.move rfl) ?_
      refine Wl.val rfl (V.nePtrNil rfl U_Pcache_Cache) ?_
      refine Wl.val rfl (V.assign rfl) ?_
      refine Wl.nil ?_
      refine Wx.then_n ?_
      refine Wc.ret ?_
      repeat (first | refine Wx.then_r ?_ | refine Wx.blk_r ?_ | refine Wx.ng_r ?_)
      refine Wx.ret1 rfl rfl rfl ?_
      simp at hb27
    · -- t27 is False
      try replace hb27 := of_decide_eq_false hb27
      refine Wl.gT rfl rfl ?_
      refine Wl.val rfl (V.move rfl) ?_
      refine Wl.gT rfl rfl ?_
      refine Wl.val rfl (V.lenW rfl U_Sint64 hl) ?_
      refine Wl.gT rfl rfl ?_
      refine Wl.val rfl (V.gtr rfl rfl) ?_
      refine Wl.val rfl (V.pickF rfl rfl) ?_
      refine Wl.nil ?_
      refine Wx.then_n ?_
      refine Wc.cond rfl (fun hc2 => ?_) (fun hc2 => ?_)
      · skip
        try replace hc2 := of_decide_eq_true hc2
        refine Wc.seq ?_
        refine Wc.region ?_
        refine Wl.val rfl (V.move rfl) ?_
        refine Wl.val rfl (V.nePtrNil rfl U_Pcache_Cache) ?_
        refine Wl.val rfl (V.assign rfl) ?_
        refine Wl.nil ?_
        refine Wx.then_n ?_
        refine Wc.ret ?_
        repeat (first | refine Wx.then_r ?_ | refine Wx.blk_r ?_ | refine Wx.ng_r ?_)
        refine Wx.ret1 rfl rfl rfl ?_
        exact Ent.resC rfl
      · skip
        try replace hc2 := of_decide_eq_false hc2
        refine Wc.skip ?_
        refine Wx.then_n ?_
        refine Wc.cut (ex (fun (k : Nat) => pu (k ≤ 60) * (row r6 T_api_Version (verV ve) * LHeap q.2 q.1 (stN ring acts k) (S * F)))) ([(3, lv), (6, ptr r6), (10, ptr q.2)]) ?_ ?_
        · skip
          refine Wc.seq ?_
          refine Wc.region ?_
          refine Wl.val rfl (V.assign rfl) ?_
          refine Wl.nil ?_
          refine Wx.then_n ?_
          refine Wc.block ?_
          refine Wc.loop (α := Nat) (fun x => acts.length - x) (fun x => pu (x ≤ acts.length ∧ x ≤ 60) * (row r6 T_api_Version (verV ve) * LHeap q.2 q.1 (stN ring acts x) (S * F))) (fun x => [(1, v), (3, lv), (6, ptr r6), (10, ptr q.2), (12, i64 (x : Nat))]) 0 (by exact (by rw [hs0]; exact Ent.puC ⟨Nat.zero_le _, Nat.zero_le _⟩)) (by repeat (first | exact trivial | refine ⟨rfl, ?_⟩)) (fun x => ?_)
          revert x
          intro k
          refine Wc.pu (fun hx => ?_)
          refine Wc.seq ?_
          refine Wc.seq ?_
          refine Wc.region ?_
          refine Wl.val rfl (V.move rfl) ?_
          refine Wl.val rfl (V.move rfl) ?_
          refine Wl.val rfl (V.lenW rfl U_Slaw09_Act hA.vw) ?_
          refine Wl.val rfl (V.lss rfl rfl) ?_
          refine Wl.val rfl (V.move rfl) ?_
          refine Wl.bool 38 rfl (fun hb38 => ?_) (fun hb38 => ?_)
          · -- t38 is True
            try replace hb38 := of_decide_eq_true hb38
            refine Wl.gT rfl rfl ?_
            refine Wl.val rfl (V.move rfl) ?_
            refine Wl.gT rfl rfl ?_
            refine Wl.val rfl (V.lss rfl rfl) ?_
            refine Wl.val rfl (V.pickT rfl rfl) ?_
            refine Wl.nil ?_
            refine Wx.then_n ?_
            refine Wc.cond rfl (fun hc3 => ?_) (fun hc3 => ?_)
            · skip
              try replace hc3 := of_decide_eq_true hc3
              have hlt : k < acts.length := by omega
              obtain ⟨a, ha⟩ : ∃ a, acts[k]? = some a := ⟨_, List.getElem?_eq_getElem hlt⟩
              have hmem : a ∈ acts := List.mem_of_getElem? ha
              have hok := hA.ok a hmem
              have htv := hA.t a hmem
              have hlv := hA.l a hmem
              have ho1 := htv.one
              have ho2 := hlv.one
              have hC := H.ok k (by omega)
              have hst := stN_next (ring := ring) ha
              refine Wc.skip ?_
              refine Wx.then_n ?_
              refine Wc.seq ?_
              refine Wc.block ?_
              refine Wc.seq ?_
              refine Wc.seq ?_
              refine Wc.region ?_
              refine Wl.val rfl (V.move rfl) ?_
              refine Wl.val rfl (V.move rfl) ?_
              refine Wl.val rfl (V.idxW rfl rfl U_Slaw09_Act Z_law09_Act hA.vw (by omega) (by omega)) ?_
              refine Wl.val rfl (V.ldAW (vs := actV a.1 a.2.1 a.2.2) rfl C_law09_Act hA.vw (by omega) (acts_at ha)) ?_
              first | refine Wl.callE rfl rfl (s_law09_large a.1 htv hlv) ?_ | refine Wl.callD rfl rfl (s_law09_large a.1 htv hlv) (by first | exact Take.here | exact Take.there Take.here | exact Take.there (Take.there Take.here) | exact Take.there (Take.there (Take.there Take.here)) | exact Take.none _ | exact TakeC.t | exact Take.there (Take.there (Take.there (Take.there Take.here))) | exact Take.there (Take.there (Take.there (Take.there (Take.there Take.here)))) | exact Take.there (Take.there (Take.there (Take.there (Take.there (Take.there Take.here)))))) ?_
              refine Wl.nil ?_
              refine Wx.then_n ?_
              refine Wc.cond rfl (fun hc4 => ?_) (fun hc4 => ?_)
              · skip
                try replace hc4 := of_decide_eq_true hc4
                refine Wc.seq ?_
                refine Wc.region ?_
                refine Wl.val rfl (V.assign rfl) ?_
                refine Wl.nil ?_
                refine Wx.then_n ?_
                refine Wc.ret ?_
                repeat (first | refine Wx.then_r ?_ | refine Wx.blk_r ?_ | refine Wx.ng_r ?_)
                refine Wx.ret1 rfl rfl rfl ?_
                exact Ent.resC rfl
              · skip
                try replace hc4 := of_decide_eq_false hc4
                refine Wc.skip ?_
                refine Wx.then_n ?_
                refine Wc.region ?_
                refine Wl.val rfl (V.move rfl) ?_
                refine Wl.val rfl (V.move rfl) ?_
                refine Wl.val rfl (V.move rfl) ?_
                refine Wl.val rfl (V.idxW rfl rfl U_Slaw09_Act Z_law09_Act hA.vw (by omega) (by omega)) ?_
                refine Wl.val rfl (V.ldAW (vs := actV a.1 a.2.1 a.2.2) rfl C_law09_Act hA.vw (by omega) (acts_at ha)) ?_
                first | refine Wl.callE rfl rfl (s_law09_do q.2 q.1 hC a.1 hok htv hlv) ?_ | refine Wl.callD rfl rfl (s_law09_do q.2 q.1 hC a.1 hok htv hlv) (by first | exact Take.here | exact Take.there Take.here | exact Take.there (Take.there Take.here) | exact Take.there (Take.there (Take.there Take.here)) | exact Take.none _ | exact TakeC.t | exact Take.there (Take.there (Take.there (Take.there Take.here))) | exact Take.there (Take.there (Take.there (Take.there (Take.there Take.here)))) | exact Take.there (Take.there (Take.there (Take.there (Take.there (Take.there Take.here)))))) ?_
                refine Wl.nil ?_
                refine Wx.blk_n ?_
                refine Wx.then_n ?_
                refine Wc.region ?_
                refine Wl.val rfl (V.move rfl) ?_
                refine Wl.val rfl (V.addk rfl rfl (wr64 (by omega) (by omega))) ?_
                refine Wl.val rfl (V.assign rfl) ?_
                refine Wl.nil ?_
                skip
                refine Wx.again (k + 1) (by exact (by show acts.length - (k + 1) < acts.length - k; omega)) (by exact (by rw [hst]; exact Ent.puC ⟨by omega, by omega⟩)) (by repeat (first | exact trivial | refine ⟨rfl, ?_⟩))
            · skip
              try replace hc3 := of_decide_eq_false hc3
              refine Wc.exit ?_
              refine Wx.then_x ?_
              refine Wx.then_x ?_
              refine Wx.blk_x ?_
              exact Wx.cutn (Ent.trans (Ent.puC (by omega)) (Ent.ex k (Ent.refl _))) (by repeat (first | exact trivial | refine ⟨rfl, ?_⟩))
          · -- t38 is False
            try replace hb38 := of_decide_eq_false hb38
            refine Wl.gF rfl rfl rfl ?_
            refine Wl.gF rfl rfl rfl ?_
            refine Wl.val rfl (V.pickF rfl rfl) ?_
            refine Wl.nil ?_
            refine Wx.then_n ?_
            refine Wc.condF rfl ?_
            refine Wc.exit ?_
            refine Wx.then_x ?_
            refine Wx.then_x ?_
            refine Wx.blk_x ?_
            exact Wx.cutn (Ent.trans (Ent.puC (by omega)) (Ent.ex k (Ent.refl _))) (by repeat (first | exact trivial | refine ⟨rfl, ?_⟩))
        · skip
          refine Wc.ex (fun k => ?_)
          refine Wc.pu (fun hk => ?_)
          have hC := H.ok k hk
          have hRo := H.okR k hk
          have hRe := H.errs k hk
          have hRs := H.sets k hk
          have hRn := H.notes k hk
          refine Wc.seq ?_
          refine Wc.region ?_
          refine Wl.val rfl (V.move rfl) ?_
          refine Wl.call rfl rfl (s_law09_toldV q.2 q.1 (stN ring acts k).2 hC.blocks) (by first | exact Take.here | exact Take.there Take.here | exact Take.there (Take.there Take.here) | exact Take.there (Take.there (Take.there Take.here)) | exact Take.none _ | exact TakeC.t | exact Take.there (Take.there (Take.there (Take.there Take.here))) | exact Take.there (Take.there (Take.there (Take.there (Take.there Take.here)))) | exact Take.there (Take.there (Take.there (Take.there (Take.there (Take.there Take.here)))))) (fun v56 => ?_)
          refine Wl.exm (fun av1 => ?_)
          refine Wl.pull (fun hq1 => ?_)
          subst hq1
          refine Wl.pull (fun hv1 => ?_)
          have ho3 := hv1.one
          refine Wl.al rfl (M.alloc N_law09_state) (fun r13 => ?_)
          refine Wl.st (Go.Sl.S.putA (vs := stV av1 (toldOf (stN ring acts k).2).2) rfl rfl C_law09_state (by simp only [oneCells, ho3]; rfl) rfl rfl rfl) ?_
          refine Wl.nil ?_
          refine Wx.then_n ?_
          refine Wc.seq ?_
          refine Wc.region ?_
          refine Wl.val rfl (V.move rfl) ?_
          refine Wl.val rfl (V.ldA (vs := verV ve) rfl C_api_Version rfl) ?_
          refine Wl.val rfl (V.move rfl) ?_
          first | refine Wl.callE rfl rfl (s_cache_Cache_Reset q.2 q.1 hC ve hve l hl hlI) ?_ | refine Wl.callD rfl rfl (s_cache_Cache_Reset q.2 q.1 hC ve hve l hl hlI) (by first | exact Take.here | exact Take.there Take.here | exact Take.there (Take.there Take.here) | exact Take.there (Take.there (Take.there Take.here)) | exact Take.none _ | exact TakeC.t | exact Take.there (Take.there (Take.there (Take.there Take.here))) | exact Take.there (Take.there (Take.there (Take.there (Take.there Take.here)))) | exact Take.there (Take.there (Take.there (Take.there (Take.there (Take.there Take.here)))))) ?_
          generalize cReset (stN ring acts k).1 (stN ring acts k).2 ve l = R at hRo hRe hRs hRn ⊢
          refine Wl.val rfl (V.assign rfl) ?_
          refine Wl.nil ?_
          refine Wx.then_n ?_
          refine Wc.seq ?_
          refine Wc.region ?_
          refine Wl.val rfl (V.move rfl) ?_
          refine Wl.call rfl rfl (s_law09_toldV q.2 q.1 R.2.1 hRo.blocks) (by first | exact Take.here | exact Take.there Take.here | exact Take.there (Take.there Take.here) | exact Take.there (Take.there (Take.there Take.here)) | exact Take.none _ | exact TakeC.t | exact Take.there (Take.there (Take.there (Take.there Take.here))) | exact Take.there (Take.there (Take.there (Take.there (Take.there Take.here)))) | exact Take.there (Take.there (Take.there (Take.there (Take.there (Take.there Take.here)))))) (fun v62 => ?_)
          refine Wl.exm (fun av2 => ?_)
          refine Wl.pull (fun hq2 => ?_)
          subst hq2
          refine Wl.pull (fun hv2 => ?_)
          have ho4 := hv2.one
          refine Wl.al rfl (M.alloc N_law09_state) (fun r15 => ?_)
          refine Wl.st (Go.Sl.S.putA (vs := stV av2 (toldOf R.2.1).2) rfl rfl C_law09_state (by simp only [oneCells, ho4]; rfl) rfl rfl rfl) ?_
          refine Wl.nil ?_
          refine Wx.then_n ?_
          refine Wc.seq ?_
          refine Wc.seq ?_
          refine Wc.region ?_
          refine Wl.val rfl (V.move rfl) ?_
          refine Wl.val rfl (V.neq rfl rfl) ?_
          refine Wl.nil ?_
          refine Wx.then_n ?_
          refine Wc.cond rfl (fun hc5 => ?_) (fun hc5 => ?_)
          · skip
            try replace hc5 := of_decide_eq_true hc5
            have hRe := hRe (by simpa using hc5)
            refine Wc.seq ?_
            refine Wc.region ?_
            refine Wl.val rfl (V.move rfl) ?_
            refine Wl.val rfl (V.eql rfl rfl) ?_
            refine Wl.val rfl (V.move rfl) ?_
            refine Wl.bool 67 rfl (fun hb67 => ?_) (fun hb67 => ?_)
            · -- t67 is True
              try replace hb67 := of_decide_eq_true hb67
              refine Wl.gT rfl rfl ?_
              refine Wl.val rfl (V.ldA (vs := stV av1 (toldOf (stN ring acts k).2).2) rfl C_law09_state rfl) ?_
              refine Wl.gT rfl rfl ?_
              refine Wl.val rfl (V.ldA (vs := stV av2 (toldOf R.2.1).2) rfl C_law09_state rfl) ?_
              refine Wl.gT rfl rfl ?_
              first | refine Wl.callE rfl rfl (s_law09_alike (S := toldO av1 (toldOf (stN ring acts k).2) * toldO av2 (toldOf R.2.1)) (toldOf (stN ring acts k).2) (toldOf R.2.1) (Vw.lift hv1) (Vw.lift hv2)) ?_ | refine Wl.callD rfl rfl (s_law09_alike (S := toldO av1 (toldOf (stN ring acts k).2) * toldO av2 (toldOf R.2.1)) (toldOf (stN ring acts k).2) (toldOf R.2.1) (Vw.lift hv1) (Vw.lift hv2)) (by first | exact Take.here | exact Take.there Take.here | exact Take.there (Take.there Take.here) | exact Take.there (Take.there (Take.there Take.here)) | exact Take.none _ | exact TakeC.t | exact Take.there (Take.there (Take.there (Take.there Take.here))) | exact Take.there (Take.there (Take.there (Take.there (Take.there Take.here)))) | exact Take.there (Take.there (Take.there (Take.there (Take.there (Take.there Take.here)))))) ?_
              refine Wl.val rfl (V.pickT rfl rfl) ?_
              refine Wl.val rfl (V.assign rfl) ?_
              refine Wl.nil ?_
              refine Wx.then_n ?_
              refine Wc.ret ?_
              repeat (first | refine Wx.then_r ?_ | refine Wx.blk_r ?_ | refine Wx.ng_r ?_)
              refine Wx.ret1 rfl rfl rfl ?_
              exact Ent.resC (by rw [hRe.2, decide_eq_true rfl])
            · -- t67 is False
              try replace hb67 := of_decide_eq_false hb67
              refine Wl.gF rfl rfl rfl ?_
              refine Wl.gF rfl rfl rfl ?_
              refine Wl.gF rfl rfl rfl ?_
              refine Wl.val rfl (V.pickF rfl rfl) ?_
              refine Wl.val rfl (V.assign rfl) ?_
              refine Wl.nil ?_
              refine Wx.then_n ?_
              refine Wc.ret ?_
              repeat (first | refine Wx.then_r ?_ | refine Wx.blk_r ?_ | refine Wx.ng_r ?_)
              refine Wx.ret1 rfl rfl rfl ?_
              exact absurd hRe.1 hb67
          · skip
            try replace hc5 := of_decide_eq_false hc5
            have hz : R.2.2 = 0 := by simpa using hc5
            obtain ⟨hl4, hkept, hall⟩ := hRs hz
            obtain ⟨hn0, hnt, hno⟩ := hRn hz R rfl
            refine Wc.skip ?_
            refine Wx.then_n ?_
            refine Wc.seq ?_
            refine Wc.seq ?_
            refine Wc.region ?_
            refine Wl.val rfl (V.fld _ rfl O_law09_state_1 rfl) ?_
            refine Wl.val rfl (V.ldA (vs := verV R.2.1.kept.last) rfl C_api_Version rfl) ?_
            refine Wl.val rfl (V.ldA (vs := verV ve) rfl C_api_Version rfl) ?_
            refine Wl.val rfl (V.neqV rfl rfl ⟨⟨_, rfl⟩, _, rfl⟩ rfl G_api_Version E_api_Version) ?_
            refine Wl.val rfl (V.move rfl) ?_
            refine Wl.bool 76 rfl (fun hb76 => ?_) (fun hb76 => ?_)
            · -- t76 is True
              try replace hb76 := of_decide_eq_true hb76
              refine Wl.gF rfl rfl rfl ?_
              refine Wl.gF rfl rfl rfl ?_
              refine Wl.gF rfl rfl rfl ?_
              refine Wl.gF rfl rfl rfl ?_
              refine Wl.gF rfl rfl rfl ?_
              refine Wl.gF rfl rfl rfl ?_
              refine Wl.val rfl (V.pickT rfl rfl) ?_
              refine Wl.nil ?_
              refine Wx.then_n ?_
              refine Wc.condT rfl ?_
              refine Wc.seq ?_
              refine Wc.region ?_
              refine Wl.val rfl (V.assign rfl) ?_
              refine Wl.nil ?_
              refine Wx.then_n ?_
              refine Wc.ret ?_
              repeat (first | refine Wx.then_r ?_ | refine Wx.blk_r ?_ | refine Wx.ng_r ?_)
              refine Wx.ret1 rfl rfl rfl ?_
              rw [ver_eq] at hb76
              exact absurd hb76 (by rw [hkept]; simp)
            · -- t76 is False
              try replace hb76 := of_decide_eq_false hb76
              refine Wl.gT rfl rfl ?_
              refine Wl.val rfl (V.fld _ rfl O_law09_state_0 rfl) ?_
              refine Wl.gT rfl rfl ?_
              refine Wl.val rfl (V.ld rfl C_Sapi_Entry rfl) ?_
              refine Wl.gT rfl rfl ?_
              refine Wl.val rfl (V.fld _ rfl O_law09_state_0 rfl) ?_
              refine Wl.gT rfl rfl ?_
              refine Wl.val rfl (V.ld rfl C_Sapi_Entry rfl) ?_
              refine Wl.gT rfl rfl ?_
              first | refine Wl.callE rfl rfl (s_law09_same (S := toldO av1 (toldOf (stN ring acts k).2) * toldO av2 (toldOf R.2.1)) (toldOf R.2.1).1 (toldOf (stN ring acts k).2).1 (Vw.lift hv2) (Vw.lift hv1)) ?_ | refine Wl.callD rfl rfl (s_law09_same (S := toldO av1 (toldOf (stN ring acts k).2) * toldO av2 (toldOf R.2.1)) (toldOf R.2.1).1 (toldOf (stN ring acts k).2).1 (Vw.lift hv2) (Vw.lift hv1)) (by first | exact Take.here | exact Take.there Take.here | exact Take.there (Take.there Take.here) | exact Take.there (Take.there (Take.there Take.here)) | exact Take.none _ | exact TakeC.t | exact Take.there (Take.there (Take.there (Take.there Take.here))) | exact Take.there (Take.there (Take.there (Take.there (Take.there Take.here)))) | exact Take.there (Take.there (Take.there (Take.there (Take.there (Take.there Take.here)))))) ?_
              refine Wl.gT rfl rfl ?_
              refine Wl.val rfl (V.not rfl) ?_
              refine Wl.val rfl (V.pickF rfl rfl) ?_
              refine Wl.nil ?_
              refine Wx.then_n ?_
              refine Wc.cond rfl (fun hc6 => ?_) (fun hc6 => ?_)
              · skip
                try replace hc6 := of_decide_eq_true hc6
                refine Wc.seq ?_
                refine Wc.region ?_
                refine Wl.val rfl (V.assign rfl) ?_
                refine Wl.nil ?_
                refine Wx.then_n ?_
                refine Wc.ret ?_
                repeat (first | refine Wx.then_r ?_ | refine Wx.blk_r ?_ | refine Wx.ng_r ?_)
                refine Wx.ret1 rfl rfl rfl ?_
                exact absurd hc6 (by rw [show (toldOf R.2.1).1 = (toldOf (stN ring acts k).2).1 from hall]; simp)
              · skip
                try replace hc6 := of_decide_eq_false hc6
                refine Wc.skip ?_
                refine Wx.then_n ?_
                refine Wc.seq ?_
                refine Wc.seq ?_
                refine Wc.region ?_
                refine Wl.val rfl (V.move rfl) ?_
                refine Wl.nil ?_
                refine Wx.then_n ?_
                refine Wc.block ?_
                refine Wc.loop (α := Nat) (fun x => 4 - x) (fun x => pu (x ≤ 4) * (row r15 T_law09_state (stV av2 (toldOf R.2.1).2) * (toldO av2 (toldOf R.2.1) * LHeap q.2 q.1 (R.1, R.2.1) (S * F)))) (fun x => [(3, lv), (10, ptr q.2), (15, ptr r15), (84, i64 (x : Nat))]) 0 (by exact Ent.puC (Nat.zero_le _)) (by repeat (first | exact trivial | refine ⟨rfl, ?_⟩)) (fun x => ?_)
                refine Wc.pu (fun hy => ?_)
                refine Wc.seq ?_
                refine Wc.region ?_
                refine Wl.val rfl (V.lss rfl rfl) ?_
                refine Wl.nil ?_
                refine Wx.then_n ?_
                refine Wc.seq ?_
                refine Wc.cond rfl (fun hc7 => ?_) (fun hc7 => ?_)
                · skip
                  try replace hc7 := of_decide_eq_true hc7
                  refine Wc.skip ?_
                  refine Wx.then_n ?_
                  refine Wc.seq ?_
                  refine Wc.block ?_
                  refine Wc.seq ?_
                  refine Wc.region ?_
                  refine Wl.val rfl (V.move rfl) ?_
                  refine Wl.val rfl (V.assign rfl) ?_
                  refine Wl.nil ?_
                  refine Wx.then_n ?_
                  refine Wc.seq ?_
                  refine Wc.quiet mixed (by kernel_rfl) ?_
                  refine Wq.val rfl (V.move rfl) ?_
                  refine Wq.val rfl (V.fld _ rfl O_law09_state_2 rfl) ?_
                  refine Wq.val rfl (V.idxA rfl rfl U_A4int64 Z_int64 (by first | decide | omega) (by first | decide | omega) rfl) ?_
                  refine Wq.val rfl (V.ld (v := i64 (tabGet R.2.1.kept.t (x : Int))) rfl C_int64 (tab_st (i := (x : Int)) (by omega) (by omega) (by omega))) ?_
                  refine Wq.val rfl (V.move rfl) ?_
                  refine Wq.val rfl (V.move rfl) ?_
                  refine Wq.val rfl (V.idxW rfl rfl U_Sint64 Z_int64 hl (by omega) (by omega)) ?_
                  refine Wq.val rfl (V.ldW (u := i64 (l.getD x 0)) rfl C_int64 hl (by simpa using nums_at (l := l) (j := x) (by omega))) ?_
                  refine Wq.val rfl (V.neq rfl rfl) ?_
                  refine Wq.nil ?_
                  refine Wx.then_n ?_
                  refine Wc.cond rfl (fun hc8 => ?_) (fun hc8 => ?_)
                  · skip
                    try replace hc8 := of_decide_eq_true hc8
                    refine Wc.seq ?_
                    refine Wc.region ?_
                    refine Wl.val rfl (V.assign rfl) ?_
                    refine Wl.nil ?_
                    refine Wx.then_n ?_
                    refine Wc.ret ?_
                    repeat (first | refine Wx.then_r ?_ | refine Wx.blk_r ?_ | refine Wx.ng_r ?_)
                    refine Wx.ret1 rfl rfl rfl ?_
                    rw [hkept] at hc8
                    exact absurd (tabOf_get (l := l) (x := x) (by omega)) (by simpa using hc8)
                  · skip
                    try replace hc8 := of_decide_eq_false hc8
                    refine Wc.skip ?_
                    refine Wx.blk_n ?_
                    refine Wx.then_n ?_
                    refine Wc.region ?_
                    refine Wl.val rfl (V.addk rfl rfl (wr64 (by omega) (by omega))) ?_
                    refine Wl.val rfl (V.move rfl) ?_
                    refine Wl.nil ?_
                    skip
                    refine Wx.again (x + 1) (by exact (by show 4 - (x + 1) < 4 - x; omega)) (by exact Ent.puC (by omega)) (by repeat (first | exact trivial | refine ⟨rfl, ?_⟩))
                · skip
                  try replace hc7 := of_decide_eq_false hc7
                  refine Wc.exit ?_
                  refine Wx.then_x ?_
                  refine Wx.then_x ?_
                  refine Wx.blk_x ?_
                  refine Wx.then_n ?_
                  refine Wc.seq ?_
                  refine Wc.seq ?_
                  refine Wc.region ?_
                  refine Wl.val rfl (V.move rfl) ?_
                  refine Wl.val rfl (V.build (l := verV ver0) B_api_Version rfl rfl) ?_
                  refine Wl.al rfl (M.make (n := 4) rfl rfl L_Sint64 (by decide) (by decide) (by decide)) (fun r99 => ?_)
                  first | refine Wl.callE rfl rfl (s_cache_Cache_Note (S := row r99 T_int64 (madeL [i64 0] (4 * 1))) q.2 q.1 hRo ver0 ⟨⟨by decide, by decide⟩, ⟨by decide, by decide⟩⟩ [0, 0, 0, 0] (Vw.row (l := madeL [i64 0] (4 * 1)) (t := T_int64) (z := (0, 0)) (by decide) (by decide) rfl (fun j x h => by rw [Nat.zero_add]; exact h)) (by intro n hn; simp at hn; subst hn; exact ⟨by decide, by decide⟩)) ?_ | refine Wl.callD rfl rfl (s_cache_Cache_Note (S := row r99 T_int64 (madeL [i64 0] (4 * 1))) q.2 q.1 hRo ver0 ⟨⟨by decide, by decide⟩, ⟨by decide, by decide⟩⟩ [0, 0, 0, 0] (Vw.row (l := madeL [i64 0] (4 * 1)) (t := T_int64) (z := (0, 0)) (by decide) (by decide) rfl (fun j x h => by rw [Nat.zero_add]; exact h)) (by intro n hn; simp at hn; subst hn; exact ⟨by decide, by decide⟩)) (by first | exact Take.here | exact Take.there Take.here | exact Take.there (Take.there Take.here) | exact Take.there (Take.there (Take.there Take.here)) | exact Take.none _ | exact TakeC.t | exact Take.there (Take.there (Take.there (Take.there Take.here))) | exact Take.there (Take.there (Take.there (Take.there (Take.there Take.here)))) | exact Take.there (Take.there (Take.there (Take.there (Take.there (Take.there Take.here)))))) ?_
                  generalize cNote R.1 R.2.1 ver0 [0, 0, 0, 0] = N at hn0 hnt hno ⊢
                  refine Wl.val rfl (V.neq rfl rfl) ?_
                  refine Wl.nil ?_
                  refine Wx.then_n ?_
                  refine Wc.cond rfl (fun hc9 => ?_) (fun hc9 => ?_)
                  · skip
                    try replace hc9 := of_decide_eq_true hc9
                    refine Wc.seq ?_
                    refine Wc.region ?_
                    refine Wl.val rfl (V.assign rfl) ?_
                    refine Wl.nil ?_
                    refine Wx.then_n ?_
                    refine Wc.ret ?_
                    repeat (first | refine Wx.then_r ?_ | refine Wx.blk_r ?_ | refine Wx.ng_r ?_)
                    refine Wx.ret1 rfl rfl rfl ?_
                    exact absurd hc9 (by rw [hn0]; decide)
                  · skip
                    try replace hc9 := of_decide_eq_false hc9
                    refine Wc.skip ?_
                    refine Wx.then_n ?_
                    refine Wc.seq ?_
                    refine Wc.draws 3 mixed (by kernel_rfl) (S := row r15 T_law09_state (stV av2 (toldOf R.2.1).2) * (toldO av2 (toldOf R.2.1) * F)) (M := Cache q.2 q.1 N.2.1 * S) (Ent.auto) ?_
                    refine Wr.take [0, 2] 1 (by kernel_rfl) (by kernel_rfl) rfl rfl ?_
                    refine Wt.val rfl (V.move rfl) ?_
                    refine Wt.val rfl (V.ldA (vs := stV av2 (toldOf R.2.1).2) rfl C_law09_state rfl) ?_
                    refine Wt.nil ?_
                    refine Wr.any [1] 0 (by kernel_rfl) rfl rfl ?_
                    refine Wm.callM rfl rfl rfl rfl (s_law09_toldV q.2 q.1 N.2.1 hno.blocks) (by first | exact Take.here | exact Take.there Take.here | exact Take.there (Take.there Take.here) | exact Take.there (Take.there (Take.there Take.here)) | exact Take.none _ | exact TakeC.t | exact Take.there (Take.there (Take.there (Take.there Take.here))) | exact Take.there (Take.there (Take.there (Take.there (Take.there Take.here)))) | exact Take.there (Take.there (Take.there (Take.there (Take.there (Take.there Take.here)))))) (fun x103 => ?_) ?_
                    · skip
                      refine Wr.tail (by kernel_rfl) rfl ?_
                      refine Wl.pull (fun hv3 => ?_)
                      first | refine Wl.callE rfl rfl (s_law09_alike (S := toldO av2 (toldOf R.2.1) * toldO x103 (toldOf N.2.1)) (toldOf N.2.1) (toldOf R.2.1) (Vw.lift hv3) (Vw.lift hv2)) ?_ | refine Wl.callD rfl rfl (s_law09_alike (S := toldO av2 (toldOf R.2.1) * toldO x103 (toldOf N.2.1)) (toldOf N.2.1) (toldOf R.2.1) (Vw.lift hv3) (Vw.lift hv2)) (by first | exact Take.here | exact Take.there Take.here | exact Take.there (Take.there Take.here) | exact Take.there (Take.there (Take.there Take.here)) | exact Take.none _ | exact TakeC.t | exact Take.there (Take.there (Take.there (Take.there Take.here))) | exact Take.there (Take.there (Take.there (Take.there (Take.there Take.here)))) | exact Take.there (Take.there (Take.there (Take.there (Take.there (Take.there Take.here)))))) ?_
                      refine Wl.val rfl (V.assign rfl) ?_
                      refine Wl.nil ?_
                      refine Wx.then_n ?_
                      refine Wc.ret ?_
                      repeat (first | refine Wx.then_r ?_ | refine Wx.blk_r ?_ | refine Wx.ng_r ?_)
                      refine Wx.ret1 rfl rfl rfl ?_
                      exact Ent.resC (by rw [hnt, decide_eq_true rfl])
                    exact Wm.nil
end Go.Proofs.YtjfacgmobpbhcaaGreat
/- PRINTED by the kit's laying command: the kit's contracts of maps.Keys, slices.Sorted and slices.Sort fit this seat's functions. -/
namespace Go.Proofs.YtjfacgmobpbhcaaGreat
open Go.RowKit Go.Maps Go.Sort Go.Shelf
def lay_keys_ren : Go.Shelf.Ren := ⟨fun | 7 => 63 | 10 => 83 | n => n, fun | 23 => 94 | 26 => 3 | 3 => 100 | 28 => 131 | 0 => 0 | 27 => 130 | 33 => 155 | 4 => 4 | n => n, fun | n => n⟩
theorem lay_keys : Go.Proofs.SlLaysZI.n7 Tryz.prog lay_keys_ren where
  mixed := by kernel_rfl
  f7 := ⟨ "maps.Keys[map[int]seisin/sector.sector,int,seisin/sector.sector]", by decide, Tryz.func63.trans (congrArg some (by kernel_rfl))⟩
  f10 := ⟨ "maps.Keys[map[int]seisin/sector.sector,int,seisin/sector.sector]$1", by decide, Tryz.func83.trans (congrArg some (by kernel_rfl))⟩
  t0 := Tryz.underlying0
  a0 := Tryz.isAgg0
  z0 := Tryz.sizeOf0
  v0 := Tryz.zeroValue0
  t4 := Tryz.underlying4
  a4 := Tryz.isAgg4
  z4 := Tryz.sizeOf4
  v4 := Tryz.zeroValue4
  t23 := Tryz.underlying94
  a23 := Tryz.isAgg94
  z23 := Tryz.sizeOf94
  v23 := Tryz.zeroValue94
  t26 := Tryz.underlying3
  a26 := Tryz.isAgg3
  z26 := Tryz.sizeOf3
  v26 := Tryz.zeroValue3
  t27 := Tryz.underlying130
  a27 := Tryz.isAgg130
  z27 := Tryz.sizeOf130
  v27 := Tryz.zeroValue130
  t28 := Tryz.underlying131
  a28 := Tryz.isAgg131
  z28 := Tryz.sizeOf131
  v28 := Tryz.zeroValue131
  t33 := Tryz.underlying155
  a33 := Tryz.isAgg155
  z33 := Tryz.sizeOf155
  v33 := Tryz.zeroValue155
def lay_sorted_ren : Go.Shelf.Ren := ⟨fun | 6 => 62 | 8 => 81 | 9 => 82 | 11 => 97 | 13 => 99 | 12 => 98 | 23 => 112 | 24 => 113 | 14 => 103 | 15 => 104 | 16 => 105 | 17 => 106 | 18 => 107 | 19 => 108 | 20 => 109 | 21 => 110 | 22 => 111 | 25 => 116 | 26 => 117 | 27 => 118 | 28 => 119 | 29 => 120 | 30 => 121 | 31 => 123 | n => n, fun | 26 => 3 | 28 => 131 | 24 => 97 | 0 => 0 | 3 => 3 | 37 => 161 | 48 => 160 | 50 => 173 | 4 => 4 | 40 => 178 | 39 => 177 | 45 => 107 | 5 => 5 | 9 => 9 | 51 => 188 | 55 => 192 | 57 => 195 | 58 => 196 | 33 => 155 | n => n, fun | n => n⟩
theorem lay_sorted : Go.Proofs.SlLaysZI.n6 Tryz.prog lay_sorted_ren where
  mixed := by kernel_rfl
  f6 := ⟨ "slices.Sorted[int]", by decide, Tryz.func62.trans (congrArg some (by kernel_rfl))⟩
  f8 := ⟨ "slices.Collect[int]", by decide, Tryz.func81.trans (congrArg some (by kernel_rfl))⟩
  f11 := ⟨ "slices.AppendSeq[[]int,int]", by decide, Tryz.func97.trans (congrArg some (by kernel_rfl))⟩
  t0 := Tryz.underlying0
  a0 := Tryz.isAgg0
  z0 := Tryz.sizeOf0
  v0 := Tryz.zeroValue0
  t24 := Tryz.underlying97
  a24 := Tryz.isAgg97
  z24 := Tryz.sizeOf97
  v24 := Tryz.zeroValue97
  t26 := Tryz.underlying3
  a26 := Tryz.isAgg3
  z26 := Tryz.sizeOf3
  v26 := Tryz.zeroValue3
  t28 := Tryz.underlying131
  a28 := Tryz.isAgg131
  z28 := Tryz.sizeOf131
  v28 := Tryz.zeroValue131
  i26 := by kernel_rfl
def lay_sort_ren : Go.Shelf.Ren := ⟨fun | 5 => 82 | 8 => 99 | 7 => 98 | 19 => 112 | 20 => 113 | 10 => 103 | 11 => 104 | 12 => 105 | 13 => 106 | 14 => 107 | 15 => 108 | 16 => 109 | 17 => 110 | 18 => 111 | 30 => 116 | 31 => 117 | 32 => 118 | 33 => 119 | 34 => 120 | 35 => 121 | 40 => 123 | n => n, fun | 23 => 97 | 25 => 3 | 3 => 3 | 32 => 161 | 22 => 97 | 0 => 0 | 44 => 160 | 46 => 173 | 4 => 4 | 36 => 178 | 35 => 177 | 41 => 107 | 5 => 5 | 9 => 9 | 53 => 188 | 57 => 192 | 63 => 195 | 64 => 196 | n => n, fun | n => n⟩
theorem lay_sort : Go.Proofs.SlLaysM.n5 Tryz.prog lay_sort_ren where
  mixed := by kernel_rfl
  f5 := ⟨ "slices.Sort[[]int,int]", by decide, Tryz.func82.trans (congrArg some (by kernel_rfl))⟩
  f7 := ⟨ "slices.pdqsortOrdered[int]", by decide, Tryz.func98.trans (congrArg some (by kernel_rfl))⟩
  f8 := Tryz.func99.trans (congrArg some (by kernel_rfl))
  f10 := ⟨ "slices.insertionSortOrdered[int]", by decide, Tryz.func103.trans (congrArg some (by kernel_rfl))⟩
  f11 := ⟨ "slices.heapSortOrdered[int]", by decide, Tryz.func104.trans (congrArg some (by kernel_rfl))⟩
  f12 := ⟨ "slices.breakPatternsOrdered[int]", by decide, Tryz.func105.trans (congrArg some (by kernel_rfl))⟩
  f13 := ⟨ "slices.choosePivotOrdered[int]", by decide, Tryz.func106.trans (congrArg some (by kernel_rfl))⟩
  f14 := ⟨ "slices.reverseRangeOrdered[int]", by decide, Tryz.func107.trans (congrArg some (by kernel_rfl))⟩
  f15 := ⟨ "slices.partialInsertionSortOrdered[int]", by decide, Tryz.func108.trans (congrArg some (by kernel_rfl))⟩
  f16 := ⟨ "cmp.Less[int]", by decide, Tryz.func109.trans (congrArg some (by kernel_rfl))⟩
  f17 := ⟨ "slices.partitionEqualOrdered[int]", by decide, Tryz.func110.trans (congrArg some (by kernel_rfl))⟩
  f18 := ⟨ "slices.partitionOrdered[int]", by decide, Tryz.func111.trans (congrArg some (by kernel_rfl))⟩
  f19 := Tryz.func112.trans (congrArg some (by kernel_rfl))
  f20 := Tryz.func113.trans (congrArg some (by kernel_rfl))
  f30 := ⟨ "slices.siftDownOrdered[int]", by decide, Tryz.func116.trans (congrArg some (by kernel_rfl))⟩
  f31 := Tryz.func117.trans (congrArg some (by kernel_rfl))
  f32 := Tryz.func118.trans (congrArg some (by kernel_rfl))
  f33 := ⟨ "slices.medianAdjacentOrdered[int]", by decide, Tryz.func119.trans (congrArg some (by kernel_rfl))⟩
  f34 := ⟨ "slices.medianOrdered[int]", by decide, Tryz.func120.trans (congrArg some (by kernel_rfl))⟩
  f35 := ⟨ "cmp.isNaN[int]", by decide, Tryz.func121.trans (congrArg some (by kernel_rfl))⟩
  f40 := ⟨ "slices.order2Ordered[int]", by decide, Tryz.func123.trans (congrArg some (by kernel_rfl))⟩
  t0 := Tryz.underlying0
  a0 := Tryz.isAgg0
  z0 := Tryz.sizeOf0
  v0 := Tryz.zeroValue0
  t3 := Tryz.underlying3
  a3 := Tryz.isAgg3
  z3 := Tryz.sizeOf3
  v3 := Tryz.zeroValue3
  t4 := Tryz.underlying4
  a4 := Tryz.isAgg4
  z4 := Tryz.sizeOf4
  v4 := Tryz.zeroValue4
  t5 := Tryz.underlying5
  a5 := Tryz.isAgg5
  z5 := Tryz.sizeOf5
  v5 := Tryz.zeroValue5
  t9 := Tryz.underlying9
  a9 := Tryz.isAgg9
  z9 := Tryz.sizeOf9
  v9 := Tryz.zeroValue9
  t22 := Tryz.underlying97
  a22 := Tryz.isAgg97
  z22 := Tryz.sizeOf97
  v22 := Tryz.zeroValue97
  t23 := Tryz.underlying97
  a23 := Tryz.isAgg97
  z23 := Tryz.sizeOf97
  v23 := Tryz.zeroValue97
  t25 := Tryz.underlying3
  a25 := Tryz.isAgg3
  z25 := Tryz.sizeOf3
  v25 := Tryz.zeroValue3
  t32 := Tryz.underlying161
  a32 := Tryz.isAgg161
  z32 := Tryz.sizeOf161
  v32 := Tryz.zeroValue161
  t35 := Tryz.underlying177
  a35 := Tryz.isAgg177
  z35 := Tryz.sizeOf177
  v35 := Tryz.zeroValue177
  t36 := Tryz.underlying178
  a36 := Tryz.isAgg178
  z36 := Tryz.sizeOf178
  v36 := Tryz.zeroValue178
  t41 := Tryz.underlying107
  a41 := Tryz.isAgg107
  z41 := Tryz.sizeOf107
  v41 := Tryz.zeroValue107
  t44 := Tryz.underlying160
  a44 := Tryz.isAgg160
  z44 := Tryz.sizeOf160
  v44 := Tryz.zeroValue160
  t46 := Tryz.underlying173
  a46 := Tryz.isAgg173
  z46 := Tryz.sizeOf173
  v46 := Tryz.zeroValue173
  t53 := Tryz.underlying188
  a53 := Tryz.isAgg188
  z53 := Tryz.sizeOf188
  v53 := Tryz.zeroValue188
  t57 := Tryz.underlying192
  a57 := Tryz.isAgg192
  z57 := Tryz.sizeOf192
  v57 := Tryz.zeroValue192
  t63 := Tryz.underlying195
  a63 := Tryz.isAgg195
  z63 := Tryz.sizeOf195
  v63 := Tryz.zeroValue195
  t64 := Tryz.underlying196
  a64 := Tryz.isAgg196
  z64 := Tryz.sizeOf196
  v64 := Tryz.zeroValue196
end Go.Proofs.YtjfacgmobpbhcaaGreat
