/- Part 5: what the proof of the law rests on: the walks of the functions that it calls, and the plain laws of what they compute. -/
import Derived.Test.YtjfacgmobpbhcaaGreatBs4
/- The walks: caches, 1. -/
namespace Go.Proofs.YtjfacgmobpbhcaaGreat
open Go.Sl Sei
def whatV : What → Value
  | .put e => .iface T_cache_put (.agg (etyV e).toArray)
  | .clean b v => .iface T_cache_clean (.agg [i64 b, i64 v.ep, i64 v.sq].toArray)
  | .drop b => .iface T_cache_drop (.agg [i64 b].toArray)
  | .note => .iface T_cache_note (.agg [].toArray)
def oWhatV : Option What → Value
  | none => .nilIface
  | some w => whatV w
abbrev recA (ow : Option What) (k : Kept) : Value := .agg [oWhatV ow, i64 k.last.ep, i64 k.last.sq, i64 k.t.a, i64 k.t.b, i64 k.t.c, i64 k.t.d].toArray
abbrev isPut : What → Bool | .put _ => true | _ => false
abbrev asPut : What → Ety | .put e => e | _ => ety0
abbrev isClean : What → Bool | .clean _ _ => true | _ => false
abbrev asCleanB : What → Int | .clean b _ => b | _ => 0
abbrev asCleanV : What → Ver | .clean _ v => v | _ => ver0
abbrev isDrop : What → Bool | .drop _ => true | _ => false
abbrev asDrop : What → Int | .drop b => b | _ => 0
section
variable {H : HP} {e : Env} {ty : TypeId} {pos : String} {af : Array Edge} {dst : Option Tmp} {gd : Option (Nat × Bool)}
theorem V.tPut {x : Operand} {xt : TypeId} {w : What} (hx : ev e x = some (whatV w)) : ValOp P H e ⟨dst, .typeAssert x xt T_cache_put true, ty, pos, af, gd⟩ (.tuple [.agg (etyV (asPut w)).toArray, .bool (isPut w)].toArray) := by
  cases w with
  | put e => exact V.isT hx I_cache_put
  | clean b v => exact V.isNot hx I_cache_put rfl (fun w => V0_cache_put w)
  | drop b => exact V.isNot hx I_cache_put rfl (fun w => V0_cache_put w)
  | note => exact V.isNot hx I_cache_put rfl (fun w => V0_cache_put w)
theorem V.tClean {x : Operand} {xt : TypeId} {w : What} (hx : ev e x = some (whatV w)) : ValOp P H e ⟨dst, .typeAssert x xt T_cache_clean true, ty, pos, af, gd⟩ (.tuple [.agg [i64 (asCleanB w), i64 (asCleanV w).ep, i64 (asCleanV w).sq].toArray, .bool (isClean w)].toArray) := by
  cases w with
  | put e => exact V.isNot hx I_cache_clean rfl (fun w => V0_cache_clean w)
  | clean b v => exact V.isT hx I_cache_clean
  | drop b => exact V.isNot hx I_cache_clean rfl (fun w => V0_cache_clean w)
  | note => exact V.isNot hx I_cache_clean rfl (fun w => V0_cache_clean w)
theorem V.tDrop {x : Operand} {xt : TypeId} {w : What} (hx : ev e x = some (whatV w)) : ValOp P H e ⟨dst, .typeAssert x xt T_cache_drop true, ty, pos, af, gd⟩ (.tuple [.agg [i64 (asDrop w)].toArray, .bool (isDrop w)].toArray) := by
  cases w with
  | put e => exact V.isNot hx I_cache_drop rfl (fun w => V0_cache_drop w)
  | clean b v => exact V.isNot hx I_cache_drop rfl (fun w => V0_cache_drop w)
  | drop b => exact V.isT hx I_cache_drop
  | note => exact V.isNot hx I_cache_drop rfl (fun w => V0_cache_drop w)
end
theorem s_cache_within (n lo hi : Int) : Ctr P f_cache_within [i64 n, i64 lo, i64 hi] emp (fun v => pu (v = .bool (withinB n lo hi)) * emp) := by
  refine Ctr.of_body (m := 15) fn_cache_within rfl rfl rfl rfl rfl (fun F g => ?_)
  refine Wc.seq ?_
  refine Wc.region ?_
  refine Wl.val rfl (V.assign rfl) ?_
  refine Wl.nil ?_
  refine Wx.then_n ?_
  refine Wc.seq ?_
  refine Wc.region ?_
  refine Wl.val rfl (V.move rfl) ?_
  refine Wl.val rfl (V.move rfl) ?_
  refine Wl.val rfl (V.geq rfl rfl) ?_
  refine Wl.val rfl (V.move rfl) ?_
  refine Wl.bool 10 rfl (fun hb10 => ?_) (fun hb10 => ?_)
  · -- t10 is True
    try replace hb10 := of_decide_eq_true hb10
    refine Wl.gT rfl rfl ?_
    refine Wl.val rfl (V.move rfl) ?_
    refine Wl.gT rfl rfl ?_
    refine Wl.val rfl (V.move rfl) ?_
    refine Wl.gT rfl rfl ?_
    refine Wl.val rfl (V.leq rfl rfl) ?_
    refine Wl.val rfl (V.pickT rfl rfl) ?_
    refine Wl.val rfl (V.assign rfl) ?_
    refine Wl.nil ?_
    refine Wx.then_n ?_
    refine Wc.ret ?_
    repeat (first | refine Wx.then_r ?_ | refine Wx.blk_r ?_ | refine Wx.ng_r ?_)
    refine Wx.ret1 rfl rfl rfl ?_
    exact Ent.resC (by simp [withinB, *])
  · -- t10 is False
    try replace hb10 := of_decide_eq_false hb10
    refine Wl.gF rfl rfl rfl ?_
    refine Wl.gF rfl rfl rfl ?_
    refine Wl.gF rfl rfl rfl ?_
    refine Wl.val rfl (V.pickF rfl rfl) ?_
    refine Wl.val rfl (V.assign rfl) ?_
    refine Wl.nil ?_
    refine Wx.then_n ?_
    refine Wc.ret ?_
    repeat (first | refine Wx.then_r ?_ | refine Wx.blk_r ?_ | refine Wx.ng_r ?_)
    refine Wx.ret1 rfl rfl rfl ?_
    exact Ent.resC (by simp [withinB, *])
theorem s_cache_above (a b : Ver) : Ctr P f_cache_above [.agg (verV a).toArray, .agg (verV b).toArray] emp (fun v => pu (v = .bool (above a b)) * emp) := by
  refine Ctr.of_body (m := 24) fn_cache_above rfl rfl rfl rfl rfl (fun F g => ?_)
  refine Wc.seq ?_
  refine Wc.region ?_
  refine Wl.al rfl (M.box rfl rfl) (fun r2 => ?_)
  refine Wl.al rfl (M.box rfl rfl) (fun r3 => ?_)
  refine Wl.val rfl (V.assign rfl) ?_
  refine Wl.nil ?_
  refine Wx.then_n ?_
  refine Wc.seq ?_
  refine Wc.region ?_
  refine Wl.val rfl (V.fld _ rfl O_api_Version_0 rfl) ?_
  refine Wl.val rfl (V.ld rfl C_int64 rfl) ?_
  refine Wl.val rfl (V.fld _ rfl O_api_Version_0 rfl) ?_
  refine Wl.val rfl (V.ld rfl C_int64 rfl) ?_
  refine Wl.val rfl (V.gtr rfl rfl) ?_
  refine Wl.val rfl (V.move rfl) ?_
  refine Wl.bool 10 rfl (fun hb10 => ?_) (fun hb10 => ?_)
  · -- t10 is True
    try replace hb10 := of_decide_eq_true hb10
    refine Wl.gF rfl rfl rfl ?_
    refine Wl.gF rfl rfl rfl ?_
    refine Wl.gF rfl rfl rfl ?_
    refine Wl.gF rfl rfl rfl ?_
    refine Wl.gF rfl rfl rfl ?_
    refine Wl.gF rfl rfl rfl ?_
    refine Wl.gU rfl rfl rfl ?_
    refine Wl.gU rfl rfl rfl ?_
    refine Wl.gU rfl rfl rfl ?_
    refine Wl.gU rfl rfl rfl ?_
    refine Wl.gU rfl rfl rfl ?_
    refine Wl.gF rfl rfl rfl ?_
    refine Wl.val rfl (V.pickT rfl rfl) ?_
    refine Wl.val rfl (V.assign rfl) ?_
    refine Wl.nil ?_
    refine Wx.then_n ?_
    refine Wc.ret ?_
    repeat (first | refine Wx.then_r ?_ | refine Wx.blk_r ?_ | refine Wx.ng_r ?_)
    refine Wx.ret1 rfl rfl rfl ?_
    exact Ent.resC (by simp [above, *])
  · -- t10 is False
    try replace hb10 := of_decide_eq_false hb10
    refine Wl.gT rfl rfl ?_
    refine Wl.val rfl (V.fld _ rfl O_api_Version_0 rfl) ?_
    refine Wl.gT rfl rfl ?_
    refine Wl.val rfl (V.ld rfl C_int64 rfl) ?_
    refine Wl.gT rfl rfl ?_
    refine Wl.val rfl (V.fld _ rfl O_api_Version_0 rfl) ?_
    refine Wl.gT rfl rfl ?_
    refine Wl.val rfl (V.ld rfl C_int64 rfl) ?_
    refine Wl.gT rfl rfl ?_
    refine Wl.val rfl (V.eql rfl rfl) ?_
    refine Wl.gT rfl rfl ?_
    refine Wl.val rfl (V.move rfl) ?_
    refine Wl.bool 16 rfl (fun hb16 => ?_) (fun hb16 => ?_)
    · -- t16 is True
      try replace hb16 := of_decide_eq_true hb16
      refine Wl.gT rfl rfl ?_
      refine Wl.val rfl (V.fld _ rfl O_api_Version_1 rfl) ?_
      refine Wl.gT rfl rfl ?_
      refine Wl.val rfl (V.ld rfl C_int64 rfl) ?_
      refine Wl.gT rfl rfl ?_
      refine Wl.val rfl (V.fld _ rfl O_api_Version_1 rfl) ?_
      refine Wl.gT rfl rfl ?_
      refine Wl.val rfl (V.ld rfl C_int64 rfl) ?_
      refine Wl.gT rfl rfl ?_
      refine Wl.val rfl (V.gtr rfl rfl) ?_
      refine Wl.gT rfl rfl ?_
      refine Wl.val rfl (V.pickT rfl rfl) ?_
      refine Wl.val rfl (V.pickF rfl rfl) ?_
      refine Wl.val rfl (V.assign rfl) ?_
      refine Wl.nil ?_
      refine Wx.then_n ?_
      refine Wc.ret ?_
      repeat (first | refine Wx.then_r ?_ | refine Wx.blk_r ?_ | refine Wx.ng_r ?_)
      refine Wx.ret1 rfl rfl rfl ?_
      exact Ent.resC (by simp [above, *])
    · -- t16 is False
      try replace hb16 := of_decide_eq_false hb16
      refine Wl.gF rfl rfl rfl ?_
      refine Wl.gF rfl rfl rfl ?_
      refine Wl.gF rfl rfl rfl ?_
      refine Wl.gF rfl rfl rfl ?_
      refine Wl.gF rfl rfl rfl ?_
      refine Wl.gT rfl rfl ?_
      refine Wl.val rfl (V.pickF rfl rfl) ?_
      refine Wl.val rfl (V.pickF rfl rfl) ?_
      refine Wl.val rfl (V.assign rfl) ?_
      refine Wl.nil ?_
      refine Wx.then_n ?_
      refine Wc.ret ?_
      repeat (first | refine Wx.then_r ?_ | refine Wx.blk_r ?_ | refine Wx.ng_r ?_)
      refine Wx.ret1 rfl rfl rfl ?_
      exact Ent.resC (by simp [above, *])
theorem s_cache_may (a : Ver) (n : Int) : Ctr P f_cache_may [.agg (verV a).toArray, i64 n] emp (fun v => pu (v = .bool (mayV a n)) * emp) := by
  refine Ctr.of_body (m := 15) fn_cache_may rfl rfl rfl rfl rfl (fun F g => ?_)
  refine Wc.seq ?_
  refine Wc.region ?_
  refine Wl.al rfl (M.box rfl rfl) (fun r2 => ?_)
  refine Wl.val rfl (V.assign rfl) ?_
  refine Wl.nil ?_
  refine Wx.then_n ?_
  refine Wc.seq ?_
  refine Wc.region ?_
  refine Wl.val rfl (V.fld _ rfl O_api_Version_0 rfl) ?_
  refine Wl.val rfl (V.ld rfl C_int64 rfl) ?_
  refine Wl.val rfl (V.move rfl) ?_
  first | refine Wl.callE rfl rfl (s_cache_within ..) ?_ | refine Wl.callD rfl rfl (s_cache_within ..) (by first | exact Take.here | exact Take.there Take.here | exact Take.there (Take.there Take.here) | exact Take.there (Take.there (Take.there Take.here)) | exact Take.none _ | exact TakeC.t | exact Take.there (Take.there (Take.there (Take.there Take.here))) | exact Take.there (Take.there (Take.there (Take.there (Take.there Take.here)))) | exact Take.there (Take.there (Take.there (Take.there (Take.there (Take.there Take.here)))))) ?_
  refine Wl.val rfl (V.move rfl) ?_
  refine Wl.bool 9 rfl (fun hb9 => ?_) (fun hb9 => ?_)
  · -- t9 is True
    try replace hb9 := of_decide_eq_true hb9
    refine Wl.gT rfl rfl ?_
    refine Wl.val rfl (V.fld _ rfl O_api_Version_1 rfl) ?_
    refine Wl.gT rfl rfl ?_
    refine Wl.val rfl (V.ld rfl C_int64 rfl) ?_
    refine Wl.gT rfl rfl ?_
    refine Wl.val rfl (V.move rfl) ?_
    refine Wl.gT rfl rfl ?_
    first | refine Wl.callE rfl rfl (s_cache_within ..) ?_ | refine Wl.callD rfl rfl (s_cache_within ..) (by first | exact Take.here | exact Take.there Take.here | exact Take.there (Take.there Take.here) | exact Take.there (Take.there (Take.there Take.here)) | exact Take.none _ | exact TakeC.t | exact Take.there (Take.there (Take.there (Take.there Take.here))) | exact Take.there (Take.there (Take.there (Take.there (Take.there Take.here)))) | exact Take.there (Take.there (Take.there (Take.there (Take.there (Take.there Take.here)))))) ?_
    refine Wl.val rfl (V.pickT rfl rfl) ?_
    refine Wl.val rfl (V.assign rfl) ?_
    refine Wl.nil ?_
    refine Wx.then_n ?_
    refine Wc.ret ?_
    repeat (first | refine Wx.then_r ?_ | refine Wx.blk_r ?_ | refine Wx.ng_r ?_)
    refine Wx.ret1 rfl rfl rfl ?_
    exact Ent.resC (by simp [mayV, *])
  · -- t9 is False
    try replace hb9 := of_decide_eq_false hb9
    refine Wl.gF rfl rfl rfl ?_
    refine Wl.gF rfl rfl rfl ?_
    refine Wl.gF rfl rfl rfl ?_
    refine Wl.gF rfl rfl rfl ?_
    refine Wl.val rfl (V.pickF rfl rfl) ?_
    refine Wl.val rfl (V.assign rfl) ?_
    refine Wl.nil ?_
    refine Wx.then_n ?_
    refine Wc.ret ?_
    repeat (first | refine Wx.then_r ?_ | refine Wx.blk_r ?_ | refine Wx.ng_r ?_)
    refine Wx.ret1 rfl rfl rfl ?_
    exact Ent.resC (by simp [mayV, *])
theorem s_cache_odd (n : Int) : Ctr P f_cache_odd [i64 n] emp (fun v => pu (v = .bool (odd n)) * emp) := by
  refine Ctr.of_body (m := 6) fn_cache_odd rfl rfl rfl rfl rfl (fun F g => ?_)
  refine Wc.seq ?_
  refine Wc.region ?_
  refine Wl.val rfl (V.assign rfl) ?_
  refine Wl.nil ?_
  refine Wx.then_n ?_
  refine Wc.seq ?_
  refine Wc.region ?_
  refine Wl.val rfl (V.move rfl) ?_
  first | refine Wl.callE rfl rfl (s_cache_within ..) ?_ | refine Wl.callD rfl rfl (s_cache_within ..) (by first | exact Take.here | exact Take.there Take.here | exact Take.there (Take.there Take.here) | exact Take.there (Take.there (Take.there Take.here)) | exact Take.none _ | exact TakeC.t | exact Take.there (Take.there (Take.there (Take.there Take.here))) | exact Take.there (Take.there (Take.there (Take.there (Take.there Take.here)))) | exact Take.there (Take.there (Take.there (Take.there (Take.there (Take.there Take.here)))))) ?_
  refine Wl.val rfl (V.not rfl) ?_
  refine Wl.val rfl (V.assign rfl) ?_
  refine Wl.nil ?_
  refine Wx.then_n ?_
  refine Wc.ret ?_
  repeat (first | refine Wx.then_r ?_ | refine Wx.blk_r ?_ | refine Wx.ng_r ?_)
  refine Wx.ret1 rfl rfl rfl ?_
  first | exact Ent.resF rfl | exact Ent.resC rfl | exact Ent.refl _ | exact Ent.auto
abbrev CacheR (cc lp me mp : Nat) (C : CacheM) : HP := row cc T_cache_Cache [ptr lp, i64 C.blocks, i64 C.n, .map (some me), .map (some mp), i64 C.kept.last.ep, i64 C.kept.last.sq, i64 C.kept.t.a, i64 C.kept.t.b, i64 C.kept.t.c, i64 C.kept.t.d]
abbrev CacheB (cc lp me mp d : Nat) (C : CacheM) : HP := CacheR cc lp me mp C * (Log lp d C.log * (mapI me (amap etyA C.entries) * mapI mp (amap i64 C.puts)))
def Cache (cc d : Nat) (C : CacheM) : HP := ex fun (q : Nat × Nat × Nat) => CacheB cc q.1 q.2.1 q.2.2 d C
theorem Cache.intro (cc lp me mp d : Nat) (C : CacheM) : Ent (CacheB cc lp me mp d C) (Cache cc d C) := Ent.ex (lp, me, mp) (Ent.refl _)
theorem Wc.cache {C : Cx} {cc d : Nat} {M : CacheM} {F : HP} {e : Env} {c : Code} {Q : Post} (k : ∀ lp me mp, Wc C (CacheR cc lp me mp M * (Log lp d M.log * (mapI me (amap etyA M.entries) * (mapI mp (amap i64 M.puts) * F)))) e c Q) : Wc C (Cache cc d M * F) e c Q :=
  Wc.exm fun q => Wc.ent Ent.auto (k q.1 q.2.1 q.2.2)
theorem Wl.cache {C : Cx} {cc d : Nat} {M : CacheM} {F : HP} {e : Env} {ops : Array Oper} {l : List Oper} {Q : Post} (k : ∀ lp me mp, Wl C (CacheR cc lp me mp M * (Log lp d M.log * (mapI me (amap etyA M.entries) * (mapI mp (amap i64 M.puts) * F)))) e ops l Q) : Wl C (Cache cc d M * F) e ops l Q :=
  Wl.exm fun q => Wl.ent Ent.auto (k q.1 q.2.1 q.2.2)
theorem Ent.cache {cc lp me mp d : Nat} {M : CacheM} {F H : HP} [i : En H (CacheB cc lp me mp d M * F)] : Ent H (Cache cc d M * F) := i.e.trans ((Cache.intro cc lp me mp d M).frame _)
theorem Ent.cacheP {cc lp me mp d : Nat} {M : CacheM} {p : Prop} {S F H : HP} (hp : p) [i : En H (CacheB cc lp me mp d M * (S * F))] : Ent H (pu p * (Cache cc d M * S) * F) :=
  Ent.res hp ((i.e.trans ((Cache.intro cc lp me mp d M).frame _)).trans (Ent.of_eq (sep_assoc _ _ _).symm))
theorem Ent.cache1 {cc lp me mp d : Nat} {M : CacheM} {p : Prop} {F H : HP} (hp : p) [i : En H (CacheB cc lp me mp d M * F)] : Ent H (pu p * Cache cc d M * F) :=
  Ent.res hp (i.e.trans ((Cache.intro cc lp me mp d M).frame _))
theorem s_cache_Cache_inR (cc lp me mp : Nat) (C : CacheM) (b : Int) (hb : 1 ≤ C.blocks ∧ C.blocks ≤ 32) : Ctr P f_cache_Cache_in [ptr cc, i64 b] (CacheR cc lp me mp C) (fun v => pu (v = .bool (inB C.blocks b)) * CacheR cc lp me mp C) := by
  refine Ctr.of_body (m := 12) fn_cache_Cache_in rfl rfl rfl rfl rfl (fun F g => ?_)
  refine Wc.seq ?_
  refine Wc.region ?_
  refine Wl.val rfl (V.assign rfl) ?_
  refine Wl.nil ?_
  refine Wx.then_n ?_
  refine Wc.seq ?_
  refine Wc.region ?_
  refine Wl.val rfl (V.move rfl) ?_
  refine Wl.val rfl (V.move rfl) ?_
  refine Wl.val rfl (V.nil rfl) ?_
  refine Wl.val rfl (V.fld _ rfl O_cache_Cache_1 rfl) ?_
  refine Wl.val rfl (V.ld rfl C_int rfl) ?_
  refine Wl.val rfl (V.subk rfl rfl (wr64 (by omega) (by omega))) ?_
  first | refine Wl.callE rfl rfl (s_cache_within b 0 (C.blocks - 1)) ?_ | refine Wl.callD rfl rfl (s_cache_within b 0 (C.blocks - 1)) (by first | exact Take.here | exact Take.there Take.here | exact Take.there (Take.there Take.here) | exact Take.there (Take.there (Take.there Take.here)) | exact Take.none _ | exact TakeC.t | exact Take.there (Take.there (Take.there (Take.there Take.here))) | exact Take.there (Take.there (Take.there (Take.there (Take.there Take.here)))) | exact Take.there (Take.there (Take.there (Take.there (Take.there (Take.there Take.here)))))) ?_
  refine Wl.val rfl (V.assign rfl) ?_
  refine Wl.nil ?_
  refine Wx.then_n ?_
  refine Wc.ret ?_
  repeat (first | refine Wx.then_r ?_ | refine Wx.blk_r ?_ | refine Wx.ng_r ?_)
  refine Wx.ret1 rfl rfl rfl ?_
  first | exact Ent.resF rfl | exact Ent.resC rfl | exact Ent.refl _ | exact Ent.auto
theorem s_cache_Cache_Last (cc d : Nat) (C : CacheM) : Ctr P f_cache_Cache_Last [ptr cc] (Cache cc d C) (fun v => pu (v = .agg (verV C.kept.last).toArray) * Cache cc d C) := by
  refine Ctr.of_body (m := 8) fn_cache_Cache_Last rfl rfl rfl rfl rfl (fun F g => ?_)
  refine Wc.cache (fun lp me mp => ?_)
  refine Wc.seq ?_
  refine Wc.region ?_
  refine Wl.al rfl (M.alloc N_api_Version) (fun r2 => ?_)
  refine Wl.nil ?_
  refine Wx.then_n ?_
  refine Wc.seq ?_
  refine Wc.region ?_
  refine Wl.val rfl (V.move rfl) ?_
  refine Wl.val rfl (V.nil rfl) ?_
  refine Wl.val rfl (V.fld _ rfl O_cache_Cache_5 rfl) ?_
  refine Wl.val rfl (V.fld _ rfl O_cache_kept_0 rfl) ?_
  refine Wl.val rfl (V.ldA rfl C_api_Version rfl) ?_
  refine Wl.st (Go.Sl.S.putA rfl rfl C_api_Version rfl rfl rfl rfl) ?_
  refine Wl.nil ?_
  refine Wx.then_n ?_
  refine Wc.ret ?_
  repeat (first | refine Wx.then_r ?_ | refine Wx.blk_r ?_ | refine Wx.ng_r ?_)
  refine Wx.rv1 rfl rfl (RV.cellA rfl C_api_Version rfl) ?_
  exact Ent.cache1 (lp := lp) (me := me) (mp := mp) rfl
theorem s_cache_Cache_Room (cc d : Nat) (C : CacheM) (hn : -1000 ≤ C.n ∧ C.n ≤ 1000) : Ctr P f_cache_Cache_Room [ptr cc] (Cache cc d C) (fun v => pu (v = i64 (cRoom C)) * Cache cc d C) := by
  refine Ctr.of_body (m := 8) fn_cache_Cache_Room rfl rfl rfl rfl rfl (fun F g => ?_)
  refine Wc.cache (fun lp me mp => ?_)
  refine Wc.seq ?_
  refine Wc.region ?_
  refine Wl.val rfl (V.assign rfl) ?_
  refine Wl.nil ?_
  refine Wx.then_n ?_
  refine Wc.seq ?_
  refine Wc.region ?_
  refine Wl.val rfl (V.move rfl) ?_
  refine Wl.val rfl (V.nil rfl) ?_
  refine Wl.val rfl (V.fld _ rfl O_cache_Cache_2 rfl) ?_
  refine Wl.val rfl (V.ld rfl C_int rfl) ?_
  refine Wl.val rfl (V.subk rfl rfl (wr64 (by omega) (by omega))) ?_
  refine Wl.val rfl (V.assign rfl) ?_
  refine Wl.nil ?_
  refine Wx.then_n ?_
  refine Wc.ret ?_
  repeat (first | refine Wx.then_r ?_ | refine Wx.blk_r ?_ | refine Wx.ng_r ?_)
  refine Wx.ret1 rfl rfl rfl ?_
  exact Ent.cache1 (lp := lp) (me := me) (mp := mp) rfl
theorem s_cache_Cache_Number (cc d : Nat) (C : CacheM) (i : Int) : Ctr P f_cache_Cache_Number [ptr cc, i64 i] (Cache cc d C) (fun v => pu (v = i64 (cNumber C i)) * Cache cc d C) := by
  refine Ctr.of_body (m := 18) fn_cache_Cache_Number rfl rfl rfl rfl rfl (fun F g => ?_)
  refine Wc.cache (fun lp me mp => ?_)
  refine Wc.seq ?_
  refine Wc.region ?_
  refine Wl.val rfl (V.assign rfl) ?_
  refine Wl.nil ?_
  refine Wx.then_n ?_
  refine Wc.seq ?_
  refine Wc.seq ?_
  refine Wc.region ?_
  refine Wl.val rfl (V.move rfl) ?_
  refine Wl.val rfl (V.lss rfl rfl) ?_
  refine Wl.val rfl (V.move rfl) ?_
  refine Wl.bool 7 rfl (fun hb7 => ?_) (fun hb7 => ?_)
  · -- t7 is True
    try replace hb7 := of_decide_eq_true hb7
    refine Wl.gF rfl rfl rfl ?_
    refine Wl.gF rfl rfl rfl ?_
    refine Wl.val rfl (V.pickT rfl rfl) ?_
    refine Wl.nil ?_
    refine Wx.then_n ?_
    refine Wc.condT rfl ?_
    refine Wc.seq ?_
    refine Wc.region ?_
    refine Wl.val rfl (V.assign rfl) ?_
    refine Wl.nil ?_
    refine Wx.then_n ?_
    refine Wc.ret ?_
    repeat (first | refine Wx.then_r ?_ | refine Wx.blk_r ?_ | refine Wx.ng_r ?_)
    refine Wx.ret1 rfl rfl rfl ?_
    exact Ent.cache1 (lp := lp) (me := me) (mp := mp) (by rw [cNumber, if_pos (by omega)])
  · -- t7 is False
    try replace hb7 := of_decide_eq_false hb7
    refine Wl.gT rfl rfl ?_
    refine Wl.val rfl (V.move rfl) ?_
    refine Wl.gT rfl rfl ?_
    refine Wl.val rfl (V.geq rfl rfl) ?_
    refine Wl.val rfl (V.pickF rfl rfl) ?_
    refine Wl.nil ?_
    refine Wx.then_n ?_
    refine Wc.cond rfl (fun hc1 => ?_) (fun hc1 => ?_)
    · skip
      try replace hc1 := of_decide_eq_true hc1
      refine Wc.seq ?_
      refine Wc.region ?_
      refine Wl.val rfl (V.assign rfl) ?_
      refine Wl.nil ?_
      refine Wx.then_n ?_
      refine Wc.ret ?_
      repeat (first | refine Wx.then_r ?_ | refine Wx.blk_r ?_ | refine Wx.ng_r ?_)
      refine Wx.ret1 rfl rfl rfl ?_
      exact Ent.cache1 (lp := lp) (me := me) (mp := mp) (by rw [cNumber, if_pos (by omega)])
    · skip
      try replace hc1 := of_decide_eq_false hc1
      refine Wc.skip ?_
      refine Wx.then_n ?_
      refine Wc.seq ?_
      refine Wc.region ?_
      refine Wl.val rfl (V.move rfl) ?_
      refine Wl.val rfl (V.move rfl) ?_
      refine Wl.val rfl (V.nil rfl) ?_
      refine Wl.val rfl (V.fld _ rfl O_cache_Cache_5 rfl) ?_
      refine Wl.val rfl (V.fld _ rfl O_cache_kept_1 rfl) ?_
      refine Wl.val rfl (V.idxA rfl rfl U_A4int64 Z_int64 (by first | decide | omega) (by first | decide | omega) rfl) ?_
      refine Wl.val rfl (V.ld (v := i64 (tabGet C.kept.t i)) rfl C_int64 (tab_ix (by omega) (by omega) (by omega))) ?_
      refine Wl.val rfl (V.assign rfl) ?_
      refine Wl.nil ?_
      refine Wx.then_n ?_
      refine Wc.ret ?_
      repeat (first | refine Wx.then_r ?_ | refine Wx.blk_r ?_ | refine Wx.ng_r ?_)
      refine Wx.ret1 rfl rfl rfl ?_
      exact Ent.cache1 (lp := lp) (me := me) (mp := mp) (by rw [cNumber, if_neg (by omega)])
theorem s_cache_Cache_Get (cc d : Nat) (C : CacheM) (b : Int) : Ctr P f_cache_Cache_Get [ptr cc, i64 b] (Cache cc d C) (fun v => pu (v = .tuple #[etyA (cGet C b).1, .bool (cGet C b).2]) * Cache cc d C) := by
  refine Ctr.of_body (m := 19) fn_cache_Cache_Get rfl rfl rfl rfl rfl (fun F g => ?_)
  refine Wc.cache (fun lp me mp => ?_)
  refine Wc.seq ?_
  refine Wc.region ?_
  refine Wl.al rfl (M.alloc N_api_Entry) (fun r4 => ?_)
  refine Wl.val rfl (V.assign rfl) ?_
  refine Wl.nil ?_
  refine Wx.then_n ?_
  refine Wc.seq ?_
  refine Wc.region ?_
  refine Wl.val rfl (V.move rfl) ?_
  refine Wl.val rfl (V.nil rfl) ?_
  refine Wl.val rfl (V.fld _ rfl O_cache_Cache_3 rfl) ?_
  refine Wl.val rfl (V.ld rfl C_Mint_api_Entry rfl) ?_
  refine Wl.val rfl (V.move rfl) ?_
  refine Wl.val rfl (V.lookE (l := amap etyA C.entries) (v := etyA (cGet C b).1) (b := (cGet C b).2) rfl rfl K_Mint_api_Entry V0_api_Entry TakeC.t (by rw [kfind_amap]; unfold cGet; cases afind C.entries b <;> rfl) (by rw [kfind_amap]; unfold cGet; cases afind C.entries b <;> rfl)) ?_
  refine Wl.val rfl (V.move rfl) ?_
  refine Wl.val rfl (V.ext rfl rfl) ?_
  refine Wl.val rfl (V.ext rfl rfl) ?_
  refine Wl.al rfl (M.alloc N_api_Entry) (fun r6 => ?_)
  refine Wl.st (Go.Sl.S.putA rfl rfl C_api_Entry rfl rfl rfl rfl) ?_
  refine Wl.val rfl (V.assign rfl) ?_
  refine Wl.nil ?_
  refine Wx.then_n ?_
  refine Wc.seq ?_
  refine Wc.region ?_
  refine Wl.val rfl (V.ldA rfl C_api_Entry rfl) ?_
  refine Wl.val rfl (V.move rfl) ?_
  refine Wl.st (Go.Sl.S.putA rfl rfl C_api_Entry rfl rfl rfl rfl) ?_
  refine Wl.val rfl (V.assign rfl) ?_
  refine Wl.nil ?_
  refine Wx.then_n ?_
  refine Wc.ret ?_
  repeat (first | refine Wx.then_r ?_ | refine Wx.blk_r ?_ | refine Wx.ng_r ?_)
  refine Wx.rv2 rfl rfl (RV.cellA rfl C_api_Entry rfl) (RV.tmp rfl) ?_
  exact Ent.cache1 (lp := lp) (me := me) (mp := mp) rfl
theorem s_cache_Cache_Sync (cc d : Nat) {D : DevM} (C : CacheM) (hD : DevOk D) : Ctr P f_cache_Cache_Sync [ptr cc] (Cache cc d C * Dev d D) (fun v => pu (v = i64 (cSync D C).2.2) * (Cache cc d C * Dev d (cSync D C).1)) := by
  refine Ctr.of_body (m := 8) fn_cache_Cache_Sync rfl rfl rfl rfl rfl (fun F g => ?_)
  refine Wc.assoc (Wc.cache (fun lp me mp => ?_))
  refine Wc.seq ?_
  refine Wc.region ?_
  refine Wl.val rfl (V.assign rfl) ?_
  refine Wl.nil ?_
  refine Wx.then_n ?_
  refine Wc.seq ?_
  refine Wc.region ?_
  refine Wl.val rfl (V.move rfl) ?_
  refine Wl.val rfl (V.nil rfl) ?_
  refine Wl.val rfl (V.fld _ rfl O_cache_Cache_0 rfl) ?_
  refine Wl.val rfl (V.ld rfl C_Plog_Log rfl) ?_
  first | refine Wl.callE rfl rfl (s_log_Log_Sync lp d C.log hD) ?_ | refine Wl.callD rfl rfl (s_log_Log_Sync lp d C.log hD) (by first | exact Take.here | exact Take.there Take.here | exact Take.there (Take.there Take.here) | exact Take.there (Take.there (Take.there Take.here)) | exact Take.none _ | exact TakeC.t | exact Take.there (Take.there (Take.there (Take.there Take.here))) | exact Take.there (Take.there (Take.there (Take.there (Take.there Take.here)))) | exact Take.there (Take.there (Take.there (Take.there (Take.there (Take.there Take.here)))))) ?_
  refine Wl.val rfl (V.assign rfl) ?_
  refine Wl.nil ?_
  refine Wx.then_n ?_
  refine Wc.ret ?_
  repeat (first | refine Wx.then_r ?_ | refine Wx.blk_r ?_ | refine Wx.ng_r ?_)
  refine Wx.ret1 rfl rfl rfl ?_
  show Ent _ (pu (_ = i64 (devBarrier D).2) * (Cache cc d C * Dev d (devBarrier D).1) * F)
  exact Ent.cacheP (lp := lp) (me := me) (mp := mp) rfl
theorem s_cache_bytes (w : What) (k : Kept) (hI : ∀ n ∈ whatNs w ++ keptNs k, I64 n) : Ctr P f_cache_bytes [recA (some w) k] emp (fun v => pu (v = str (cBytes w k)) * emp) := by
  refine Ctr.of_body (m := 88) fn_cache_bytes rfl rfl rfl rfl rfl (fun F g => ?_)
  refine Wc.seq ?_
  refine Wc.region ?_
  refine Wl.al rfl (M.box (l := [whatV w, i64 k.last.ep, i64 k.last.sq, i64 k.t.a, i64 k.t.b, i64 k.t.c, i64 k.t.d]) rfl rfl) (fun r1 => ?_)
  refine Wl.val rfl (V.assign rfl) ?_
  refine Wl.nil ?_
  refine Wx.then_n ?_
  refine Wc.seq ?_
  refine Wc.region ?_
  refine Wl.al rfl (M.alloc N_api_Rec) (fun r3 => ?_)
  refine Wl.nil ?_
  refine Wx.then_n ?_
  refine Wc.cut (ex (fun (q : Value × Value) => row r3 T_api_Rec [i64 (whatKind w), q.1, q.2] * (own T_int64 1 q.1 (whatNs w).length (numsV (whatNs w)) * (own T_string 1 q.2 (whatTexts w).length (textsV (whatTexts w)) * (row r1 T_cache_record [whatV w, i64 k.last.ep, i64 k.last.sq, i64 k.t.a, i64 k.t.b, i64 k.t.c, i64 k.t.d] * F))))) ([(3, ptr r3), (1, ptr r1)]) ?_ ?_
  · skip
    refine Wc.seq ?_
    refine Wc.region ?_
    refine Wl.val rfl (V.fld _ rfl O_cache_record_0 rfl) ?_
    refine Wl.val rfl (V.ld rfl C_any rfl) ?_
    refine Wl.nil ?_
    refine Wx.then_n ?_
    refine Wc.block ?_
    refine Wc.seq ?_
    refine Wc.region ?_
    refine Wl.val rfl (V.tPut (w := w) rfl) ?_
    refine Wl.val rfl (V.ext rfl rfl) ?_
    refine Wl.val rfl (V.ext rfl rfl) ?_
    refine Wl.nil ?_
    refine Wx.then_n ?_
    refine Wc.cond rfl (fun hc1 => ?_) (fun hc1 => ?_)
    · skip
      try replace hc1 := of_decide_eq_true hc1
      obtain ⟨x, rfl⟩ : ∃ x, w = .put x := by cases w <;> first | exact ⟨_, rfl⟩ | cases hc1
      refine Wc.seq ?_
      refine Wc.region ?_
      refine Wl.al rfl (M.alloc N_cache_put) (fun r4 => ?_)
      refine Wl.st (Go.Sl.S.putA rfl rfl C_cache_put rfl rfl rfl rfl) ?_
      refine Wl.nil ?_
      refine Wx.then_n ?_
      refine Wc.seq ?_
      refine Wc.region ?_
      refine Wl.val rfl (V.assign rfl) ?_
      refine Wl.nil ?_
      refine Wx.then_n ?_
      refine Wc.cut (row r4 T_cache_put (etyV x) * (row r3 T_api_Rec [i64 0, .slice none 0 0, .slice none 0 0] * (row r1 T_cache_record [whatV (.put x), i64 k.last.ep, i64 k.last.sq, i64 k.t.a, i64 k.t.b, i64 k.t.c, i64 k.t.d] * F))) ([(1, ptr r1), (3, ptr r3), (4, ptr r4), (5, i64 (dirtyN x.dirty))]) ?_ ?_
      · skip
        refine Wc.seq ?_
        refine Wc.region ?_
        refine Wl.val rfl (V.fld _ rfl O_cache_put_0 rfl) ?_
        refine Wl.val rfl (V.fld _ rfl O_api_Entry_3 rfl) ?_
        refine Wl.val rfl (V.ld rfl C_bool rfl) ?_
        refine Wl.nil ?_
        refine Wx.then_n ?_
        refine Wc.cond rfl (fun hc2 => ?_) (fun hc2 => ?_)
        · skip
          try replace hc2 := of_decide_eq_true hc2
          refine Wc.region ?_
          refine Wl.val rfl (V.assign rfl) ?_
          refine Wl.nil ?_
          rw [show dirtyN x.dirty = 1 by rw [show x.dirty = true from hc2]; rfl]
          exact Wx.cutn Ent.auto (by repeat (first | exact trivial | refine ⟨rfl, ?_⟩))
        · skip
          try replace hc2 := of_decide_eq_false hc2
          refine Wc.skip ?_
          rw [show dirtyN x.dirty = 0 by rw [show x.dirty = false from hc2]; rfl]
          exact Wx.cutn Ent.auto (by repeat (first | exact trivial | refine ⟨rfl, ?_⟩))
      · skip
        refine Wc.region ?_
        refine Wl.val rfl (V.fld _ rfl O_cache_put_0 rfl) ?_
        refine Wl.val rfl (V.fld _ rfl O_api_Entry_0 rfl) ?_
        refine Wl.val rfl (V.ld rfl C_int rfl) ?_
        refine Wl.val rfl (V.fld _ rfl O_cache_put_0 rfl) ?_
        refine Wl.val rfl (V.fld _ rfl O_api_Entry_1 rfl) ?_
        refine Wl.val rfl (V.fld _ rfl O_api_Version_0 rfl) ?_
        refine Wl.val rfl (V.ld rfl C_int64 rfl) ?_
        refine Wl.val rfl (V.fld _ rfl O_cache_put_0 rfl) ?_
        refine Wl.val rfl (V.fld _ rfl O_api_Entry_1 rfl) ?_
        refine Wl.val rfl (V.fld _ rfl O_api_Version_1 rfl) ?_
        refine Wl.val rfl (V.ld rfl C_int64 rfl) ?_
        refine Wl.val rfl (V.move rfl) ?_
        refine Wl.val rfl (V.fld _ rfl O_cache_put_0 rfl) ?_
        refine Wl.val rfl (V.fld _ rfl O_api_Entry_4 rfl) ?_
        refine Wl.val rfl (V.ld rfl C_int rfl) ?_
        refine Wl.val rfl (V.fld _ rfl O_cache_put_0 rfl) ?_
        refine Wl.val rfl (V.fld _ rfl O_api_Entry_5 rfl) ?_
        refine Wl.val rfl (V.ld rfl C_int64 rfl) ?_
        refine Wl.al rfl (M.slice (l := numsV (whatNs (.put x))) U_Sint64 L_Sint64.size N_int64 rfl (by decide) rfl rfl) (fun r38 => ?_)
        refine Wl.val rfl (V.fld _ rfl O_cache_put_0 rfl) ?_
        refine Wl.val rfl (V.fld _ rfl O_api_Entry_2 rfl) ?_
        refine Wl.val rfl (V.ld rfl C_string rfl) ?_
        refine Wl.al rfl (M.slice (l := textsV [x.data]) U_Sstring L_Sstring.size N_string rfl (by decide) rfl rfl) (fun r42 => ?_)
        refine Wl.val rfl (V.build B_api_Rec rfl rfl) ?_
        refine Wl.st (Go.Sl.S.putA rfl rfl C_api_Rec rfl rfl rfl rfl) ?_
        refine Wl.nil ?_
        refine Wx.blk_n ?_
        refine Wx.cutn (Ent.trans ?_ (Ent.ex (.slice (some ⟨r38, 0, none⟩) 6 6, .slice (some ⟨r42, 0, none⟩) 1 1) (Ent.refl _))) ⟨rfl, rfl, trivial⟩
        refine (Ent.own_row (n := 1) (cap := 1) (m := 1) (xs := textsV [x.data]) _ (by decide) (by decide) rfl rfl).trans ?_
        refine Ent.trans (Ent.auto (G := row r38 T_int64 (numsV (whatNs (.put x))) * (own T_string 1 (.slice (some ⟨r42, 0, none⟩) 1 1) 1 (textsV [x.data]) * (row r3 T_api_Rec [i64 10, .slice (some ⟨r38, 0, none⟩) 6 6, .slice (some ⟨r42, 0, none⟩) 1 1] * (row r1 T_cache_record [whatV (.put x), i64 k.last.ep, i64 k.last.sq, i64 k.t.a, i64 k.t.b, i64 k.t.c, i64 k.t.d] * F))))) ?_
        refine (Ent.own_row (n := 6) (cap := 6) (m := 1) (xs := numsV (whatNs (.put x))) _ (by decide) (by decide) rfl rfl).trans ?_
        show Ent _ (row r3 T_api_Rec [i64 10, (.slice (some ⟨r38, 0, none⟩) 6 6), (.slice (some ⟨r42, 0, none⟩) 1 1)] * (own T_int64 1 (.slice (some ⟨r38, 0, none⟩) 6 6) 6 (numsV (whatNs (.put x))) * (own T_string 1 (.slice (some ⟨r42, 0, none⟩) 1 1) 1 (textsV [x.data]) * (row r1 T_cache_record [whatV (.put x), i64 k.last.ep, i64 k.last.sq, i64 k.t.a, i64 k.t.b, i64 k.t.c, i64 k.t.d] * F))))
        exact Ent.auto
    · skip
      try replace hc1 := of_decide_eq_false hc1
      refine Wc.seq ?_
      refine Wc.region ?_
      refine Wl.val rfl (V.tClean (w := w) rfl) ?_
      refine Wl.val rfl (V.ext rfl rfl) ?_
      refine Wl.val rfl (V.ext rfl rfl) ?_
      refine Wl.nil ?_
      refine Wx.then_n ?_
      refine Wc.cond rfl (fun hc3 => ?_) (fun hc3 => ?_)
      · skip
        try replace hc3 := of_decide_eq_true hc3
        obtain ⟨b, v, rfl⟩ : ∃ b v, w = .clean b v := by cases w <;> first | exact ⟨_, _, rfl⟩ | cases hc3
        refine Wc.seq ?_
        refine Wc.region ?_
        refine Wl.al rfl (M.alloc N_cache_clean) (fun r6 => ?_)
        refine Wl.st (Go.Sl.S.putA rfl rfl C_cache_clean rfl rfl rfl rfl) ?_
        refine Wl.nil ?_
        refine Wx.then_n ?_
        refine Wc.region ?_
        refine Wl.val rfl (V.fld _ rfl O_cache_clean_0 rfl) ?_
        refine Wl.val rfl (V.ld rfl C_int rfl) ?_
        refine Wl.val rfl (V.fld _ rfl O_cache_clean_1 rfl) ?_
        refine Wl.val rfl (V.fld _ rfl O_api_Version_0 rfl) ?_
        refine Wl.val rfl (V.ld rfl C_int64 rfl) ?_
        refine Wl.val rfl (V.fld _ rfl O_cache_clean_1 rfl) ?_
        refine Wl.val rfl (V.fld _ rfl O_api_Version_1 rfl) ?_
        refine Wl.val rfl (V.ld rfl C_int64 rfl) ?_
        refine Wl.al rfl (M.slice (l := numsV (whatNs (.clean b v))) U_Sint64 L_Sint64.size N_int64 rfl (by decide) rfl rfl) (fun r55 => ?_)
        refine Wl.val rfl (V.build B_api_Rec rfl rfl) ?_
        refine Wl.st (Go.Sl.S.putA rfl rfl C_api_Rec rfl rfl rfl rfl) ?_
        refine Wl.nil ?_
        refine Wx.blk_n ?_
        refine Wx.cutn (Ent.trans ?_ (Ent.ex (.slice (some ⟨r55, 0, none⟩) 3 3, .slice none 0 0) (Ent.refl _))) ⟨rfl, rfl, trivial⟩
        refine (Ent.own_row (n := 3) (cap := 3) (m := 1) (xs := numsV (whatNs (.clean b v))) _ (by decide) (by decide) rfl rfl).trans ?_
        refine (Ent.own_nil T_string 1 _).trans ?_
        show Ent _ (row r3 T_api_Rec [i64 11, (.slice (some ⟨r55, 0, none⟩) 3 3), (.slice none 0 0)] * (own T_int64 1 (.slice (some ⟨r55, 0, none⟩) 3 3) 3 (numsV (whatNs (.clean b v))) * (own T_string 1 (.slice none 0 0) 0 [] * (row r1 T_cache_record [whatV (.clean b v), i64 k.last.ep, i64 k.last.sq, i64 k.t.a, i64 k.t.b, i64 k.t.c, i64 k.t.d] * F))))
        exact Ent.auto
      · skip
        try replace hc3 := of_decide_eq_false hc3
        refine Wc.seq ?_
        refine Wc.region ?_
        refine Wl.val rfl (V.tDrop (w := w) rfl) ?_
        refine Wl.val rfl (V.ext rfl rfl) ?_
        refine Wl.val rfl (V.ext rfl rfl) ?_
        refine Wl.nil ?_
        refine Wx.then_n ?_
        refine Wc.cond rfl (fun hc4 => ?_) (fun hc4 => ?_)
        · skip
          try replace hc4 := of_decide_eq_true hc4
          obtain ⟨b, rfl⟩ : ∃ b, w = .drop b := by cases w <;> first | exact ⟨_, rfl⟩ | cases hc4
          refine Wc.seq ?_
          refine Wc.region ?_
          refine Wl.al rfl (M.alloc N_cache_drop) (fun r7 => ?_)
          refine Wl.st (Go.Sl.S.putA rfl rfl C_cache_drop rfl rfl rfl rfl) ?_
          refine Wl.nil ?_
          refine Wx.then_n ?_
          refine Wc.region ?_
          refine Wl.val rfl (V.fld _ rfl O_cache_drop_0 rfl) ?_
          refine Wl.val rfl (V.ld rfl C_int rfl) ?_
          refine Wl.al rfl (M.slice (l := numsV (whatNs (.drop b))) U_Sint64 L_Sint64.size N_int64 rfl (by decide) rfl rfl) (fun r62 => ?_)
          refine Wl.val rfl (V.build B_api_Rec rfl rfl) ?_
          refine Wl.st (Go.Sl.S.putA rfl rfl C_api_Rec rfl rfl rfl rfl) ?_
          refine Wl.nil ?_
          refine Wx.blk_n ?_
          refine Wx.cutn (Ent.trans ?_ (Ent.ex (.slice (some ⟨r62, 0, none⟩) 1 1, .slice none 0 0) (Ent.refl _))) ⟨rfl, rfl, trivial⟩
          refine (Ent.own_row (n := 1) (cap := 1) (m := 1) (xs := numsV (whatNs (.drop b))) _ (by decide) (by decide) rfl rfl).trans ?_
          refine (Ent.own_nil T_string 1 _).trans ?_
          show Ent _ (row r3 T_api_Rec [i64 12, (.slice (some ⟨r62, 0, none⟩) 1 1), (.slice none 0 0)] * (own T_int64 1 (.slice (some ⟨r62, 0, none⟩) 1 1) 1 (numsV (whatNs (.drop b))) * (own T_string 1 (.slice none 0 0) 0 [] * (row r1 T_cache_record [whatV (.drop b), i64 k.last.ep, i64 k.last.sq, i64 k.t.a, i64 k.t.b, i64 k.t.c, i64 k.t.d] * F))))
          exact Ent.auto
        · skip
          try replace hc4 := of_decide_eq_false hc4
          obtain rfl : w = .note := by cases w <;> simp_all
          refine Wc.seq ?_
          refine Wc.region ?_
          refine Wl.val rfl (V.assign rfl) ?_
          refine Wl.nil ?_
          refine Wx.then_n ?_
          refine Wc.region ?_
          refine Wl.val rfl (V.fld _ rfl O_api_Rec_0 rfl) ?_
          refine Wl.st (Go.Sl.S.put rfl rfl C_int rfl rfl) ?_
          refine Wl.nil ?_
          refine Wx.blk_n ?_
          refine Wx.cutn (Ent.trans ?_ (Ent.ex (.slice none 0 0, .slice none 0 0) (Ent.refl _))) ⟨rfl, rfl, trivial⟩
          refine (Ent.own_nil T_string 1 _).trans ?_
          refine (Ent.own_nil T_int64 1 _).trans ?_
          show Ent _ (row r3 T_api_Rec [i64 13, (.slice none 0 0), (.slice none 0 0)] * (own T_int64 1 (.slice none 0 0) 0 [] * (own T_string 1 (.slice none 0 0) 0 [] * (row r1 T_cache_record [whatV .note, i64 k.last.ep, i64 k.last.sq, i64 k.t.a, i64 k.t.b, i64 k.t.c, i64 k.t.d] * F))))
          exact Ent.auto
  · skip
    refine Wc.ex (fun q => ?_)
    obtain ⟨nv, tv⟩ := q
    dsimp only
    have hwn : (whatNs w).length ≤ 6 := by cases w <;> simp [whatNs]
    refine Wc.know (fun g w s => own_one (s.ent (Ent.right _ _))) (fun hnv => ?_)
    refine Wc.know (fun g w s => own_one (s.ent ((Ent.right _ _).trans (Ent.right _ _)))) (fun htv => ?_)
    refine Wc.seq ?_
    refine Wc.draws 15 mixed (by kernel_rfl) (S := row r3 T_api_Rec [i64 (whatKind w), nv, tv] * (own T_string 1 tv (whatTexts w).length (textsV (whatTexts w)) * (row r1 T_cache_record [whatV w, i64 k.last.ep, i64 k.last.sq, i64 k.t.a, i64 k.t.b, i64 k.t.c, i64 k.t.d] * F))) (M := own T_int64 1 nv (whatNs w).length (numsV (whatNs w)) * emp) (Ent.auto) ?_
    refine Wr.take [0, 1, 2, 3, 4, 5, 6, 7, 8, 9, 12, 13, 14] 2 (by kernel_rfl) (by kernel_rfl) rfl rfl ?_
    refine Wt.val rfl (V.fld _ rfl O_api_Rec_1 rfl) ?_
    refine Wt.val rfl (V.ld rfl C_Sint64 rfl) ?_
    refine Wt.val rfl (V.fld _ rfl O_cache_record_1 rfl) ?_
    refine Wt.val rfl (V.fld _ rfl O_cache_kept_0 rfl) ?_
    refine Wt.val rfl (V.fld _ rfl O_api_Version_0 rfl) ?_
    refine Wt.val rfl (V.ld rfl C_int64 rfl) ?_
    refine Wt.val rfl (V.fld _ rfl O_cache_record_1 rfl) ?_
    refine Wt.val rfl (V.fld _ rfl O_cache_kept_0 rfl) ?_
    refine Wt.val rfl (V.fld _ rfl O_api_Version_1 rfl) ?_
    refine Wt.val rfl (V.ld rfl C_int64 rfl) ?_
    refine Wt.val rfl (V.fld _ rfl O_cache_record_1 rfl) ?_
    refine Wt.val rfl (V.fld _ rfl O_cache_kept_1 rfl) ?_
    refine Wt.val rfl (V.sliceA (l := 0) (h := 4) rfl U_A4int64 Z_int64 rfl rfl rfl rfl (by decide) (by decide)) ?_
    refine Wt.nil ?_
    refine Wr.any [10] 1 (by kernel_rfl) rfl rfl ?_
    refine Wm.al rfl rfl rfl (M.slice U_Sint64 L_Sint64.size N_int64 rfl (by decide) rfl rfl) (fun r74 => ?_) ?_
    · skip
      refine Wr.any [11] 0 (by kernel_rfl) rfl rfl ?_
      refine Wm.app rfl rfl rfl (X.append L_Sint64 rfl rfl (Take.there (Take.there Take.here)) (Src.row U_Sint64 rfl rfl) (by unfold maxLen; omega) (by omega)) (fun v75 => ?_) ?_
      · skip
        refine Wr.tail (by kernel_rfl) rfl ?_
        try refine Wl.ent (Ent.unemp _) ?_
        refine Wl.exo rfl (X.append L_Sint64 rfl rfl (Take.there Take.here) (Src.row (n := 4) (m := 1) (news := [i64 k.t.a, i64 k.t.b, i64 k.t.c, i64 k.t.d]) U_Sint64 rfl rfl) (by unfold maxLen; omega) (by omega)) (fun v79 => ?_)
        refine Wl.ent (H' := own T_int64 1 v79 ((whatNs w).length + 2 + 4) (numsV (whatNs w) ++ [i64 k.last.ep, i64 k.last.sq] ++ [i64 k.t.a, i64 k.t.b, i64 k.t.c, i64 k.t.d]) * (own T_string 1 tv (whatTexts w).length (textsV (whatTexts w)) * (row r3 T_api_Rec [i64 (whatKind w), nv, tv] * F))) Ent.auto ?_
        refine Wl.know (fun g w s => own_one s) (fun hone => ?_)
        have hw2 := Vw.of_own T_int64 1 v79 ((whatNs w).length + 2 + 4) (numsV (whatNs w) ++ [i64 k.last.ep, i64 k.last.sq] ++ [i64 k.t.a, i64 k.t.b, i64 k.t.c, i64 k.t.d])
        refine Wl.know (fun g w s => hw2 g w (s.ent (Ent.left _ _))) (fun hvn => ?_)
        refine Wl.know (fun g w s => Vw.of_own T_string 1 tv _ _ g w (s.ent ((Ent.right _ _).trans (Ent.left _ _)))) (fun hvt => ?_)
        have hvn2 : Vw (own T_int64 1 v79 ((whatNs w).length + 2 + 4) (numsV (whatNs w) ++ [i64 k.last.ep, i64 k.last.sq] ++ [i64 k.t.a, i64 k.t.b, i64 k.t.c, i64 k.t.d]) * own T_string 1 tv (whatTexts w).length (textsV (whatTexts w))) v79 1 (recOf w k).nums.length (numsV (recOf w k).nums) := by
          have e1 : (recOf w k).nums.length = (whatNs w).length + 2 + 4 := by simp [recOf, keptNs]
          have e2 : numsV (recOf w k).nums = numsV (whatNs w) ++ [i64 k.last.ep, i64 k.last.sq] ++ [i64 k.t.a, i64 k.t.b, i64 k.t.c, i64 k.t.d] := by simp [recOf, keptNs, numsV]
          rw [e1, e2]; exact Vw.lift hvn
        have hvt2 : Vw (own T_int64 1 v79 ((whatNs w).length + 2 + 4) (numsV (whatNs w) ++ [i64 k.last.ep, i64 k.last.sq] ++ [i64 k.t.a, i64 k.t.b, i64 k.t.c, i64 k.t.d]) * own T_string 1 tv (whatTexts w).length (textsV (whatTexts w))) tv 1 (recOf w k).texts.length (textsV (recOf w k).texts) := Vw.lift hvt
        refine Wl.val rfl (V.fld _ rfl O_api_Rec_1 rfl) ?_
        refine Wl.st (Go.Sl.S.put rfl rfl C_Sint64 hone rfl) ?_
        refine Wl.nil ?_
        refine Wx.then_n ?_
        refine Wc.seq ?_
        refine Wc.region ?_
        refine Wl.val rfl (V.ldA rfl C_api_Rec rfl) ?_
        refine Wl.call rfl rfl (s_code_Encode (S := own T_int64 1 v79 ((whatNs w).length + 2 + 4) (numsV (whatNs w) ++ [i64 k.last.ep, i64 k.last.sq] ++ [i64 k.t.a, i64 k.t.b, i64 k.t.c, i64 k.t.d]) * own T_string 1 tv (whatTexts w).length (textsV (whatTexts w))) (recOf w k) hI hvn2 hvt2) (by first | exact Take.here | exact Take.there Take.here | exact Take.there (Take.there Take.here) | exact Take.there (Take.there (Take.there Take.here)) | exact Take.none _ | exact TakeC.t | exact Take.there (Take.there (Take.there (Take.there Take.here))) | exact Take.there (Take.there (Take.there (Take.there (Take.there Take.here)))) | exact Take.there (Take.there (Take.there (Take.there (Take.there (Take.there Take.here)))))) (fun v83 => ?_)
        refine Wl.exm (fun b => ?_)
        refine Wl.pull (fun hb => ?_)
        subst hb
        refine Wl.ent (H' := own T_uint8 1 b (enc (recOf w k)).1.length (bytesV (enc (recOf w k)).1) * F) Ent.auto ?_
        refine Wl.know (fun g w s => Vw.of_own T_uint8 1 b _ _ g w (s.ent (Ent.left _ _))) (fun hv => ?_)
        refine Wl.val rfl (V.move rfl) ?_
        refine Wl.val rfl (V.ext rfl rfl) ?_
        refine Wl.val rfl (V.ext rfl rfl) ?_
        refine Wl.val rfl (V.assign rfl) ?_
        refine Wl.val rfl (V.assign rfl) ?_
        refine Wl.nil ?_
        refine Wx.then_n ?_
        refine Wc.seq ?_
        refine Wc.region ?_
        refine Wl.val rfl (V.move rfl) ?_
        refine Wl.val rfl (V.b2sW rfl U_Suint8 U_uint8 U_string hv) ?_
        refine Wl.val rfl (V.assign rfl) ?_
        refine Wl.nil ?_
        refine Wx.then_n ?_
        refine Wc.ret ?_
        repeat (first | refine Wx.then_r ?_ | refine Wx.blk_r ?_ | refine Wx.ng_r ?_)
        refine Wx.ret1 rfl rfl rfl ?_
        first | exact Ent.resF rfl | exact Ent.resC rfl | exact Ent.refl _ | exact Ent.auto
      exact Wm.nil
    exact Wm.nil
end Go.Proofs.YtjfacgmobpbhcaaGreat
/- The walks: caches, 2. -/
namespace Go.Proofs.YtjfacgmobpbhcaaGreat
open Go.Sl Sei
theorem s_cache_Cache_what {S : HP} (cc lp me mp : Nat) (C : CacheM) (hb : 1 ≤ C.blocks ∧ C.blocks ≤ 32) {nv tv v : Value} (r : Rec) (ns : List Int) (hn : Vw S nv 1 r.nums.length (numsV r.nums)) (ht : Vw S tv 1 r.texts.length (textsV r.texts)) (hv : Vw S v 1 ns.length (numsV ns)) :
  Ctr P f_cache_Cache_what [ptr cc, recV r.kind nv tv, v] (CacheR cc lp me mp C * S) (fun x => pu (x = oWhatV (whatOf C.blocks r ns)) * (CacheR cc lp me mp C * S)) := by
  refine Ctr.of_body (m := 167) fn_cache_Cache_what rfl rfl rfl rfl rfl (fun F g => ?_)
  refine Wc.seq ?_
  refine Wc.region ?_
  refine Wl.al rfl (M.box (l := [i64 r.kind, nv, tv]) rfl rfl) (fun r4 => ?_)
  refine Wl.val rfl (V.assign rfl) ?_
  refine Wl.nil ?_
  refine Wx.then_n ?_
  refine Wc.seq ?_
  refine Wc.region ?_
  refine Wl.val rfl (V.fld _ rfl O_api_Rec_2 rfl) ?_
  refine Wl.val rfl (V.ld rfl C_Sstring rfl) ?_
  refine Wl.val rfl (V.lenW rfl U_Sstring ht) ?_
  refine Wl.val rfl (V.assign rfl) ?_
  refine Wl.nil ?_
  refine Wx.then_n ?_
  refine Wc.seq ?_
  refine Wc.block ?_
  refine Wc.cut (row r4 T_api_Rec [i64 r.kind, nv, tv] * (CacheR cc lp me mp C * (S * F))) ([(0, ptr cc), (2, v), (4, ptr r4), (6, .nilIface), (7, i64 (r.texts.length : Nat)), (13, .bool (decide (r.kind = 10) && (decide ((ns.length : Int) = 6) && decide ((r.texts.length : Int) = 1))))]) ?_ ?_
  · skip
    refine Wc.region ?_
    refine Wl.val rfl (V.fld _ rfl O_api_Rec_0 rfl) ?_
    refine Wl.val rfl (V.ld rfl C_int rfl) ?_
    refine Wl.val rfl (V.eql rfl rfl) ?_
    refine Wl.val rfl (V.move rfl) ?_
    refine Wl.bool 17 rfl (fun hb17 => ?_) (fun hb17 => ?_)
    · -- t17 is True
      try replace hb17 := of_decide_eq_true hb17
      refine Wl.gT rfl rfl ?_
      refine Wl.val rfl (V.move rfl) ?_
      refine Wl.gT rfl rfl ?_
      refine Wl.val rfl (V.lenW rfl U_Sint64 hv) ?_
      refine Wl.gT rfl rfl ?_
      refine Wl.val rfl (V.eql rfl rfl) ?_
      refine Wl.val rfl (V.pickT rfl rfl) ?_
      refine Wl.val rfl (V.move rfl) ?_
      refine Wl.bool 22 rfl (fun hb22 => ?_) (fun hb22 => ?_)
      · -- t22 is True
        try replace hb22 := of_decide_eq_true hb22
        refine Wl.gT rfl rfl ?_
        refine Wl.val rfl (V.move rfl) ?_
        refine Wl.gT rfl rfl ?_
        refine Wl.val rfl (V.eql rfl rfl) ?_
        refine Wl.val rfl (V.pickT rfl rfl) ?_
        refine Wl.val rfl (V.assign rfl) ?_
        refine Wl.nil ?_
        exact Wx.cutn Ent.auto ⟨rfl, rfl, rfl, rfl, rfl, lookB rfl (by simp only [*, decide_true, decide_false, Bool.true_and, Bool.false_and, Bool.and_true, Bool.and_false]), trivial⟩
      · -- t22 is False
        try replace hb22 := of_decide_eq_false hb22
        refine Wl.gF rfl rfl rfl ?_
        refine Wl.gF rfl rfl rfl ?_
        refine Wl.val rfl (V.pickF rfl rfl) ?_
        refine Wl.val rfl (V.assign rfl) ?_
        refine Wl.nil ?_
        exact Wx.cutn Ent.auto ⟨rfl, rfl, rfl, rfl, rfl, lookB rfl (by simp only [*, decide_true, decide_false, Bool.true_and, Bool.false_and, Bool.and_true, Bool.and_false]), trivial⟩
    · -- t17 is False
      try replace hb17 := of_decide_eq_false hb17
      refine Wl.gF rfl rfl rfl ?_
      refine Wl.gF rfl rfl rfl ?_
      refine Wl.gF rfl rfl rfl ?_
      refine Wl.val rfl (V.pickF rfl rfl) ?_
      refine Wl.val rfl (V.move rfl) ?_
      refine Wl.gF rfl rfl rfl ?_
      refine Wl.gF rfl rfl rfl ?_
      refine Wl.val rfl (V.pickF rfl rfl) ?_
      refine Wl.val rfl (V.assign rfl) ?_
      refine Wl.nil ?_
      exact Wx.cutn Ent.auto ⟨rfl, rfl, rfl, rfl, rfl, lookB rfl (by simp only [*, decide_true, decide_false, Bool.true_and, Bool.false_and, Bool.and_true, Bool.and_false]), trivial⟩
  · skip
    refine Wc.cond rfl (fun hc1 => ?_) (fun hc1 => ?_)
    · skip
      try replace hc1 := of_decide_eq_true hc1
      obtain ⟨h10, h6, ht1⟩ : r.kind = 10 ∧ (ns.length : Int) = 6 ∧ (r.texts.length : Int) = 1 := by simpa using hc1
      refine Wc.seq ?_
      refine Wc.draws 27 mixed (by kernel_rfl) (S := _) (M := emp) (Ent.empR _) ?_
      refine Wr.take [0, 1, 2, 3, 4, 5, 6, 7, 8, 9, 10, 11, 12, 13, 14, 15, 16, 17, 18, 19, 20, 21, 22, 23, 24, 25] 1 (by kernel_rfl) (by kernel_rfl) rfl rfl ?_
      refine Wt.val rfl (V.move rfl) ?_
      refine Wt.val rfl (V.idxW rfl rfl U_Sint64 Z_int64 hv (by decide) (by omega)) ?_
      refine Wt.val rfl (V.ldW rfl C_int64 hv (nums_at (j := 0) (by omega))) ?_
      refine Wt.val rfl (V.move rfl) ?_
      refine Wt.val rfl (V.idxW rfl rfl U_Sint64 Z_int64 hv (by decide) (by omega)) ?_
      refine Wt.val rfl (V.ldW rfl C_int64 hv (nums_at (j := 1) (by omega))) ?_
      refine Wt.val rfl (V.move rfl) ?_
      refine Wt.val rfl (V.idxW rfl rfl U_Sint64 Z_int64 hv (by decide) (by omega)) ?_
      refine Wt.val rfl (V.ldW rfl C_int64 hv (nums_at (j := 2) (by omega))) ?_
      refine Wt.val rfl (V.build B_api_Version rfl rfl) ?_
      refine Wt.val rfl (V.fld _ rfl O_api_Rec_2 rfl) ?_
      refine Wt.val rfl (V.ld rfl C_Sstring rfl) ?_
      refine Wt.val rfl (V.idxW rfl rfl U_Sstring Z_string ht (by decide) (by omega)) ?_
      refine Wt.val rfl (V.ldW rfl C_string ht (texts_at (j := 0) (by omega))) ?_
      refine Wt.val rfl (V.move rfl) ?_
      refine Wt.val rfl (V.idxW rfl rfl U_Sint64 Z_int64 hv (by decide) (by omega)) ?_
      refine Wt.val rfl (V.ldW rfl C_int64 hv (nums_at (j := 3) (by omega))) ?_
      refine Wt.val rfl (V.eql rfl rfl) ?_
      refine Wt.val rfl (V.move rfl) ?_
      refine Wt.val rfl (V.idxW rfl rfl U_Sint64 Z_int64 hv (by decide) (by omega)) ?_
      refine Wt.val rfl (V.ldW rfl C_int64 hv (nums_at (j := 4) (by omega))) ?_
      refine Wt.val rfl (V.move rfl) ?_
      refine Wt.val rfl (V.idxW rfl rfl U_Sint64 Z_int64 hv (by decide) (by omega)) ?_
      refine Wt.val rfl (V.ldW rfl C_int64 hv (nums_at (j := 5) (by omega))) ?_
      refine Wt.val rfl (V.build B_api_Entry rfl rfl) ?_
      refine Wt.val rfl (V.build B_cache_put rfl rfl) ?_
      refine Wt.nil ?_
      refine Wr.any [26] 0 (by kernel_rfl) rfl rfl ?_
      refine Wm.al rfl rfl rfl (M.alloc N_cache_put) (fun r8 => ?_) ?_
      · skip
        refine Wr.tail (by kernel_rfl) rfl ?_
        try refine Wl.ent (Ent.unemp _) ?_
        refine Wl.st (Go.Sl.S.putA rfl rfl C_cache_put rfl rfl rfl rfl) ?_
        refine Wl.nil ?_
        refine Wx.then_n ?_
        refine Wc.seq ?_
        refine Wc.region ?_
        refine Wl.val rfl (V.move rfl) ?_
        refine Wl.val rfl (V.move rfl) ?_
        refine Wl.val rfl (V.idxW rfl rfl U_Sint64 Z_int64 hv (by decide) (by omega)) ?_
        refine Wl.val rfl (V.ldW rfl C_int64 hv (nums_at (j := 0) (by omega))) ?_
        first | refine Wl.callE rfl rfl (s_cache_Cache_inR cc lp me mp C (ns.getD 0 0) hb) ?_ | refine Wl.callD rfl rfl (s_cache_Cache_inR cc lp me mp C (ns.getD 0 0) hb) (by first | exact Take.here | exact Take.there Take.here | exact Take.there (Take.there Take.here) | exact Take.there (Take.there (Take.there Take.here)) | exact Take.none _ | exact TakeC.t | exact Take.there (Take.there (Take.there (Take.there Take.here))) | exact Take.there (Take.there (Take.there (Take.there (Take.there Take.here)))) | exact Take.there (Take.there (Take.there (Take.there (Take.there (Take.there Take.here)))))) ?_
        refine Wl.val rfl (V.move rfl) ?_
        refine Wl.bool 57 rfl (fun hb57 => ?_) (fun hb57 => ?_)
        · -- t57 is True
          try replace hb57 := of_decide_eq_true hb57
          refine Wl.gT rfl rfl ?_
          refine Wl.val rfl (V.fld _ rfl O_cache_put_0 rfl) ?_
          refine Wl.gT rfl rfl ?_
          refine Wl.val rfl (V.fld _ rfl O_api_Entry_1 rfl) ?_
          refine Wl.gT rfl rfl ?_
          refine Wl.val rfl (V.ldA (vs := verV ⟨ns.getD 1 0, ns.getD 2 0⟩) rfl C_api_Version rfl) ?_
          refine Wl.gT rfl rfl ?_
          first | refine Wl.callE rfl rfl (s_cache_may ⟨ns.getD 1 0, ns.getD 2 0⟩ 1) ?_ | refine Wl.callD rfl rfl (s_cache_may ⟨ns.getD 1 0, ns.getD 2 0⟩ 1) (by first | exact Take.here | exact Take.there Take.here | exact Take.there (Take.there Take.here) | exact Take.there (Take.there (Take.there Take.here)) | exact Take.none _ | exact TakeC.t | exact Take.there (Take.there (Take.there (Take.there Take.here))) | exact Take.there (Take.there (Take.there (Take.there (Take.there Take.here)))) | exact Take.there (Take.there (Take.there (Take.there (Take.there (Take.there Take.here)))))) ?_
          refine Wl.val rfl (V.pickT rfl rfl) ?_
          refine Wl.val rfl (V.move rfl) ?_
          refine Wl.bool 63 rfl (fun hb63 => ?_) (fun hb63 => ?_)
          · -- t63 is True
            try replace hb63 := of_decide_eq_true hb63
            refine Wl.gT rfl rfl ?_
            refine Wl.val rfl (V.move rfl) ?_
            refine Wl.gT rfl rfl ?_
            refine Wl.val rfl (V.idxW rfl rfl U_Sint64 Z_int64 hv (by decide) (by omega)) ?_
            refine Wl.gT rfl rfl ?_
            refine Wl.val rfl (V.ldW rfl C_int64 hv (nums_at (j := 3) (by omega))) ?_
            refine Wl.gT rfl rfl ?_
            first | refine Wl.callE rfl rfl (s_cache_within ..) ?_ | refine Wl.callD rfl rfl (s_cache_within ..) (by first | exact Take.here | exact Take.there Take.here | exact Take.there (Take.there Take.here) | exact Take.there (Take.there (Take.there Take.here)) | exact Take.none _ | exact TakeC.t | exact Take.there (Take.there (Take.there (Take.there Take.here))) | exact Take.there (Take.there (Take.there (Take.there (Take.there Take.here)))) | exact Take.there (Take.there (Take.there (Take.there (Take.there (Take.there Take.here)))))) ?_
            refine Wl.val rfl (V.pickT rfl rfl) ?_
            refine Wl.val rfl (V.move rfl) ?_
            refine Wl.bool 69 rfl (fun hb69 => ?_) (fun hb69 => ?_)
            · -- t69 is True
              try replace hb69 := of_decide_eq_true hb69
              refine Wl.gT rfl rfl ?_
              refine Wl.val rfl (V.move rfl) ?_
              refine Wl.gT rfl rfl ?_
              refine Wl.val rfl (V.idxW rfl rfl U_Sint64 Z_int64 hv (by decide) (by omega)) ?_
              refine Wl.gT rfl rfl ?_
              refine Wl.val rfl (V.ldW rfl C_int64 hv (nums_at (j := 4) (by omega))) ?_
              refine Wl.gT rfl rfl ?_
              first | refine Wl.callE rfl rfl (s_cache_within ..) ?_ | refine Wl.callD rfl rfl (s_cache_within ..) (by first | exact Take.here | exact Take.there Take.here | exact Take.there (Take.there Take.here) | exact Take.there (Take.there (Take.there Take.here)) | exact Take.none _ | exact TakeC.t | exact Take.there (Take.there (Take.there (Take.there Take.here))) | exact Take.there (Take.there (Take.there (Take.there (Take.there Take.here)))) | exact Take.there (Take.there (Take.there (Take.there (Take.there (Take.there Take.here)))))) ?_
              refine Wl.val rfl (V.pickT rfl rfl) ?_
              refine Wl.val rfl (V.move rfl) ?_
              refine Wl.bool 75 rfl (fun hb75 => ?_) (fun hb75 => ?_)
              · -- t75 is True
                try replace hb75 := of_decide_eq_true hb75
                refine Wl.gT rfl rfl ?_
                refine Wl.val rfl (V.move rfl) ?_
                refine Wl.gT rfl rfl ?_
                refine Wl.val rfl (V.idxW rfl rfl U_Sint64 Z_int64 hv (by decide) (by omega)) ?_
                refine Wl.gT rfl rfl ?_
                refine Wl.val rfl (V.ldW rfl C_int64 hv (nums_at (j := 5) (by omega))) ?_
                refine Wl.gT rfl rfl ?_
                first | refine Wl.callE rfl rfl (s_cache_odd ..) ?_ | refine Wl.callD rfl rfl (s_cache_odd ..) (by first | exact Take.here | exact Take.there Take.here | exact Take.there (Take.there Take.here) | exact Take.there (Take.there (Take.there Take.here)) | exact Take.none _ | exact TakeC.t | exact Take.there (Take.there (Take.there (Take.there Take.here))) | exact Take.there (Take.there (Take.there (Take.there (Take.there Take.here)))) | exact Take.there (Take.there (Take.there (Take.there (Take.there (Take.there Take.here)))))) ?_
                refine Wl.gT rfl rfl ?_
                refine Wl.val rfl (V.not rfl) ?_
                refine Wl.val rfl (V.pickT rfl rfl) ?_
                refine Wl.val rfl (V.move rfl) ?_
                refine Wl.bool 82 rfl (fun hb82 => ?_) (fun hb82 => ?_)
                · -- t82 is True
                  try replace hb82 := of_decide_eq_true hb82
                  refine Wl.gT rfl rfl ?_
                  refine Wl.val rfl (V.fld _ rfl O_cache_put_0 rfl) ?_
                  refine Wl.gT rfl rfl ?_
                  refine Wl.val rfl (V.fld _ rfl O_api_Entry_2 rfl) ?_
                  refine Wl.gT rfl rfl ?_
                  refine Wl.val rfl (V.ld rfl C_string rfl) ?_
                  refine Wl.gT rfl rfl ?_
                  refine Wl.val rfl (V.lenT rfl U_string) ?_
                  refine Wl.gT rfl rfl ?_
                  refine Wl.val rfl (V.eql rfl rfl) ?_
                  refine Wl.val rfl (V.pickT rfl rfl) ?_
                  refine Wl.nil ?_
                  refine Wx.then_n ?_
                  refine Wc.cond rfl (fun hc2 => ?_) (fun hc2 => ?_)
                  · skip
                    try replace hc2 := of_decide_eq_true hc2
                    have hp : putOk C.blocks (putOf r ns) (ns.getD 3 0) = true := by clear hc1; simp only [putOk, putOf, *, decide_true, decide_false, Bool.true_and, Bool.false_and, Bool.and_true, Bool.and_false]
                    refine Wc.seq ?_
                    refine Wc.region ?_
                    refine Wl.val rfl (V.ldA rfl C_cache_put rfl) ?_
                    refine Wl.val rfl (V.mkIface rfl I_cache_put) ?_
                    refine Wl.val rfl (V.assign rfl) ?_
                    refine Wl.nil ?_
                    refine Wx.then_n ?_
                    refine Wc.ret ?_
                    repeat (first | refine Wx.then_r ?_ | refine Wx.blk_r ?_ | refine Wx.ng_r ?_)
                    refine Wx.ret1 rfl rfl rfl ?_
                    refine Ent.resC ?_
                    rw [whatOf, if_pos ⟨h10, h6, ht1⟩, if_pos hp]; rfl
                  · skip
                    try replace hc2 := of_decide_eq_false hc2
                    refine Wc.skip ?_
                    refine Wx.blk_n ?_
                    refine Wx.then_n ?_
                    refine Wc.seq ?_
                    refine Wc.region ?_
                    refine Wl.val rfl (V.assign rfl) ?_
                    refine Wl.nil ?_
                    refine Wx.then_n ?_
                    refine Wc.ret ?_
                    repeat (first | refine Wx.then_r ?_ | refine Wx.blk_r ?_ | refine Wx.ng_r ?_)
                    refine Wx.ret1 rfl rfl rfl ?_
                    refine Ent.resC ?_
                    have hp : putOk C.blocks (putOf r ns) (ns.getD 3 0) = false := by clear hc1; simp only [putOk, putOf, *, decide_true, decide_false, Bool.true_and, Bool.false_and, Bool.and_true, Bool.and_false]
                    rw [whatOf, if_pos ⟨h10, h6, ht1⟩, if_neg (by rw [hp]; decide)]; rfl
                · -- t82 is False
                  try replace hb82 := of_decide_eq_false hb82
                  refine Wl.gF rfl rfl rfl ?_
                  refine Wl.gF rfl rfl rfl ?_
                  refine Wl.gF rfl rfl rfl ?_
                  refine Wl.gF rfl rfl rfl ?_
                  refine Wl.gF rfl rfl rfl ?_
                  refine Wl.val rfl (V.pickF rfl rfl) ?_
                  refine Wl.nil ?_
                  refine Wx.then_n ?_
                  refine Wc.condF rfl ?_
                  refine Wc.skip ?_
                  refine Wx.blk_n ?_
                  refine Wx.then_n ?_
                  refine Wc.seq ?_
                  refine Wc.region ?_
                  refine Wl.val rfl (V.assign rfl) ?_
                  refine Wl.nil ?_
                  refine Wx.then_n ?_
                  refine Wc.ret ?_
                  repeat (first | refine Wx.then_r ?_ | refine Wx.blk_r ?_ | refine Wx.ng_r ?_)
                  refine Wx.ret1 rfl rfl rfl ?_
                  refine Ent.resC ?_
                  have hp : putOk C.blocks (putOf r ns) (ns.getD 3 0) = false := by clear hc1; simp only [putOk, putOf, *, decide_true, decide_false, Bool.true_and, Bool.false_and, Bool.and_true, Bool.and_false]
                  rw [whatOf, if_pos ⟨h10, h6, ht1⟩, if_neg (by rw [hp]; decide)]; rfl
              · -- t75 is False
                try replace hb75 := of_decide_eq_false hb75
                refine Wl.gF rfl rfl rfl ?_
                refine Wl.gF rfl rfl rfl ?_
                refine Wl.gF rfl rfl rfl ?_
                refine Wl.gF rfl rfl rfl ?_
                refine Wl.gF rfl rfl rfl ?_
                refine Wl.val rfl (V.pickF rfl rfl) ?_
                refine Wl.val rfl (V.move rfl) ?_
                refine Wl.gF rfl rfl rfl ?_
                refine Wl.gF rfl rfl rfl ?_
                refine Wl.gF rfl rfl rfl ?_
                refine Wl.gF rfl rfl rfl ?_
                refine Wl.gF rfl rfl rfl ?_
                refine Wl.val rfl (V.pickF rfl rfl) ?_
                refine Wl.nil ?_
                refine Wx.then_n ?_
                refine Wc.condF rfl ?_
                refine Wc.skip ?_
                refine Wx.blk_n ?_
                refine Wx.then_n ?_
                refine Wc.seq ?_
                refine Wc.region ?_
                refine Wl.val rfl (V.assign rfl) ?_
                refine Wl.nil ?_
                refine Wx.then_n ?_
                refine Wc.ret ?_
                repeat (first | refine Wx.then_r ?_ | refine Wx.blk_r ?_ | refine Wx.ng_r ?_)
                refine Wx.ret1 rfl rfl rfl ?_
                refine Ent.resC ?_
                have hp : putOk C.blocks (putOf r ns) (ns.getD 3 0) = false := by clear hc1; simp only [putOk, putOf, *, decide_true, decide_false, Bool.true_and, Bool.false_and, Bool.and_true, Bool.and_false]
                rw [whatOf, if_pos ⟨h10, h6, ht1⟩, if_neg (by rw [hp]; decide)]; rfl
            · -- t69 is False
              try replace hb69 := of_decide_eq_false hb69
              refine Wl.gF rfl rfl rfl ?_
              refine Wl.gF rfl rfl rfl ?_
              refine Wl.gF rfl rfl rfl ?_
              refine Wl.gF rfl rfl rfl ?_
              refine Wl.val rfl (V.pickF rfl rfl) ?_
              refine Wl.val rfl (V.move rfl) ?_
              refine Wl.gF rfl rfl rfl ?_
              refine Wl.gF rfl rfl rfl ?_
              refine Wl.gF rfl rfl rfl ?_
              refine Wl.gF rfl rfl rfl ?_
              refine Wl.gF rfl rfl rfl ?_
              refine Wl.val rfl (V.pickF rfl rfl) ?_
              refine Wl.val rfl (V.move rfl) ?_
              refine Wl.gF rfl rfl rfl ?_
              refine Wl.gF rfl rfl rfl ?_
              refine Wl.gF rfl rfl rfl ?_
              refine Wl.gF rfl rfl rfl ?_
              refine Wl.gF rfl rfl rfl ?_
              refine Wl.val rfl (V.pickF rfl rfl) ?_
              refine Wl.nil ?_
              refine Wx.then_n ?_
              refine Wc.condF rfl ?_
              refine Wc.skip ?_
              refine Wx.blk_n ?_
              refine Wx.then_n ?_
              refine Wc.seq ?_
              refine Wc.region ?_
              refine Wl.val rfl (V.assign rfl) ?_
              refine Wl.nil ?_
              refine Wx.then_n ?_
              refine Wc.ret ?_
              repeat (first | refine Wx.then_r ?_ | refine Wx.blk_r ?_ | refine Wx.ng_r ?_)
              refine Wx.ret1 rfl rfl rfl ?_
              refine Ent.resC ?_
              have hp : putOk C.blocks (putOf r ns) (ns.getD 3 0) = false := by clear hc1; simp only [putOk, putOf, *, decide_true, decide_false, Bool.true_and, Bool.false_and, Bool.and_true, Bool.and_false]
              rw [whatOf, if_pos ⟨h10, h6, ht1⟩, if_neg (by rw [hp]; decide)]; rfl
          · -- t63 is False
            try replace hb63 := of_decide_eq_false hb63
            refine Wl.gF rfl rfl rfl ?_
            refine Wl.gF rfl rfl rfl ?_
            refine Wl.gF rfl rfl rfl ?_
            refine Wl.gF rfl rfl rfl ?_
            refine Wl.val rfl (V.pickF rfl rfl) ?_
            refine Wl.val rfl (V.move rfl) ?_
            refine Wl.gF rfl rfl rfl ?_
            refine Wl.gF rfl rfl rfl ?_
            refine Wl.gF rfl rfl rfl ?_
            refine Wl.gF rfl rfl rfl ?_
            refine Wl.val rfl (V.pickF rfl rfl) ?_
            refine Wl.val rfl (V.move rfl) ?_
            refine Wl.gF rfl rfl rfl ?_
            refine Wl.gF rfl rfl rfl ?_
            refine Wl.gF rfl rfl rfl ?_
            refine Wl.gF rfl rfl rfl ?_
            refine Wl.gF rfl rfl rfl ?_
            refine Wl.val rfl (V.pickF rfl rfl) ?_
            refine Wl.val rfl (V.move rfl) ?_
            refine Wl.gF rfl rfl rfl ?_
            refine Wl.gF rfl rfl rfl ?_
            refine Wl.gF rfl rfl rfl ?_
            refine Wl.gF rfl rfl rfl ?_
            refine Wl.gF rfl rfl rfl ?_
            refine Wl.val rfl (V.pickF rfl rfl) ?_
            refine Wl.nil ?_
            refine Wx.then_n ?_
            refine Wc.condF rfl ?_
            refine Wc.skip ?_
            refine Wx.blk_n ?_
            refine Wx.then_n ?_
            refine Wc.seq ?_
            refine Wc.region ?_
            refine Wl.val rfl (V.assign rfl) ?_
            refine Wl.nil ?_
            refine Wx.then_n ?_
            refine Wc.ret ?_
            repeat (first | refine Wx.then_r ?_ | refine Wx.blk_r ?_ | refine Wx.ng_r ?_)
            refine Wx.ret1 rfl rfl rfl ?_
            refine Ent.resC ?_
            have hp : putOk C.blocks (putOf r ns) (ns.getD 3 0) = false := by clear hc1; simp only [putOk, putOf, *, decide_true, decide_false, Bool.true_and, Bool.false_and, Bool.and_true, Bool.and_false]
            rw [whatOf, if_pos ⟨h10, h6, ht1⟩, if_neg (by rw [hp]; decide)]; rfl
        · -- t57 is False
          try replace hb57 := of_decide_eq_false hb57
          refine Wl.gF rfl rfl rfl ?_
          refine Wl.gF rfl rfl rfl ?_
          refine Wl.gF rfl rfl rfl ?_
          refine Wl.gF rfl rfl rfl ?_
          refine Wl.val rfl (V.pickF rfl rfl) ?_
          refine Wl.val rfl (V.move rfl) ?_
          refine Wl.gF rfl rfl rfl ?_
          refine Wl.gF rfl rfl rfl ?_
          refine Wl.gF rfl rfl rfl ?_
          refine Wl.gF rfl rfl rfl ?_
          refine Wl.val rfl (V.pickF rfl rfl) ?_
          refine Wl.val rfl (V.move rfl) ?_
          refine Wl.gF rfl rfl rfl ?_
          refine Wl.gF rfl rfl rfl ?_
          refine Wl.gF rfl rfl rfl ?_
          refine Wl.gF rfl rfl rfl ?_
          refine Wl.val rfl (V.pickF rfl rfl) ?_
          refine Wl.val rfl (V.move rfl) ?_
          refine Wl.gF rfl rfl rfl ?_
          refine Wl.gF rfl rfl rfl ?_
          refine Wl.gF rfl rfl rfl ?_
          refine Wl.gF rfl rfl rfl ?_
          refine Wl.gF rfl rfl rfl ?_
          refine Wl.val rfl (V.pickF rfl rfl) ?_
          refine Wl.val rfl (V.move rfl) ?_
          refine Wl.gF rfl rfl rfl ?_
          refine Wl.gF rfl rfl rfl ?_
          refine Wl.gF rfl rfl rfl ?_
          refine Wl.gF rfl rfl rfl ?_
          refine Wl.gF rfl rfl rfl ?_
          refine Wl.val rfl (V.pickF rfl rfl) ?_
          refine Wl.nil ?_
          refine Wx.then_n ?_
          refine Wc.condF rfl ?_
          refine Wc.skip ?_
          refine Wx.blk_n ?_
          refine Wx.then_n ?_
          refine Wc.seq ?_
          refine Wc.region ?_
          refine Wl.val rfl (V.assign rfl) ?_
          refine Wl.nil ?_
          refine Wx.then_n ?_
          refine Wc.ret ?_
          repeat (first | refine Wx.then_r ?_ | refine Wx.blk_r ?_ | refine Wx.ng_r ?_)
          refine Wx.ret1 rfl rfl rfl ?_
          refine Ent.resC ?_
          have hp : putOk C.blocks (putOf r ns) (ns.getD 3 0) = false := by clear hc1; simp only [putOk, putOf, *, decide_true, decide_false, Bool.true_and, Bool.false_and, Bool.and_true, Bool.and_false]
          rw [whatOf, if_pos ⟨h10, h6, ht1⟩, if_neg (by rw [hp]; decide)]; rfl
      exact Wm.nil
    · skip
      try replace hc1 := of_decide_eq_false hc1
      have hw1 : ¬ (r.kind = 10 ∧ (ns.length : Int) = 6 ∧ (r.texts.length : Int) = 1) := by intro h; simp [h] at hc1
      refine Wc.cut (row r4 T_api_Rec [i64 r.kind, nv, tv] * (CacheR cc lp me mp C * (S * F))) ([(0, ptr cc), (2, v), (4, ptr r4), (6, .nilIface), (7, i64 (r.texts.length : Nat)), (91, .bool (decide (r.kind = 11) && (decide ((ns.length : Int) = 3) && decide ((r.texts.length : Int) = 0))))]) ?_ ?_
      · skip
        refine Wc.region ?_
        refine Wl.val rfl (V.fld _ rfl O_api_Rec_0 rfl) ?_
        refine Wl.val rfl (V.ld rfl C_int rfl) ?_
        refine Wl.val rfl (V.eql rfl rfl) ?_
        refine Wl.val rfl (V.move rfl) ?_
        refine Wl.bool 95 rfl (fun hb95 => ?_) (fun hb95 => ?_)
        · -- t95 is True
          try replace hb95 := of_decide_eq_true hb95
          refine Wl.gT rfl rfl ?_
          refine Wl.val rfl (V.move rfl) ?_
          refine Wl.gT rfl rfl ?_
          refine Wl.val rfl (V.lenW rfl U_Sint64 hv) ?_
          refine Wl.gT rfl rfl ?_
          refine Wl.val rfl (V.eql rfl rfl) ?_
          refine Wl.val rfl (V.pickT rfl rfl) ?_
          refine Wl.val rfl (V.move rfl) ?_
          refine Wl.bool 100 rfl (fun hb100 => ?_) (fun hb100 => ?_)
          · -- t100 is True
            try replace hb100 := of_decide_eq_true hb100
            refine Wl.gT rfl rfl ?_
            refine Wl.val rfl (V.move rfl) ?_
            refine Wl.gT rfl rfl ?_
            refine Wl.val rfl (V.eql rfl rfl) ?_
            refine Wl.val rfl (V.pickT rfl rfl) ?_
            refine Wl.val rfl (V.assign rfl) ?_
            refine Wl.nil ?_
            exact Wx.cutn Ent.auto ⟨rfl, rfl, rfl, rfl, rfl, lookB rfl (by simp only [*, decide_true, decide_false, Bool.true_and, Bool.false_and, Bool.and_true, Bool.and_false]), trivial⟩
          · -- t100 is False
            try replace hb100 := of_decide_eq_false hb100
            refine Wl.gF rfl rfl rfl ?_
            refine Wl.gF rfl rfl rfl ?_
            refine Wl.val rfl (V.pickF rfl rfl) ?_
            refine Wl.val rfl (V.assign rfl) ?_
            refine Wl.nil ?_
            exact Wx.cutn Ent.auto ⟨rfl, rfl, rfl, rfl, rfl, lookB rfl (by simp only [*, decide_true, decide_false, Bool.true_and, Bool.false_and, Bool.and_true, Bool.and_false]), trivial⟩
        · -- t95 is False
          try replace hb95 := of_decide_eq_false hb95
          refine Wl.gF rfl rfl rfl ?_
          refine Wl.gF rfl rfl rfl ?_
          refine Wl.gF rfl rfl rfl ?_
          refine Wl.val rfl (V.pickF rfl rfl) ?_
          refine Wl.val rfl (V.move rfl) ?_
          refine Wl.gF rfl rfl rfl ?_
          refine Wl.gF rfl rfl rfl ?_
          refine Wl.val rfl (V.pickF rfl rfl) ?_
          refine Wl.val rfl (V.assign rfl) ?_
          refine Wl.nil ?_
          exact Wx.cutn Ent.auto ⟨rfl, rfl, rfl, rfl, rfl, lookB rfl (by simp only [*, decide_true, decide_false, Bool.true_and, Bool.false_and, Bool.and_true, Bool.and_false]), trivial⟩
      · skip
        refine Wc.cond rfl (fun hc3 => ?_) (fun hc3 => ?_)
        · skip
          try replace hc3 := of_decide_eq_true hc3
          obtain ⟨h11, h3, ht0⟩ : r.kind = 11 ∧ (ns.length : Int) = 3 ∧ (r.texts.length : Int) = 0 := by simpa using hc3
          refine Wc.seq ?_
          refine Wc.draws 12 mixed (by kernel_rfl) (S := _) (M := emp) (Ent.empR _) ?_
          refine Wr.take [0, 1, 2, 3, 4, 5, 6, 7, 8, 9, 10] 1 (by kernel_rfl) (by kernel_rfl) rfl rfl ?_
          refine Wt.val rfl (V.move rfl) ?_
          refine Wt.val rfl (V.idxW rfl rfl U_Sint64 Z_int64 hv (by decide) (by omega)) ?_
          refine Wt.val rfl (V.ldW rfl C_int64 hv (nums_at (j := 0) (by omega))) ?_
          refine Wt.val rfl (V.move rfl) ?_
          refine Wt.val rfl (V.idxW rfl rfl U_Sint64 Z_int64 hv (by decide) (by omega)) ?_
          refine Wt.val rfl (V.ldW rfl C_int64 hv (nums_at (j := 1) (by omega))) ?_
          refine Wt.val rfl (V.move rfl) ?_
          refine Wt.val rfl (V.idxW rfl rfl U_Sint64 Z_int64 hv (by decide) (by omega)) ?_
          refine Wt.val rfl (V.ldW rfl C_int64 hv (nums_at (j := 2) (by omega))) ?_
          refine Wt.val rfl (V.build B_api_Version rfl rfl) ?_
          refine Wt.val rfl (V.build B_cache_clean rfl rfl) ?_
          refine Wt.nil ?_
          refine Wr.any [11] 0 (by kernel_rfl) rfl rfl ?_
          refine Wm.al rfl rfl rfl (M.alloc N_cache_clean) (fun r9 => ?_) ?_
          · skip
            refine Wr.tail (by kernel_rfl) rfl ?_
            try refine Wl.ent (Ent.unemp _) ?_
            refine Wl.st (Go.Sl.S.putA rfl rfl C_cache_clean rfl rfl rfl rfl) ?_
            refine Wl.nil ?_
            refine Wx.then_n ?_
            refine Wc.seq ?_
            refine Wc.region ?_
            refine Wl.val rfl (V.move rfl) ?_
            refine Wl.val rfl (V.move rfl) ?_
            refine Wl.val rfl (V.idxW rfl rfl U_Sint64 Z_int64 hv (by decide) (by omega)) ?_
            refine Wl.val rfl (V.ldW rfl C_int64 hv (nums_at (j := 0) (by omega))) ?_
            first | refine Wl.callE rfl rfl (s_cache_Cache_inR cc lp me mp C (ns.getD 0 0) hb) ?_ | refine Wl.callD rfl rfl (s_cache_Cache_inR cc lp me mp C (ns.getD 0 0) hb) (by first | exact Take.here | exact Take.there Take.here | exact Take.there (Take.there Take.here) | exact Take.there (Take.there (Take.there Take.here)) | exact Take.none _ | exact TakeC.t | exact Take.there (Take.there (Take.there (Take.there Take.here))) | exact Take.there (Take.there (Take.there (Take.there (Take.there Take.here)))) | exact Take.there (Take.there (Take.there (Take.there (Take.there (Take.there Take.here)))))) ?_
            refine Wl.val rfl (V.move rfl) ?_
            refine Wl.bool 120 rfl (fun hb120 => ?_) (fun hb120 => ?_)
            · -- t120 is True
              try replace hb120 := of_decide_eq_true hb120
              refine Wl.gT rfl rfl ?_
              refine Wl.val rfl (V.fld _ rfl O_cache_clean_1 rfl) ?_
              refine Wl.gT rfl rfl ?_
              refine Wl.val rfl (V.ldA (vs := verV ⟨ns.getD 1 0, ns.getD 2 0⟩) rfl C_api_Version rfl) ?_
              refine Wl.gT rfl rfl ?_
              first | refine Wl.callE rfl rfl (s_cache_may ⟨ns.getD 1 0, ns.getD 2 0⟩ 1) ?_ | refine Wl.callD rfl rfl (s_cache_may ⟨ns.getD 1 0, ns.getD 2 0⟩ 1) (by first | exact Take.here | exact Take.there Take.here | exact Take.there (Take.there Take.here) | exact Take.there (Take.there (Take.there Take.here)) | exact Take.none _ | exact TakeC.t | exact Take.there (Take.there (Take.there (Take.there Take.here))) | exact Take.there (Take.there (Take.there (Take.there (Take.there Take.here)))) | exact Take.there (Take.there (Take.there (Take.there (Take.there (Take.there Take.here)))))) ?_
              refine Wl.val rfl (V.pickT rfl rfl) ?_
              refine Wl.nil ?_
              refine Wx.then_n ?_
              refine Wc.cond rfl (fun hc4 => ?_) (fun hc4 => ?_)
              · skip
                try replace hc4 := of_decide_eq_true hc4
                refine Wc.seq ?_
                refine Wc.region ?_
                refine Wl.val rfl (V.ldA rfl C_cache_clean rfl) ?_
                refine Wl.val rfl (V.mkIface rfl I_cache_clean) ?_
                refine Wl.val rfl (V.assign rfl) ?_
                refine Wl.nil ?_
                refine Wx.then_n ?_
                refine Wc.ret ?_
                repeat (first | refine Wx.then_r ?_ | refine Wx.blk_r ?_ | refine Wx.ng_r ?_)
                refine Wx.ret1 rfl rfl rfl ?_
                refine Ent.resC ?_
                rw [whatOf, if_neg hw1, if_pos ⟨h11, h3, ht0⟩, if_pos (by simp only [*, Bool.and_self])]; rfl
              · skip
                try replace hc4 := of_decide_eq_false hc4
                refine Wc.skip ?_
                refine Wx.blk_n ?_
                refine Wx.then_n ?_
                refine Wc.seq ?_
                refine Wc.region ?_
                refine Wl.val rfl (V.assign rfl) ?_
                refine Wl.nil ?_
                refine Wx.then_n ?_
                refine Wc.ret ?_
                repeat (first | refine Wx.then_r ?_ | refine Wx.blk_r ?_ | refine Wx.ng_r ?_)
                refine Wx.ret1 rfl rfl rfl ?_
                refine Ent.resC ?_
                rw [whatOf, if_neg hw1, if_pos ⟨h11, h3, ht0⟩, if_neg (by simp only [*, Bool.and_true, Bool.and_false, Bool.true_and, Bool.false_and]; decide)]; rfl
            · -- t120 is False
              try replace hb120 := of_decide_eq_false hb120
              refine Wl.gF rfl rfl rfl ?_
              refine Wl.gF rfl rfl rfl ?_
              refine Wl.gF rfl rfl rfl ?_
              refine Wl.val rfl (V.pickF rfl rfl) ?_
              refine Wl.nil ?_
              refine Wx.then_n ?_
              refine Wc.condF rfl ?_
              refine Wc.skip ?_
              refine Wx.blk_n ?_
              refine Wx.then_n ?_
              refine Wc.seq ?_
              refine Wc.region ?_
              refine Wl.val rfl (V.assign rfl) ?_
              refine Wl.nil ?_
              refine Wx.then_n ?_
              refine Wc.ret ?_
              repeat (first | refine Wx.then_r ?_ | refine Wx.blk_r ?_ | refine Wx.ng_r ?_)
              refine Wx.ret1 rfl rfl rfl ?_
              refine Ent.resC ?_
              rw [whatOf, if_neg hw1, if_pos ⟨h11, h3, ht0⟩, if_neg (by simp only [*, Bool.and_true, Bool.and_false, Bool.true_and, Bool.false_and]; decide)]; rfl
          exact Wm.nil
        · skip
          try replace hc3 := of_decide_eq_false hc3
          have hw3 : ¬ (r.kind = 11 ∧ (ns.length : Int) = 3 ∧ (r.texts.length : Int) = 0) := by intro h; simp [h] at hc3
          refine Wc.cut (row r4 T_api_Rec [i64 r.kind, nv, tv] * (CacheR cc lp me mp C * (S * F))) ([(0, ptr cc), (2, v), (4, ptr r4), (6, .nilIface), (7, i64 (r.texts.length : Nat)), (127, .bool (decide (r.kind = 12) && (decide ((ns.length : Int) = 1) && (decide ((r.texts.length : Int) = 0) && inB C.blocks (ns.getD 0 0)))))]) ?_ ?_
          · skip
            refine Wc.region ?_
            refine Wl.val rfl (V.fld _ rfl O_api_Rec_0 rfl) ?_
            refine Wl.val rfl (V.ld rfl C_int rfl) ?_
            refine Wl.val rfl (V.eql rfl rfl) ?_
            refine Wl.val rfl (V.move rfl) ?_
            refine Wl.bool 131 rfl (fun hb131 => ?_) (fun hb131 => ?_)
            · -- t131 is True
              try replace hb131 := of_decide_eq_true hb131
              refine Wl.gT rfl rfl ?_
              refine Wl.val rfl (V.move rfl) ?_
              refine Wl.gT rfl rfl ?_
              refine Wl.val rfl (V.lenW rfl U_Sint64 hv) ?_
              refine Wl.gT rfl rfl ?_
              refine Wl.val rfl (V.eql rfl rfl) ?_
              refine Wl.val rfl (V.pickT rfl rfl) ?_
              refine Wl.val rfl (V.move rfl) ?_
              refine Wl.bool 136 rfl (fun hb136 => ?_) (fun hb136 => ?_)
              · -- t136 is True
                try replace hb136 := of_decide_eq_true hb136
                refine Wl.gT rfl rfl ?_
                refine Wl.val rfl (V.move rfl) ?_
                refine Wl.gT rfl rfl ?_
                refine Wl.val rfl (V.eql rfl rfl) ?_
                refine Wl.val rfl (V.pickT rfl rfl) ?_
                refine Wl.val rfl (V.move rfl) ?_
                refine Wl.bool 140 rfl (fun hb140 => ?_) (fun hb140 => ?_)
                · -- t140 is True
                  try replace hb140 := of_decide_eq_true hb140
                  refine Wl.gT rfl rfl ?_
                  refine Wl.val rfl (V.move rfl) ?_
                  refine Wl.gT rfl rfl ?_
                  refine Wl.val rfl (V.move rfl) ?_
                  refine Wl.gT rfl rfl ?_
                  refine Wl.val rfl (V.idxW rfl rfl U_Sint64 Z_int64 hv (by decide) (by omega)) ?_
                  refine Wl.gT rfl rfl ?_
                  refine Wl.val rfl (V.ldW rfl C_int64 hv (nums_at (j := 0) (by omega))) ?_
                  refine Wl.gT rfl rfl ?_
                  first | refine Wl.callE rfl rfl (s_cache_Cache_inR cc lp me mp C (ns.getD 0 0) hb) ?_ | refine Wl.callD rfl rfl (s_cache_Cache_inR cc lp me mp C (ns.getD 0 0) hb) (by first | exact Take.here | exact Take.there Take.here | exact Take.there (Take.there Take.here) | exact Take.there (Take.there (Take.there Take.here)) | exact Take.none _ | exact TakeC.t | exact Take.there (Take.there (Take.there (Take.there Take.here))) | exact Take.there (Take.there (Take.there (Take.there (Take.there Take.here)))) | exact Take.there (Take.there (Take.there (Take.there (Take.there (Take.there Take.here)))))) ?_
                  refine Wl.val rfl (V.pickT rfl rfl) ?_
                  refine Wl.val rfl (V.assign rfl) ?_
                  refine Wl.nil ?_
                  exact Wx.cutn Ent.auto ⟨rfl, rfl, rfl, rfl, rfl, lookB rfl (by simp only [*, decide_true, decide_false, Bool.true_and, Bool.false_and, Bool.and_true, Bool.and_false]), trivial⟩
                · -- t140 is False
                  try replace hb140 := of_decide_eq_false hb140
                  refine Wl.gF rfl rfl rfl ?_
                  refine Wl.gF rfl rfl rfl ?_
                  refine Wl.gF rfl rfl rfl ?_
                  refine Wl.gF rfl rfl rfl ?_
                  refine Wl.gF rfl rfl rfl ?_
                  refine Wl.val rfl (V.pickF rfl rfl) ?_
                  refine Wl.val rfl (V.assign rfl) ?_
                  refine Wl.nil ?_
                  exact Wx.cutn Ent.auto ⟨rfl, rfl, rfl, rfl, rfl, lookB rfl (by simp only [*, decide_true, decide_false, Bool.true_and, Bool.false_and, Bool.and_true, Bool.and_false]), trivial⟩
              · -- t136 is False
                try replace hb136 := of_decide_eq_false hb136
                refine Wl.gF rfl rfl rfl ?_
                refine Wl.gF rfl rfl rfl ?_
                refine Wl.val rfl (V.pickF rfl rfl) ?_
                refine Wl.val rfl (V.move rfl) ?_
                refine Wl.gF rfl rfl rfl ?_
                refine Wl.gF rfl rfl rfl ?_
                refine Wl.gF rfl rfl rfl ?_
                refine Wl.gF rfl rfl rfl ?_
                refine Wl.gF rfl rfl rfl ?_
                refine Wl.val rfl (V.pickF rfl rfl) ?_
                refine Wl.val rfl (V.assign rfl) ?_
                refine Wl.nil ?_
                exact Wx.cutn Ent.auto ⟨rfl, rfl, rfl, rfl, rfl, lookB rfl (by simp only [*, decide_true, decide_false, Bool.true_and, Bool.false_and, Bool.and_true, Bool.and_false]), trivial⟩
            · -- t131 is False
              try replace hb131 := of_decide_eq_false hb131
              refine Wl.gF rfl rfl rfl ?_
              refine Wl.gF rfl rfl rfl ?_
              refine Wl.gF rfl rfl rfl ?_
              refine Wl.val rfl (V.pickF rfl rfl) ?_
              refine Wl.val rfl (V.move rfl) ?_
              refine Wl.gF rfl rfl rfl ?_
              refine Wl.gF rfl rfl rfl ?_
              refine Wl.val rfl (V.pickF rfl rfl) ?_
              refine Wl.val rfl (V.move rfl) ?_
              refine Wl.gF rfl rfl rfl ?_
              refine Wl.gF rfl rfl rfl ?_
              refine Wl.gF rfl rfl rfl ?_
              refine Wl.gF rfl rfl rfl ?_
              refine Wl.gF rfl rfl rfl ?_
              refine Wl.val rfl (V.pickF rfl rfl) ?_
              refine Wl.val rfl (V.assign rfl) ?_
              refine Wl.nil ?_
              exact Wx.cutn Ent.auto ⟨rfl, rfl, rfl, rfl, rfl, lookB rfl (by simp only [*, decide_true, decide_false, Bool.true_and, Bool.false_and, Bool.and_true, Bool.and_false]), trivial⟩
          · skip
            refine Wc.cond rfl (fun hc5 => ?_) (fun hc5 => ?_)
            · skip
              try replace hc5 := of_decide_eq_true hc5
              obtain ⟨h12, h1, ht0, hin⟩ : r.kind = 12 ∧ (ns.length : Int) = 1 ∧ (r.texts.length : Int) = 0 ∧ inB C.blocks (ns.getD 0 0) = true := by simpa [-List.getD_eq_getElem?_getD] using hc5
              refine Wc.seq ?_
              refine Wc.region ?_
              refine Wl.val rfl (V.move rfl) ?_
              refine Wl.val rfl (V.idxW rfl rfl U_Sint64 Z_int64 hv (by decide) (by omega)) ?_
              refine Wl.val rfl (V.ldW rfl C_int64 hv (nums_at (j := 0) (by omega))) ?_
              refine Wl.val rfl (V.build B_cache_drop rfl rfl) ?_
              refine Wl.val rfl (V.mkIface rfl I_cache_drop) ?_
              refine Wl.val rfl (V.assign rfl) ?_
              refine Wl.nil ?_
              refine Wx.then_n ?_
              refine Wc.ret ?_
              repeat (first | refine Wx.then_r ?_ | refine Wx.blk_r ?_ | refine Wx.ng_r ?_)
              refine Wx.ret1 rfl rfl rfl ?_
              refine Ent.resC ?_
              rw [whatOf, if_neg hw1, if_neg hw3, if_pos ⟨h12, h1, ht0, hin⟩]; rfl
            · skip
              try replace hc5 := of_decide_eq_false hc5
              have hw5 : ¬ (r.kind = 12 ∧ (ns.length : Int) = 1 ∧ (r.texts.length : Int) = 0 ∧ inB C.blocks (ns.getD 0 0) = true) := by rintro ⟨e1, e2, e3, e4⟩; rw [e1, e2, e3, e4] at hc5; simp at hc5
              refine Wc.cut (row r4 T_api_Rec [i64 r.kind, nv, tv] * (CacheR cc lp me mp C * (S * F))) ([(0, ptr cc), (2, v), (4, ptr r4), (6, .nilIface), (7, i64 (r.texts.length : Nat)), (152, .bool (decide (r.kind = 13) && (decide ((ns.length : Int) = 0) && decide ((r.texts.length : Int) = 0))))]) ?_ ?_
              · skip
                refine Wc.region ?_
                refine Wl.val rfl (V.fld _ rfl O_api_Rec_0 rfl) ?_
                refine Wl.val rfl (V.ld rfl C_int rfl) ?_
                refine Wl.val rfl (V.eql rfl rfl) ?_
                refine Wl.val rfl (V.move rfl) ?_
                refine Wl.bool 156 rfl (fun hb156 => ?_) (fun hb156 => ?_)
                · -- t156 is True
                  try replace hb156 := of_decide_eq_true hb156
                  refine Wl.gT rfl rfl ?_
                  refine Wl.val rfl (V.move rfl) ?_
                  refine Wl.gT rfl rfl ?_
                  refine Wl.val rfl (V.lenW rfl U_Sint64 hv) ?_
                  refine Wl.gT rfl rfl ?_
                  refine Wl.val rfl (V.eql rfl rfl) ?_
                  refine Wl.val rfl (V.pickT rfl rfl) ?_
                  refine Wl.val rfl (V.move rfl) ?_
                  refine Wl.bool 161 rfl (fun hb161 => ?_) (fun hb161 => ?_)
                  · -- t161 is True
                    try replace hb161 := of_decide_eq_true hb161
                    refine Wl.gT rfl rfl ?_
                    refine Wl.val rfl (V.move rfl) ?_
                    refine Wl.gT rfl rfl ?_
                    refine Wl.val rfl (V.eql rfl rfl) ?_
                    refine Wl.val rfl (V.pickT rfl rfl) ?_
                    refine Wl.val rfl (V.assign rfl) ?_
                    refine Wl.nil ?_
                    exact Wx.cutn Ent.auto ⟨rfl, rfl, rfl, rfl, rfl, lookB rfl (by simp only [*, decide_true, decide_false, Bool.true_and, Bool.false_and, Bool.and_true, Bool.and_false]), trivial⟩
                  · -- t161 is False
                    try replace hb161 := of_decide_eq_false hb161
                    refine Wl.gF rfl rfl rfl ?_
                    refine Wl.gF rfl rfl rfl ?_
                    refine Wl.val rfl (V.pickF rfl rfl) ?_
                    refine Wl.val rfl (V.assign rfl) ?_
                    refine Wl.nil ?_
                    exact Wx.cutn Ent.auto ⟨rfl, rfl, rfl, rfl, rfl, lookB rfl (by simp only [*, decide_true, decide_false, Bool.true_and, Bool.false_and, Bool.and_true, Bool.and_false]), trivial⟩
                · -- t156 is False
                  try replace hb156 := of_decide_eq_false hb156
                  refine Wl.gF rfl rfl rfl ?_
                  refine Wl.gF rfl rfl rfl ?_
                  refine Wl.gF rfl rfl rfl ?_
                  refine Wl.val rfl (V.pickF rfl rfl) ?_
                  refine Wl.val rfl (V.move rfl) ?_
                  refine Wl.gF rfl rfl rfl ?_
                  refine Wl.gF rfl rfl rfl ?_
                  refine Wl.val rfl (V.pickF rfl rfl) ?_
                  refine Wl.val rfl (V.assign rfl) ?_
                  refine Wl.nil ?_
                  exact Wx.cutn Ent.auto ⟨rfl, rfl, rfl, rfl, rfl, lookB rfl (by simp only [*, decide_true, decide_false, Bool.true_and, Bool.false_and, Bool.and_true, Bool.and_false]), trivial⟩
              · skip
                refine Wc.cond rfl (fun hc6 => ?_) (fun hc6 => ?_)
                · skip
                  try replace hc6 := of_decide_eq_true hc6
                  obtain ⟨h13, h0, ht0⟩ : r.kind = 13 ∧ (ns.length : Int) = 0 ∧ (r.texts.length : Int) = 0 := by simpa using hc6
                  refine Wc.seq ?_
                  refine Wc.region ?_
                  refine Wl.val rfl (V.build B_cache_note rfl rfl) ?_
                  refine Wl.val rfl (V.mkIface rfl I_cache_note) ?_
                  refine Wl.val rfl (V.assign rfl) ?_
                  refine Wl.nil ?_
                  refine Wx.then_n ?_
                  refine Wc.ret ?_
                  repeat (first | refine Wx.then_r ?_ | refine Wx.blk_r ?_ | refine Wx.ng_r ?_)
                  refine Wx.ret1 rfl rfl rfl ?_
                  refine Ent.resC ?_
                  rw [whatOf, if_neg hw1, if_neg hw3, if_neg hw5, if_pos ⟨h13, h0, ht0⟩]; rfl
                · skip
                  try replace hc6 := of_decide_eq_false hc6
                  have hw6 : ¬ (r.kind = 13 ∧ (ns.length : Int) = 0 ∧ (r.texts.length : Int) = 0) := by intro h; simp [h] at hc6
                  refine Wc.skip ?_
                  refine Wx.blk_n ?_
                  refine Wx.then_n ?_
                  refine Wc.seq ?_
                  refine Wc.region ?_
                  refine Wl.val rfl (V.assign rfl) ?_
                  refine Wl.nil ?_
                  refine Wx.then_n ?_
                  refine Wc.ret ?_
                  repeat (first | refine Wx.then_r ?_ | refine Wx.blk_r ?_ | refine Wx.ng_r ?_)
                  refine Wx.ret1 rfl rfl rfl ?_
                  refine Ent.resC ?_
                  rw [whatOf, if_neg hw1, if_neg hw3, if_neg hw5, if_neg hw6]; rfl
end Go.Proofs.YtjfacgmobpbhcaaGreat
/- The walks: caches, 3. -/
namespace Go.Proofs.YtjfacgmobpbhcaaGreat
open Go.Sl Sei
theorem V.neNilW {H : HP} {e : Env} {ty : TypeId} {pos : String} {af : Array Edge} {dst : Option Tmp} {gd : Option (Nat × Bool)} {x : Operand} {t' : TypeId} {w : Option What} (hx : ev e x = some (oWhatV w)) : ValOp P H e ⟨dst, .binOp .neq T_any x (.const .nilIface) t', ty, pos, af, gd⟩ (.bool w.isSome) := by
  cases w with
  | none => exact V.neNilF hx U_any
  | some w => cases w <;> exact V.neNilT hx U_any
theorem Vw.tailN {S : HP} {v : Value} {l : List Int} {k : Nat} (hw : Vw S v 1 l.length (numsV l)) (hk : k ≤ l.length) : Vw S (subS v k l.length 1) 1 (l.drop k).length (numsV (l.drop k)) := by
  have := hw.sub (l := k) (q := l.length) (Nat.le_refl _) hk
  have e1 : ((numsV l).drop (k * 1)).take ((l.length - k) * 1) = numsV (l.drop k) := by
    simp [numsV, List.map_drop]
    rw [List.take_of_length_le (by simp)]
  rw [e1] at this
  simpa using this
theorem Vw.headN {S : HP} {v : Value} {l : List Int} {k : Nat} (hw : Vw S v 1 l.length (numsV l)) (hk : k ≤ l.length) : Vw S (subS v 0 k 1) 1 (l.take k).length (numsV (l.take k)) := by
  have := hw.sub (l := 0) (q := k) hk (Nat.zero_le _)
  have e1 : ((numsV l).drop (0 * 1)).take ((k - 0) * 1) = numsV (l.take k) := by
    simp [numsV, List.map_take]
  rw [e1] at this
  simpa [Nat.min_eq_left hk] using this
theorem putAt_tab (x0 x1 x2 a b c d p q r s : Value) : putAt [x0, x1, x2, a, b, c, d] 3 (List.take (4 * 1) [p, q, r, s]) = [x0, x1, x2, p, q, r, s] := rfl
theorem oWhatV_one (w : Option What) : (oWhatV w).oneCell' = true := by
  cases w with
  | none => rfl
  | some w => cases w <;> rfl
theorem whatV_one (w : What) : (whatV w).oneCell' = true := oWhatV_one (some w)
theorem oWhatV_cells (w : Option What) : cellsL (oWhatV w) = [oWhatV w] := by
  cases w with
  | none => rfl
  | some w => cases w <;> rfl
theorem whatV_cells (w : What) : cellsL (whatV w) = [whatV w] := oWhatV_cells (some w)
theorem s_cache_Cache_read (cc lp me mp : Nat) (C : CacheM) (hb : 1 ≤ C.blocks ∧ C.blocks ≤ 32) (s : List UInt8) (hs : s.length ≤ 100000) : Ctr P f_cache_Cache_read [ptr cc, str s] (CacheR cc lp me mp C) (fun v => ex fun (q : Option What × Kept) => pu (v = .tuple #[recA q.1 q.2, .bool (cRead C.blocks s).isSome] ∧ ∀ w k, cRead C.blocks s = some (w, k) → q = (some w, k)) * CacheR cc lp me mp C) := by
  refine Ctr.of_body (m := 69) fn_cache_Cache_read rfl rfl rfl rfl rfl (fun F g => ?_)
  refine Wc.seq ?_
  refine Wc.region ?_
  refine Wl.al rfl (M.alloc N_cache_record) (fun r4 => ?_)
  refine Wl.val rfl (V.assign rfl) ?_
  refine Wl.nil ?_
  refine Wx.then_n ?_
  refine Wc.seq ?_
  refine Wc.region ?_
  refine Wl.val rfl (V.move rfl) ?_
  refine Wl.al rfl (M.s2bW rfl U_string U_Suint8 U_uint8 (by unfold maxLen; omega)) (fun r12 => ?_)
  refine Wl.ent (H' := pu (s.length ≤ r12.2 ∧ r12.2 ≤ maxLen) * (sB T_uint8 r12 s * (row r4 T_cache_record [.nilIface, i64 0, i64 0, i64 0, i64 0, i64 0, i64 0] * (CacheR cc lp me mp C * F)))) Ent.auto ?_
  refine Wl.pu (fun hsz => ?_)
  refine Wl.call rfl rfl (s_code_Decode (Vw.sB hsz)) (by first | exact Take.here | exact Take.there Take.here | exact Take.there (Take.there Take.here) | exact Take.there (Take.there (Take.there Take.here)) | exact Take.none _ | exact TakeC.t | exact Take.there (Take.there (Take.there (Take.there Take.here))) | exact Take.there (Take.there (Take.there (Take.there (Take.there Take.here)))) | exact Take.there (Take.there (Take.there (Take.there (Take.there (Take.there Take.here)))))) (fun v13 => ?_)
  refine Wl.exm (fun q => ?_)
  refine Wl.pull (fun hq => ?_)
  subst hq
  obtain ⟨nv, tv⟩ := q
  dsimp only
  generalize hd : dec s = de
  obtain ⟨r, ec⟩ := de
  dsimp only
  refine Wl.ent (H' := own T_int64 1 nv r.nums.length (numsV r.nums) * (own T_string 1 tv r.texts.length (textsV r.texts) * (row r4 T_cache_record [.nilIface, i64 0, i64 0, i64 0, i64 0, i64 0, i64 0] * (CacheR cc lp me mp C * F)))) Ent.auto ?_
  refine Wl.know (fun g w s => Vw.of_own T_int64 1 nv r.nums.length (numsV r.nums) g w (s.ent Ent.auto)) (fun hvn => ?_)
  refine Wl.know (fun g w s => Vw.of_own T_string 1 tv r.texts.length (textsV r.texts) g w (s.ent Ent.auto)) (fun hvt => ?_)
  have hnl := hvn.le
  refine Wl.val rfl (V.move rfl) ?_
  refine Wl.val rfl (V.ext rfl rfl) ?_
  refine Wl.val rfl (V.ext rfl rfl) ?_
  refine Wl.al rfl (M.alloc N_api_Rec) (fun r6 => ?_)
  refine Wl.st (Go.Sl.S.putA (vs := [i64 r.kind, nv, tv]) rfl rfl C_api_Rec (by simp only [oneCells, hvn.one, hvt.one]; rfl) rfl rfl rfl) ?_
  refine Wl.val rfl (V.assign rfl) ?_
  refine Wl.nil ?_
  refine Wx.then_n ?_
  refine Wc.seq ?_
  refine Wc.region ?_
  refine Wl.val rfl (V.fld _ rfl O_api_Rec_1 rfl) ?_
  refine Wl.val rfl (V.ld rfl C_Sint64 rfl) ?_
  refine Wl.val rfl (V.lenW rfl U_Sint64 hvn) ?_
  refine Wl.val rfl (V.subk rfl rfl (wr64 (by omega) (by omega))) ?_
  refine Wl.val rfl (V.assign rfl) ?_
  refine Wl.nil ?_
  refine Wx.then_n ?_
  refine Wc.seq ?_
  refine Wc.cut (row r6 T_api_Rec [i64 r.kind, nv, tv] * (own T_int64 1 nv r.nums.length (numsV r.nums) * (own T_string 1 tv r.texts.length (textsV r.texts) * (row r4 T_cache_record [.nilIface, i64 0, i64 0, i64 0, i64 0, i64 0, i64 0] * (CacheR cc lp me mp C * F))))) ([(0, ptr cc), (4, ptr r4), (6, ptr r6), (8, i64 ((r.nums.length : Nat) - 6)), (32, .bool (!decide (ec = 0) || (decide ((r.nums.length : Int) - 6 < 0) || (numsV (r.nums.drop (r.nums.length - 6))).any oddV)))]) ?_ ?_
  · skip
    refine Wc.region ?_
    refine Wl.val rfl (V.move rfl) ?_
    refine Wl.val rfl (V.neq rfl rfl) ?_
    refine Wl.val rfl (V.move rfl) ?_
    refine Wl.bool 22 rfl (fun hb22 => ?_) (fun hb22 => ?_)
    · -- t22 is True
      try replace hb22 := of_decide_eq_true hb22
      refine Wl.gF rfl rfl rfl ?_
      refine Wl.gF rfl rfl rfl ?_
      refine Wl.val rfl (V.pickT rfl rfl) ?_
      refine Wl.val rfl (V.move rfl) ?_
      refine Wl.gF rfl rfl rfl ?_
      refine Wl.gF rfl rfl rfl ?_
      refine Wl.gF rfl rfl rfl ?_
      refine Wl.gF rfl rfl rfl ?_
      refine Wl.gF rfl rfl rfl ?_
      refine Wl.val rfl (V.pickT rfl rfl) ?_
      refine Wl.nil ?_
      exact Wx.cutn Ent.auto ⟨rfl, rfl, rfl, rfl, lookB rfl (by simp only [*, decide_true, decide_false, Bool.true_or, Bool.false_or, Bool.or_true, Bool.or_false, Bool.not_true, Bool.not_false]), trivial⟩
    · -- t22 is False
      try replace hb22 := of_decide_eq_false hb22
      refine Wl.gT rfl rfl ?_
      refine Wl.val rfl (V.move rfl) ?_
      refine Wl.gT rfl rfl ?_
      refine Wl.val rfl (V.lss rfl rfl) ?_
      refine Wl.val rfl (V.pickF rfl rfl) ?_
      refine Wl.val rfl (V.move rfl) ?_
      refine Wl.bool 26 rfl (fun hb26 => ?_) (fun hb26 => ?_)
      · -- t26 is True
        try replace hb26 := of_decide_eq_true hb26
        refine Wl.gF rfl rfl rfl ?_
        refine Wl.gF rfl rfl rfl ?_
        refine Wl.gF rfl rfl rfl ?_
        refine Wl.gF rfl rfl rfl ?_
        refine Wl.gF rfl rfl rfl ?_
        refine Wl.val rfl (V.pickT rfl rfl) ?_
        refine Wl.nil ?_
        exact Wx.cutn Ent.auto ⟨rfl, rfl, rfl, rfl, lookB rfl (by simp only [*, decide_true, decide_false, Bool.true_or, Bool.false_or, Bool.or_true, Bool.or_false, Bool.not_true, Bool.not_false]), trivial⟩
      · -- t26 is False
        try replace hb26 := of_decide_eq_false hb26
        refine Wl.gT rfl rfl ?_
        refine Wl.val rfl (V.fld _ rfl O_api_Rec_1 rfl) ?_
        refine Wl.gT rfl rfl ?_
        refine Wl.val rfl (V.ld rfl C_Sint64 rfl) ?_
        refine Wl.gT rfl rfl ?_
        refine Wl.val rfl (V.move rfl) ?_
        refine Wl.gT rfl rfl ?_
        refine Wl.val rfl (V.sliceW (l := r.nums.length - 6) (q := r.nums.length) rfl U_Sint64 Z_int64 rfl rfl hvn (by show _ = _; omega) rfl (by omega) (by omega)) ?_
        refine Wl.gT rfl rfl ?_
        first | refine Wl.callE rfl rfl (s_slices_ContainsFunc_int64 (Vw.tailN (k := r.nums.length - 6) hvn (by omega)) (p := oddV) (by intro x hx; obtain ⟨t, _, rfl⟩ := List.mem_map.1 hx; exact s_cache_odd t)) ?_ | refine Wl.callD rfl rfl (s_slices_ContainsFunc_int64 (Vw.tailN (k := r.nums.length - 6) hvn (by omega)) (p := oddV) (by intro x hx; obtain ⟨t, _, rfl⟩ := List.mem_map.1 hx; exact s_cache_odd t)) (by first | exact Take.here | exact Take.there Take.here | exact Take.there (Take.there Take.here) | exact Take.there (Take.there (Take.there Take.here)) | exact Take.none _ | exact TakeC.t | exact Take.there (Take.there (Take.there (Take.there Take.here))) | exact Take.there (Take.there (Take.there (Take.there (Take.there Take.here)))) | exact Take.there (Take.there (Take.there (Take.there (Take.there (Take.there Take.here)))))) ?_
        refine Wl.val rfl (V.pickF rfl rfl) ?_
        refine Wl.nil ?_
        exact Wx.cutn Ent.auto ⟨rfl, rfl, rfl, rfl, lookB rfl (by simp only [*, decide_true, decide_false, Bool.true_or, Bool.false_or, Bool.or_true, Bool.or_false, Bool.not_true, Bool.not_false]), trivial⟩
  · skip
    refine Wc.cond rfl (fun hc1 => ?_) (fun hc1 => ?_)
    · skip
      try replace hc1 := of_decide_eq_true hc1
      refine Wc.seq ?_
      refine Wc.region ?_
      refine Wl.val rfl (V.build B_cache_record rfl rfl) ?_
      refine Wl.st (Go.Sl.S.putA rfl rfl C_cache_record rfl rfl rfl rfl) ?_
      refine Wl.val rfl (V.assign rfl) ?_
      refine Wl.nil ?_
      refine Wx.then_n ?_
      refine Wc.ret ?_
      repeat (first | refine Wx.then_r ?_ | refine Wx.blk_r ?_ | refine Wx.ng_r ?_)
      refine Wx.rv2 rfl rfl (RV.cellA rfl C_cache_record rfl) (RV.tmp rfl) ?_
      rw [ex_mul]
      refine Ent.ex (none, kept0) ?_
      rw [cRead_bad hd hc1]
      exact Ent.resC ⟨rfl, by intro w k h; cases h⟩
    · skip
      try replace hc1 := of_decide_eq_false hc1
      obtain ⟨h6, hcr⟩ := cRead_good (blocks := C.blocks) hd hc1
      refine Wc.skip ?_
      refine Wx.then_n ?_
      refine Wc.seq ?_
      refine Wc.draws 9 mixed (by kernel_rfl) (S := _) (M := emp) (Ent.empR _) ?_
      refine Wr.take [0, 1, 2, 3, 4, 5, 6, 7] 1 (by kernel_rfl) (by kernel_rfl) rfl rfl ?_
      refine Wt.val rfl (V.move rfl) ?_
      refine Wt.val rfl (V.ldA rfl C_api_Rec rfl) ?_
      refine Wt.val rfl (V.fld _ rfl O_api_Rec_1 rfl) ?_
      refine Wt.val rfl (V.ld rfl C_Sint64 rfl) ?_
      refine Wt.val rfl (V.move rfl) ?_
      refine Wt.val rfl (V.sliceW (l := 0) (q := r.nums.length - 6) rfl U_Sint64 Z_int64 rfl rfl hvn rfl (by show _ = _; omega) (by omega) (by omega)) ?_
      refine Wt.call rfl rfl (s_cache_Cache_what (S := own T_int64 1 nv r.nums.length (numsV r.nums) * own T_string 1 tv r.texts.length (textsV r.texts)) cc lp me mp C hb r (r.nums.take (r.nums.length - 6)) (Vw.lift hvn) (Vw.lift hvt) (Vw.lift (Vw.headN (k := r.nums.length - 6) hvn (by omega)))) (by first | exact Take.here | exact Take.there Take.here | exact Take.there (Take.there Take.here) | exact Take.there (Take.there (Take.there Take.here)) | exact Take.none _ | exact TakeC.t | exact Take.there (Take.there (Take.there (Take.there Take.here))) | exact Take.there (Take.there (Take.there (Take.there (Take.there Take.here)))) | exact Take.there (Take.there (Take.there (Take.there (Take.there (Take.there Take.here)))))) ?_
      refine Wt.val rfl (V.build (l := [oWhatV (whatOf C.blocks r (r.nums.take (r.nums.length - 6))), i64 0, i64 0, i64 0, i64 0, i64 0, i64 0]) B_cache_record rfl (by simp only [cellParts, oWhatV_cells]; rfl)) ?_
      refine Wt.nil ?_
      refine Wr.any [8] 0 (by kernel_rfl) rfl rfl ?_
      refine Wm.al rfl rfl rfl (M.alloc N_cache_record) (fun r9 => ?_) ?_
      · skip
        refine Wr.tail (by kernel_rfl) rfl ?_
        try refine Wl.ent (Ent.unemp _) ?_
        refine Wl.st (Go.Sl.S.putA (vs := [oWhatV (whatOf C.blocks r (r.nums.take (r.nums.length - 6))), i64 0, i64 0, i64 0, i64 0, i64 0, i64 0]) rfl rfl C_cache_record (by simp only [oneCells, oWhatV_one]; rfl) rfl rfl rfl) ?_
        refine Wl.nil ?_
        refine Wx.then_n ?_
        refine Wc.seq ?_
        refine Wc.draws 14 mixed (by kernel_rfl) (S := _) (M := emp) (Ent.empR _) ?_
        refine Wr.take [0, 1, 2, 3, 4, 5, 6, 7, 8, 9, 10, 11, 12, 13] 0 (by kernel_rfl) (by kernel_rfl) rfl rfl ?_
        refine Wt.val rfl (V.fld _ rfl O_api_Rec_1 rfl) ?_
        refine Wt.val rfl (V.ld rfl C_Sint64 rfl) ?_
        refine Wt.val rfl (V.move rfl) ?_
        refine Wt.val rfl (V.idxW rfl rfl U_Sint64 Z_int64 hvn (by omega) (by omega)) ?_
        refine Wt.val rfl (V.ldW (u := i64 ((r.nums.drop (r.nums.length - 6)).getD 0 0)) rfl C_int64 hvn (nums_drop (by omega) (by omega))) ?_
        refine Wt.val rfl (V.fld _ rfl O_api_Rec_1 rfl) ?_
        refine Wt.val rfl (V.ld rfl C_Sint64 rfl) ?_
        refine Wt.val rfl (V.move rfl) ?_
        refine Wt.val rfl (V.addk rfl rfl (wr64 (by omega) (by omega))) ?_
        refine Wt.val rfl (V.idxW rfl rfl U_Sint64 Z_int64 hvn (by omega) (by omega)) ?_
        refine Wt.val rfl (V.ldW (u := i64 ((r.nums.drop (r.nums.length - 6)).getD 1 0)) rfl C_int64 hvn (nums_drop (by omega) (by omega))) ?_
        refine Wt.val rfl (V.build B_api_Version rfl rfl) ?_
        refine Wt.val rfl (V.fld _ rfl O_cache_record_1 rfl) ?_
        refine Wt.val rfl (V.fld _ rfl O_cache_kept_0 rfl) ?_
        refine Wt.nil ?_
        refine Wr.tail (by kernel_rfl) rfl ?_
        try refine Wl.ent (Ent.unemp _) ?_
        refine Wl.st (Go.Sl.S.putA rfl rfl C_api_Version rfl rfl rfl rfl) ?_
        refine Wl.nil ?_
        refine Wx.then_n ?_
        refine Wc.seq ?_
        refine Wc.draws 8 mixed (by kernel_rfl) (S := _) (M := emp) (Ent.empR _) ?_
        refine Wr.take [0, 1, 2, 3, 4, 5, 6, 7] 0 (by kernel_rfl) (by kernel_rfl) rfl rfl ?_
        refine Wt.val rfl (V.fld _ rfl O_cache_record_1 rfl) ?_
        refine Wt.val rfl (V.fld _ rfl O_cache_kept_1 rfl) ?_
        refine Wt.val rfl (V.sliceA (l := 0) (h := 4) rfl U_A4int64 Z_int64 rfl rfl rfl rfl (by decide) (by decide)) ?_
        refine Wt.val rfl (V.fld _ rfl O_api_Rec_1 rfl) ?_
        refine Wt.val rfl (V.ld rfl C_Sint64 rfl) ?_
        refine Wt.val rfl (V.move rfl) ?_
        refine Wt.val rfl (V.addk rfl rfl (wr64 (by omega) (by omega))) ?_
        refine Wt.val rfl (V.sliceW (l := r.nums.length - 6 + 2) (q := r.nums.length) rfl U_Sint64 Z_int64 rfl rfl hvn (by show _ = _; omega) rfl (by omega) (by omega)) ?_
        refine Wt.nil ?_
        refine Wr.tail (by kernel_rfl) rfl ?_
        try refine Wl.ent (Ent.unemp _) ?_
        refine Wl.exo rfl (X.copy (k := 4) (sn := 4) (dn := 4) (o := 3) rfl rfl rfl U_Sint64 Z_int64 (Src.vw U_Sint64 (Vw.tab hvn h6) (by intro x hx; simp only [List.mem_cons, List.not_mem_nil, or_false] at hx; rcases hx with rfl | rfl | rfl | rfl <;> rfl)) rfl (by simp)) (fun v64 => ?_)
        refine Wl.pull (fun _ => ?_)
        rw [putAt_tab]
        refine Wl.nil ?_
        refine Wx.then_n ?_
        refine Wc.seq ?_
        refine Wc.draws 5 mixed (by kernel_rfl) (S := row r6 T_api_Rec [i64 r.kind, nv, tv] * (own T_int64 1 nv r.nums.length (numsV r.nums) * (own T_string 1 tv r.texts.length (textsV r.texts) * (row r9 T_cache_record [oWhatV (whatOf C.blocks r (r.nums.take (r.nums.length - 6))), i64 ((r.nums.drop (r.nums.length - 6)).getD 0 0), i64 ((r.nums.drop (r.nums.length - 6)).getD 1 0), i64 ((r.nums.drop (r.nums.length - 6)).getD 2 0), i64 ((r.nums.drop (r.nums.length - 6)).getD 3 0), i64 ((r.nums.drop (r.nums.length - 6)).getD 4 0), i64 ((r.nums.drop (r.nums.length - 6)).getD 5 0)] * (CacheR cc lp me mp C * F))))) (M := row r4 T_cache_record [.nilIface, i64 0, i64 0, i64 0, i64 0, i64 0, i64 0]) (Ent.auto) ?_
        refine Wr.take [0, 1, 2, 3] 1 (by kernel_rfl) (by kernel_rfl) rfl rfl ?_
        refine Wt.val rfl (V.ldA rfl C_cache_record rfl) ?_
        refine Wt.val rfl (V.fld _ rfl O_cache_record_0 rfl) ?_
        refine Wt.val rfl (V.ld rfl C_any rfl) ?_
        refine Wt.val rfl (V.neNilW rfl) ?_
        refine Wt.nil ?_
        refine Wr.any [4] 0 (by kernel_rfl) rfl rfl ?_
        refine Wm.st rfl rfl (Go.Sl.S.putA (vs := [oWhatV (whatOf C.blocks r (r.nums.take (r.nums.length - 6))), i64 ((r.nums.drop (r.nums.length - 6)).getD 0 0), i64 ((r.nums.drop (r.nums.length - 6)).getD 1 0), i64 ((r.nums.drop (r.nums.length - 6)).getD 2 0), i64 ((r.nums.drop (r.nums.length - 6)).getD 3 0), i64 ((r.nums.drop (r.nums.length - 6)).getD 4 0), i64 ((r.nums.drop (r.nums.length - 6)).getD 5 0)]) rfl rfl C_cache_record (by simp only [oneCells, oWhatV_one]; rfl) rfl rfl rfl) rfl ?_ ?_
        · skip
          refine Wr.tail (by kernel_rfl) rfl ?_
          try refine Wl.ent (Ent.unemp _) ?_
          refine Wl.val rfl (V.assign rfl) ?_
          refine Wl.nil ?_
          refine Wx.then_n ?_
          refine Wc.ret ?_
          repeat (first | refine Wx.then_r ?_ | refine Wx.blk_r ?_ | refine Wx.ng_r ?_)
          refine Wx.rv2 rfl rfl (RV.cellA rfl C_cache_record rfl) (RV.tmp rfl) ?_
          rw [ex_mul]
          refine Ent.ex (whatOf C.blocks r (r.nums.take (r.nums.length - 6)), keptAt (r.nums.drop (r.nums.length - 6))) ?_
          rw [hcr]
          refine Ent.resC ⟨by cases whatOf C.blocks r (r.nums.take (r.nums.length - 6)) <;> rfl, by intro w k h; cases hw : whatOf C.blocks r (r.nums.take (r.nums.length - 6)) <;> rw [hw] at h <;> simp at h; obtain ⟨rfl, rfl⟩ := h; rfl⟩
        exact Wm.nil
      exact Wm.nil
end Go.Proofs.YtjfacgmobpbhcaaGreat
/- The walks: caches, 4. -/
namespace Go.Proofs.YtjfacgmobpbhcaaGreat
open Go.Sl Sei
theorem s_cache_Cache_doesB (cc lp me mp d : Nat) (C : CacheM) (w : What) (k : Kept) (number : Int) : Ctr P f_cache_Cache_does [ptr cc, recA (some w) k, i64 number] (CacheB cc lp me mp d C) (fun v => pu (v = .tuple #[]) * CacheB cc lp me mp d (cDoes C w k number)) := by
  refine Ctr.of_body (m := 82) fn_cache_Cache_does rfl rfl rfl rfl rfl (fun F g => ?_)
  refine Wc.ent (H' := CacheR cc lp me mp C * (Log lp d C.log * (mapI me (amap etyA C.entries) * (mapI mp (amap i64 C.puts) * F)))) Ent.auto ?_
  refine Wc.seq ?_
  refine Wc.region ?_
  refine Wl.al rfl (M.box (l := [whatV w, i64 k.last.ep, i64 k.last.sq, i64 k.t.a, i64 k.t.b, i64 k.t.c, i64 k.t.d]) rfl rfl) (fun r4 => ?_)
  refine Wl.nil ?_
  refine Wx.then_n ?_
  refine Wc.cut (row r4 T_cache_record [whatV w, i64 k.last.ep, i64 k.last.sq, i64 k.t.a, i64 k.t.b, i64 k.t.c, i64 k.t.d] * (CacheR cc lp me mp C * (Log lp d C.log * (mapI me (amap etyA (cEnts C w)) * (mapI mp (amap i64 (cPuts C w number)) * F))))) ([(0, ptr cc), (4, ptr r4)]) ?_ ?_
  · skip
    refine Wc.seq ?_
    refine Wc.region ?_
    refine Wl.val rfl (V.fld _ rfl O_cache_record_0 rfl) ?_
    refine Wl.val rfl (V.ld rfl C_any rfl) ?_
    refine Wl.nil ?_
    refine Wx.then_n ?_
    refine Wc.block ?_
    refine Wc.seq ?_
    refine Wc.region ?_
    refine Wl.val rfl (V.tPut (w := w) rfl) ?_
    refine Wl.val rfl (V.ext rfl rfl) ?_
    refine Wl.val rfl (V.ext rfl rfl) ?_
    refine Wl.nil ?_
    refine Wx.then_n ?_
    refine Wc.cond rfl (fun hc1 => ?_) (fun hc1 => ?_)
    · skip
      try replace hc1 := of_decide_eq_true hc1
      obtain ⟨x, rfl⟩ : ∃ x, w = .put x := by cases w <;> first | exact ⟨_, rfl⟩ | cases hc1
      refine Wc.seq ?_
      refine Wc.region ?_
      refine Wl.al rfl (M.alloc N_cache_put) (fun r6 => ?_)
      refine Wl.st (Go.Sl.S.putA rfl rfl C_cache_put rfl rfl rfl rfl) ?_
      refine Wl.nil ?_
      refine Wx.then_n ?_
      refine Wc.seq ?_
      refine Wc.draws 9 mixed (by kernel_rfl) (S := _) (M := emp) (Ent.empR _) ?_
      refine Wr.take [0, 1, 2, 3, 4, 5, 6, 7, 8] 0 (by kernel_rfl) (by kernel_rfl) rfl rfl ?_
      refine Wt.val rfl (V.move rfl) ?_
      refine Wt.val rfl (V.nil rfl) ?_
      refine Wt.val rfl (V.fld _ rfl O_cache_Cache_3 rfl) ?_
      refine Wt.val rfl (V.ld rfl C_Mint_api_Entry rfl) ?_
      refine Wt.val rfl (V.fld _ rfl O_cache_put_0 rfl) ?_
      refine Wt.val rfl (V.fld _ rfl O_api_Entry_0 rfl) ?_
      refine Wt.val rfl (V.ld rfl C_int rfl) ?_
      refine Wt.val rfl (V.fld _ rfl O_cache_put_0 rfl) ?_
      refine Wt.val rfl (V.ldA (vs := etyV x) rfl C_api_Entry rfl) ?_
      refine Wt.nil ?_
      refine Wr.tail (by kernel_rfl) rfl ?_
      try refine Wl.ent (Ent.unemp _) ?_
      refine Wl.st (Go.Sl.S.mapSet (l := amap etyA C.entries) (k := x.block) (v := etyA x) rfl rfl rfl K_Mint_api_Entry TakeC.t) ?_
      refine Wl.nil ?_
      refine Wx.then_n ?_
      refine Wc.draws 8 mixed (by kernel_rfl) (S := _) (M := emp) (Ent.empR _) ?_
      refine Wr.take [0, 1, 2, 3, 4, 5, 6, 7] 0 (by kernel_rfl) (by kernel_rfl) rfl rfl ?_
      refine Wt.val rfl (V.move rfl) ?_
      refine Wt.val rfl (V.nil rfl) ?_
      refine Wt.val rfl (V.fld _ rfl O_cache_Cache_4 rfl) ?_
      refine Wt.val rfl (V.ld rfl C_Mint_int64 rfl) ?_
      refine Wt.val rfl (V.fld _ rfl O_cache_put_0 rfl) ?_
      refine Wt.val rfl (V.fld _ rfl O_api_Entry_0 rfl) ?_
      refine Wt.val rfl (V.ld rfl C_int rfl) ?_
      refine Wt.val rfl (V.move rfl) ?_
      refine Wt.nil ?_
      refine Wr.tail (by kernel_rfl) rfl ?_
      try refine Wl.ent (Ent.unemp _) ?_
      refine Wl.st (Go.Sl.S.mapSet (l := amap i64 C.puts) (k := x.block) (v := i64 number) rfl rfl rfl K_Mint_int64 TakeC.t) ?_
      refine Wl.nil ?_
      refine Wx.blk_n ?_
      rw [kset_amap, kset_amap]
      exact Wx.cutn (Ent.auto (G := row r4 T_cache_record [whatV (.put x), i64 k.last.ep, i64 k.last.sq, i64 k.t.a, i64 k.t.b, i64 k.t.c, i64 k.t.d] * (CacheR cc lp me mp C * (Log lp d C.log * (mapI me (amap etyA (aset C.entries x.block x)) * (mapI mp (amap i64 (aset C.puts x.block number)) * F)))))) ⟨rfl, rfl, trivial⟩
    · skip
      try replace hc1 := of_decide_eq_false hc1
      refine Wc.seq ?_
      refine Wc.region ?_
      refine Wl.val rfl (V.tClean (w := w) rfl) ?_
      refine Wl.val rfl (V.ext rfl rfl) ?_
      refine Wl.val rfl (V.ext rfl rfl) ?_
      refine Wl.nil ?_
      refine Wx.then_n ?_
      refine Wc.cond rfl (fun hc2 => ?_) (fun hc2 => ?_)
      · skip
        try replace hc2 := of_decide_eq_true hc2
        obtain ⟨b, v, rfl⟩ : ∃ b v, w = .clean b v := by cases w <;> first | exact ⟨_, _, rfl⟩ | cases hc2
        refine Wc.seq ?_
        refine Wc.region ?_
        refine Wl.al rfl (M.alloc N_cache_clean) (fun r7 => ?_)
        refine Wl.st (Go.Sl.S.putA rfl rfl C_cache_clean rfl rfl rfl rfl) ?_
        refine Wl.nil ?_
        refine Wx.then_n ?_
        refine Wc.seq ?_
        refine Wc.draws 12 mixed (by kernel_rfl) (S := _) (M := emp) (Ent.empR _) ?_
        refine Wr.take [0, 1, 2, 3, 4, 5, 6, 7, 8, 9] 2 (by kernel_rfl) (by kernel_rfl) rfl rfl ?_
        refine Wt.val rfl (V.move rfl) ?_
        refine Wt.val rfl (V.nil rfl) ?_
        refine Wt.val rfl (V.fld _ rfl O_cache_Cache_3 rfl) ?_
        refine Wt.val rfl (V.ld rfl C_Mint_api_Entry rfl) ?_
        refine Wt.val rfl (V.fld _ rfl O_cache_clean_0 rfl) ?_
        refine Wt.val rfl (V.ld rfl C_int rfl) ?_
        refine Wt.val rfl (V.lookE (l := amap etyA C.entries) (v := etyA ((afind C.entries b).getD ety0)) (b := (afind C.entries b).isSome) rfl rfl K_Mint_api_Entry V0_api_Entry TakeC.t (by rw [kfind_amap]; cases afind C.entries b <;> rfl) (by rw [kfind_amap]; cases afind C.entries b <;> rfl)) ?_
        refine Wt.val rfl (V.move rfl) ?_
        refine Wt.val rfl (V.ext rfl rfl) ?_
        refine Wt.val rfl (V.ext rfl rfl) ?_
        refine Wt.nil ?_
        refine Wr.any [10] 1 (by kernel_rfl) rfl rfl ?_
        refine Wm.al rfl rfl rfl (M.alloc N_api_Entry) (fun r8 => ?_) ?_
        · skip
          refine Wr.any [11] 0 (by kernel_rfl) rfl rfl ?_
          refine Wm.st rfl rfl (Go.Sl.S.putA rfl rfl C_api_Entry rfl rfl rfl rfl) rfl ?_ ?_
          · skip
            refine Wr.tail (by kernel_rfl) rfl ?_
            try refine Wl.ent (Ent.unemp _) ?_
            refine Wl.val rfl (V.assign rfl) ?_
            refine Wl.nil ?_
            refine Wx.then_n ?_
            refine Wc.seq ?_
            refine Wc.region ?_
            refine Wl.val rfl (V.move rfl) ?_
            refine Wl.val rfl (V.move rfl) ?_
            refine Wl.bool 47 rfl (fun hb47 => ?_) (fun hb47 => ?_)
            · -- t47 is True
              try replace hb47 := of_decide_eq_true hb47
              refine Wl.gT rfl rfl ?_
              refine Wl.val rfl (V.fld _ rfl O_api_Entry_1 rfl) ?_
              refine Wl.gT rfl rfl ?_
              refine Wl.val rfl (V.ldA (vs := verV ((afind C.entries b).getD ety0).v) rfl C_api_Version rfl) ?_
              refine Wl.gT rfl rfl ?_
              refine Wl.val rfl (V.fld _ rfl O_cache_clean_1 rfl) ?_
              refine Wl.gT rfl rfl ?_
              refine Wl.val rfl (V.ldA (vs := verV v) rfl C_api_Version rfl) ?_
              refine Wl.gT rfl rfl ?_
              refine Wl.val rfl (V.eqlV rfl rfl ⟨⟨_, rfl⟩, _, rfl⟩ rfl G_api_Version E_api_Version) ?_
              refine Wl.val rfl (V.pickT rfl rfl) ?_
              refine Wl.nil ?_
              refine Wx.then_n ?_
              refine Wc.cond rfl (fun hc3 => ?_) (fun hc3 => ?_)
              · skip
                try replace hc3 := of_decide_eq_true hc3
                refine Wc.seq ?_
                refine Wc.region ?_
                refine Wl.val rfl (V.fld _ rfl O_api_Entry_3 rfl) ?_
                refine Wl.st (Go.Sl.S.put rfl rfl C_bool rfl rfl) ?_
                refine Wl.nil ?_
                refine Wx.then_n ?_
                refine Wc.draws 7 mixed (by kernel_rfl) (S := _) (M := emp) (Ent.empR _) ?_
                refine Wr.take [0, 1, 2, 3, 4, 5, 6] 0 (by kernel_rfl) (by kernel_rfl) rfl rfl ?_
                refine Wt.val rfl (V.move rfl) ?_
                refine Wt.val rfl (V.nil rfl) ?_
                refine Wt.val rfl (V.fld _ rfl O_cache_Cache_3 rfl) ?_
                refine Wt.val rfl (V.ld rfl C_Mint_api_Entry rfl) ?_
                refine Wt.val rfl (V.fld _ rfl O_cache_clean_0 rfl) ?_
                refine Wt.val rfl (V.ld rfl C_int rfl) ?_
                refine Wt.val rfl (V.ldA (vs := etyV { (afind C.entries b).getD ety0 with dirty := false }) rfl C_api_Entry rfl) ?_
                refine Wt.nil ?_
                refine Wr.tail (by kernel_rfl) rfl ?_
                try refine Wl.ent (Ent.unemp _) ?_
                refine Wl.st (Go.Sl.S.mapSet (l := amap etyA C.entries) (k := b) (v := etyA { (afind C.entries b).getD ety0 with dirty := false }) rfl rfl rfl K_Mint_api_Entry TakeC.t) ?_
                refine Wl.nil ?_
                refine Wx.blk_n ?_
                rw [kset_amap, cEnts_clean (v := v) hb47 hc3]
                exact Wx.cutn (Ent.auto (G := row r4 T_cache_record [whatV (.clean b v), i64 k.last.ep, i64 k.last.sq, i64 k.t.a, i64 k.t.b, i64 k.t.c, i64 k.t.d] * (CacheR cc lp me mp C * (Log lp d C.log * (mapI me (amap etyA (aset C.entries b { (afind C.entries b).getD ety0 with dirty := false })) * (mapI mp (amap i64 (C.puts)) * F)))))) ⟨rfl, rfl, trivial⟩
              · skip
                try replace hc3 := of_decide_eq_false hc3
                refine Wc.skip ?_
                refine Wx.blk_n ?_
                rw [cEnts_clean1 hc3]
                exact Wx.cutn (Ent.auto (G := row r4 T_cache_record [whatV (.clean b v), i64 k.last.ep, i64 k.last.sq, i64 k.t.a, i64 k.t.b, i64 k.t.c, i64 k.t.d] * (CacheR cc lp me mp C * (Log lp d C.log * (mapI me (amap etyA (C.entries)) * (mapI mp (amap i64 (C.puts)) * F)))))) ⟨rfl, rfl, trivial⟩
            · -- t47 is False
              try replace hb47 := of_decide_eq_false hb47
              refine Wl.gF rfl rfl rfl ?_
              refine Wl.gF rfl rfl rfl ?_
              refine Wl.gF rfl rfl rfl ?_
              refine Wl.gF rfl rfl rfl ?_
              refine Wl.gF rfl rfl rfl ?_
              refine Wl.val rfl (V.pickF rfl rfl) ?_
              refine Wl.nil ?_
              refine Wx.then_n ?_
              refine Wc.condF rfl ?_
              refine Wc.skip ?_
              refine Wx.blk_n ?_
              rw [cEnts_clean0 hb47]
              exact Wx.cutn (Ent.auto (G := row r4 T_cache_record [whatV (.clean b v), i64 k.last.ep, i64 k.last.sq, i64 k.t.a, i64 k.t.b, i64 k.t.c, i64 k.t.d] * (CacheR cc lp me mp C * (Log lp d C.log * (mapI me (amap etyA (C.entries)) * (mapI mp (amap i64 (C.puts)) * F)))))) ⟨rfl, rfl, trivial⟩
          exact Wm.nil
        exact Wm.nil
      · skip
        try replace hc2 := of_decide_eq_false hc2
        refine Wc.seq ?_
        refine Wc.region ?_
        refine Wl.val rfl (V.tDrop (w := w) rfl) ?_
        refine Wl.val rfl (V.ext rfl rfl) ?_
        refine Wl.val rfl (V.ext rfl rfl) ?_
        refine Wl.nil ?_
        refine Wx.then_n ?_
        refine Wc.cond rfl (fun hc4 => ?_) (fun hc4 => ?_)
        · skip
          try replace hc4 := of_decide_eq_true hc4
          obtain ⟨b, rfl⟩ : ∃ b, w = .drop b := by cases w <;> first | exact ⟨_, rfl⟩ | cases hc4
          refine Wc.seq ?_
          refine Wc.region ?_
          refine Wl.al rfl (M.alloc N_cache_drop) (fun r10 => ?_)
          refine Wl.st (Go.Sl.S.putA rfl rfl C_cache_drop rfl rfl rfl rfl) ?_
          refine Wl.nil ?_
          refine Wx.then_n ?_
          refine Wc.seq ?_
          refine Wc.draws 6 mixed (by kernel_rfl) (S := _) (M := emp) (Ent.empR _) ?_
          refine Wr.take [0, 1, 2, 3, 4, 5] 0 (by kernel_rfl) (by kernel_rfl) rfl rfl ?_
          refine Wt.val rfl (V.move rfl) ?_
          refine Wt.val rfl (V.nil rfl) ?_
          refine Wt.val rfl (V.fld _ rfl O_cache_Cache_3 rfl) ?_
          refine Wt.val rfl (V.ld rfl C_Mint_api_Entry rfl) ?_
          refine Wt.val rfl (V.fld _ rfl O_cache_drop_0 rfl) ?_
          refine Wt.val rfl (V.ld rfl C_int rfl) ?_
          refine Wt.nil ?_
          refine Wr.tail (by kernel_rfl) rfl ?_
          try refine Wl.ent (Ent.unemp _) ?_
          refine Wl.exo0 (X.delete (l := amap etyA C.entries) (k := b) rfl rfl K_Mint_api_Entry rfl TakeC.t) (fun v => ?_)
          refine Wl.nil ?_
          refine Wx.then_n ?_
          refine Wc.draws 6 mixed (by kernel_rfl) (S := _) (M := emp) (Ent.empR _) ?_
          refine Wr.take [0, 1, 2, 3, 4, 5] 0 (by kernel_rfl) (by kernel_rfl) rfl rfl ?_
          refine Wt.val rfl (V.move rfl) ?_
          refine Wt.val rfl (V.nil rfl) ?_
          refine Wt.val rfl (V.fld _ rfl O_cache_Cache_4 rfl) ?_
          refine Wt.val rfl (V.ld rfl C_Mint_int64 rfl) ?_
          refine Wt.val rfl (V.fld _ rfl O_cache_drop_0 rfl) ?_
          refine Wt.val rfl (V.ld rfl C_int rfl) ?_
          refine Wt.nil ?_
          refine Wr.tail (by kernel_rfl) rfl ?_
          try refine Wl.ent (Ent.unemp _) ?_
          refine Wl.exo0 (X.delete (l := amap i64 C.puts) (k := b) rfl rfl K_Mint_int64 rfl TakeC.t) (fun v => ?_)
          refine Wl.nil ?_
          refine Wx.blk_n ?_
          rw [kdel_amap, kdel_amap]
          exact Wx.cutn (Ent.auto (G := row r4 T_cache_record [whatV (.drop b), i64 k.last.ep, i64 k.last.sq, i64 k.t.a, i64 k.t.b, i64 k.t.c, i64 k.t.d] * (CacheR cc lp me mp C * (Log lp d C.log * (mapI me (amap etyA (adel C.entries b)) * (mapI mp (amap i64 (adel C.puts b)) * F)))))) ⟨rfl, rfl, trivial⟩
        · skip
          try replace hc4 := of_decide_eq_false hc4
          obtain rfl : w = .note := by cases w <;> simp_all
          refine Wc.skip ?_
          refine Wx.blk_n ?_
          exact Wx.cutn (Ent.auto (G := row r4 T_cache_record [whatV .note, i64 k.last.ep, i64 k.last.sq, i64 k.t.a, i64 k.t.b, i64 k.t.c, i64 k.t.d] * (CacheR cc lp me mp C * (Log lp d C.log * (mapI me (amap etyA (C.entries)) * (mapI mp (amap i64 (C.puts)) * F)))))) ⟨rfl, rfl, trivial⟩
  · skip
    refine Wc.region ?_
    refine Wl.val rfl (V.move rfl) ?_
    refine Wl.val rfl (V.fld _ rfl O_cache_record_1 rfl) ?_
    refine Wl.val rfl (V.ldA (vs := keptV k) rfl C_cache_kept rfl) ?_
    refine Wl.val rfl (V.nil rfl) ?_
    refine Wl.val rfl (V.fld _ rfl O_cache_Cache_5 rfl) ?_
    refine Wl.st (Go.Sl.S.putA rfl rfl C_cache_kept rfl rfl rfl rfl) ?_
    refine Wl.nil ?_
    refine Wx.end0 rfl rfl ?_
    rw [cDoes_eq]
    exact Ent.resC rfl
theorem s_cache_Cache_does (cc d : Nat) (C : CacheM) (w : What) (k : Kept) (number : Int) : Ctr P f_cache_Cache_does [ptr cc, recA (some w) k, i64 number] (Cache cc d C) (fun v => pu (v = .tuple #[]) * Cache cc d (cDoes C w k number)) :=
  Ctr.exPre (s_cache_Cache_doesB cc 0 0 0 d C w k number).enters fun q => (s_cache_Cache_doesB cc q.1 q.2.1 q.2.2 d C w k number).mono fun v => (Cache.intro cc q.1 q.2.1 q.2.2 d _).framel _
end Go.Proofs.YtjfacgmobpbhcaaGreat
/- The walks: caches, 5. -/
namespace Go.Proofs.YtjfacgmobpbhcaaGreat
open Go.Sl Sei
def etysV (l : List Ety) : List Value := l.flatMap etyV
theorem etysV_len (l : List Ety) : (etysV l).length = l.length * 7 := by
  induction l with
  | nil => rfl
  | cons e l ih => simp only [etysV, List.flatMap_cons, List.length_append] at ih ⊢; rw [ih]; simp [Nat.add_mul]; omega
theorem etysV_drop (l : List Ety) (k : Nat) : (etysV l).drop (k * 7) = etysV (l.drop k) := by
  induction k generalizing l with
  | zero => simp
  | succ k ih => cases l with
    | nil => simp [etysV]
    | cons p l => rw [show (k + 1) * 7 = k * 7 + 7 by omega]; simpa [etysV] using ih l
theorem etysV_at {l : List Ety} {k : Nat} {e : Ety} (h : l[k]? = some e) : getN (etysV l) (k * 7) 7 = some (etyV e) := by
  obtain ⟨h1, h2⟩ := List.getElem?_eq_some_iff.1 h
  rw [getN_intro _ _ _ (by rw [etysV_len]; omega), etysV_drop, List.drop_eq_getElem_cons h1, h2]
  rfl
theorem s_log_Log_TailL (lp d : Nat) (L : LogM) (h1 : 0 ≤ L.head ∧ L.head ≤ 4611686018427389000) (h2 : L.items.length ≤ 1000) : Ctr P f_log_Log_Tail [ptr lp] (Log lp d L) (fun v => pu (v = i64 (logTail L)) * Log lp d L) :=
  Ctr.exPre (s_log_Log_Tail lp d 0 (.slice none 0 0) L h1 h2).enters fun q => (s_log_Log_Tail lp d q.1 q.2 L h1 h2).mono fun v => (Log.intro lp d q.1 q.2 L).framel _
theorem s_log_Log_FreeL (lp d : Nat) (L : LogM) (h1 : L.n ≤ 1000) (h2 : L.items.length ≤ 1000) : Ctr P f_log_Log_Free [ptr lp] (Log lp d L) (fun v => pu (v = i64 (logFree L)) * Log lp d L) :=
  Ctr.exPre (s_log_Log_Free lp d 0 (.slice none 0 0) L h1 h2).enters fun q => (s_log_Log_Free lp d q.1 q.2 L h1 h2).mono fun v => (Log.intro lp d q.1 q.2 L).framel _
theorem s_log_Log_HeadL (lp d : Nat) (L : LogM) : Ctr P f_log_Log_Head [ptr lp] (Log lp d L) (fun v => pu (v = i64 L.head) * Log lp d L) :=
  Ctr.exPre (s_log_Log_Head lp d 0 (.slice none 0 0) L).enters fun q => (s_log_Log_Head lp d q.1 q.2 L).mono fun v => (Log.intro lp d q.1 q.2 L).framel _
theorem s_cache_Cache_All (cc d : Nat) (C : CacheM) (hb : 1 ≤ C.blocks ∧ C.blocks ≤ 32) : Ctr P f_cache_Cache_All [ptr cc] (Cache cc d C) (fun v => own T_api_Entry 7 v (cAll C).length (etysV (cAll C)) * Cache cc d C) := by
  obtain ⟨nb, hnb⟩ : ∃ nb : Nat, C.blocks = (nb : Int) := ⟨C.blocks.toNat, by omega⟩
  refine Ctr.of_body (m := 30) fn_cache_Cache_All rfl rfl rfl rfl rfl (fun F g => ?_)
  refine Wc.cache (fun lp me mp => ?_)
  refine Wc.seq ?_
  refine Wc.region ?_
  refine Wl.val rfl (V.assign rfl) ?_
  refine Wl.nil ?_
  refine Wx.then_n ?_
  refine Wc.seq ?_
  refine Wc.region ?_
  refine Wl.val rfl (V.assign rfl) ?_
  refine Wl.nil ?_
  refine Wx.then_n ?_
  refine Wc.seq ?_
  refine Wc.seq ?_
  refine Wc.region ?_
  refine Wl.val rfl (V.move rfl) ?_
  refine Wl.val rfl (V.nil rfl) ?_
  refine Wl.val rfl (V.fld _ rfl O_cache_Cache_1 rfl) ?_
  refine Wl.val rfl (V.ld rfl C_int rfl) ?_
  refine Wl.val rfl (V.move rfl) ?_
  refine Wl.nil ?_
  refine Wx.then_n ?_
  refine Wc.block ?_
  refine Wc.loop (α := Nat × List Ety × Value) (fun x => nb - x.1) (fun x => pu (x.1 ≤ nb ∧ x.2.1.length ≤ x.1 ∧ x.2.1 ++ allGo C.entries x.1 (nb - x.1) = cAll C) * (own T_api_Entry 7 x.2.2 x.2.1.length (etysV x.2.1) * (CacheR cc lp me mp C * (Log lp d C.log * (mapI me (amap etyA C.entries) * (mapI mp (amap i64 C.puts) * F)))))) (fun x => [(0, ptr cc), (3, x.2.2), (10, i64 C.blocks), (11, i64 (x.1 : Nat))]) (0, [], .slice none 0 0) (by exact (by exact (Ent.own_nil T_api_Entry 7 _).trans (Ent.pure ⟨Nat.zero_le _, Nat.zero_le _, by rw [List.nil_append, cAll, hnb]; rfl⟩))) (by repeat (first | exact trivial | refine ⟨rfl, ?_⟩)) (fun x => ?_)
  obtain ⟨k, acc, av⟩ := x
  refine Wc.pu (fun hI => ?_)
  obtain ⟨h1, h2, h3⟩ := hI
  dsimp only at h1 h2 h3
  refine Wc.seq ?_
  refine Wc.region ?_
  refine Wl.val rfl (V.lss rfl rfl) ?_
  refine Wl.nil ?_
  refine Wx.then_n ?_
  refine Wc.seq ?_
  refine Wc.cond rfl (fun hc1 => ?_) (fun hc1 => ?_)
  · skip
    try replace hc1 := of_decide_eq_true hc1
    have hc1' : k < nb := by (have hc1 : (k : Int) < C.blocks := hc1); omega
    have hgo : allGo C.entries k (nb - k) = match afind C.entries (k : Int) with | some e => e :: allGo C.entries (k + 1) (nb - (k + 1)) | none => allGo C.entries (k + 1) (nb - (k + 1)) := by rw [show nb - k = (nb - (k + 1)) + 1 by omega]; rfl
    refine Wc.skip ?_
    refine Wx.then_n ?_
    refine Wc.seq ?_
    refine Wc.block ?_
    refine Wc.seq ?_
    refine Wc.region ?_
    refine Wl.val rfl (V.move rfl) ?_
    refine Wl.val rfl (V.assign rfl) ?_
    refine Wl.nil ?_
    refine Wx.then_n ?_
    refine Wc.seq ?_
    refine Wc.region ?_
    refine Wl.val rfl (V.move rfl) ?_
    refine Wl.val rfl (V.nil rfl) ?_
    refine Wl.val rfl (V.fld _ rfl O_cache_Cache_3 rfl) ?_
    refine Wl.val rfl (V.ld rfl C_Mint_api_Entry rfl) ?_
    refine Wl.val rfl (V.move rfl) ?_
    refine Wl.val rfl (V.lookE (l := amap etyA C.entries) (v := etyA ((afind C.entries (k : Int)).getD ety0)) (b := (afind C.entries (k : Int)).isSome) rfl rfl K_Mint_api_Entry V0_api_Entry TakeC.t (by rw [kfind_amap]; cases afind C.entries (k : Int) <;> rfl) (by rw [kfind_amap]; cases afind C.entries (k : Int) <;> rfl)) ?_
    refine Wl.val rfl (V.move rfl) ?_
    refine Wl.val rfl (V.ext rfl rfl) ?_
    refine Wl.val rfl (V.ext rfl rfl) ?_
    refine Wl.al rfl (M.alloc N_api_Entry) (fun r5 => ?_)
    refine Wl.st (Go.Sl.S.putA rfl rfl C_api_Entry rfl rfl rfl rfl) ?_
    refine Wl.val rfl (V.assign rfl) ?_
    refine Wl.nil ?_
    refine Wx.then_n ?_
    refine Wc.seq ?_
    refine Wc.region ?_
    refine Wl.val rfl (V.move rfl) ?_
    refine Wl.nil ?_
    refine Wx.then_n ?_
    refine Wc.cond rfl (fun hc2 => ?_) (fun hc2 => ?_)
    · skip
      try replace hc2 := of_decide_eq_true hc2
      refine Wc.region ?_
      refine Wl.val rfl (V.move rfl) ?_
      refine Wl.val rfl (V.ldA (vs := etyV ((afind C.entries (k : Int)).getD ety0)) rfl C_api_Entry rfl) ?_
      refine Wl.al rfl (M.slice (l := etyV ((afind C.entries (k : Int)).getD ety0)) U_Sapi_Entry L_Sapi_Entry.size N_api_Entry rfl (by decide) rfl rfl) (fun r26 => ?_)
      refine Wl.exo rfl (X.append L_Sapi_Entry rfl rfl (by first | exact Take.here | exact Take.there Take.here | exact Take.there (Take.there Take.here) | exact Take.there (Take.there (Take.there Take.here)) | exact Take.none _ | exact TakeC.t | exact Take.there (Take.there (Take.there (Take.there Take.here))) | exact Take.there (Take.there (Take.there (Take.there (Take.there Take.here)))) | exact Take.there (Take.there (Take.there (Take.there (Take.there (Take.there Take.here)))))) (Src.row U_Sapi_Entry rfl rfl) (by unfold maxLen; (try dsimp only); omega) (by (try dsimp only); omega)) (fun v27 => ?_)
      refine Wl.val rfl (V.assign rfl) ?_
      refine Wl.nil ?_
      refine Wx.blk_n ?_
      refine Wx.then_n ?_
      refine Wc.region ?_
      refine Wl.val rfl (V.addk rfl rfl (wr64 (by omega) (by omega))) ?_
      refine Wl.val rfl (V.move rfl) ?_
      refine Wl.nil ?_
      have hst : acc ++ [(afind C.entries (k : Int)).getD ety0] ++ allGo C.entries (k + 1) (nb - (k + 1)) = cAll C := by
        rw [← h3, hgo]
        cases hf : afind C.entries (k : Int) with
        | none => rw [hf] at hc2; cases hc2
        | some e => simp
      refine Wx.again (k + 1, acc ++ [(afind C.entries (k : Int)).getD ety0], v27) (by exact (by show nb - (k + 1) < nb - k; omega)) (by exact (by refine Ent.trans ((own_to (n' := (acc ++ [(afind C.entries (k : Int)).getD ety0]).length) (xs' := etysV (acc ++ [(afind C.entries (k : Int)).getD ety0])) (by simp) (by simp [etysV])).frame _) ?_; exact Ent.puC ⟨by omega, by simp; omega, hst⟩)) (by repeat (first | exact trivial | refine ⟨rfl, ?_⟩))
    · skip
      try replace hc2 := of_decide_eq_false hc2
      refine Wc.skip ?_
      refine Wx.blk_n ?_
      refine Wx.then_n ?_
      refine Wc.region ?_
      refine Wl.val rfl (V.addk rfl rfl (wr64 (by omega) (by omega))) ?_
      refine Wl.val rfl (V.move rfl) ?_
      refine Wl.nil ?_
      have hst : acc ++ allGo C.entries (k + 1) (nb - (k + 1)) = cAll C := by
        rw [← h3, hgo]
        cases hf : afind C.entries (k : Int) with
        | none => rfl
        | some e => rw [hf] at hc2; cases hc2
      refine Wx.again (k + 1, acc, av) (by exact (by show nb - (k + 1) < nb - k; omega)) (by exact (by exact Ent.puC ⟨by omega, by dsimp only; omega, hst⟩)) (by repeat (first | exact trivial | refine ⟨rfl, ?_⟩))
  · skip
    try replace hc1 := of_decide_eq_false hc1
    refine Wc.exit ?_
    refine Wx.then_x ?_
    refine Wx.then_x ?_
    refine Wx.blk_x ?_
    refine Wx.then_n ?_
    refine Wc.seq ?_
    refine Wc.region ?_
    refine Wl.val rfl (V.move rfl) ?_
    refine Wl.val rfl (V.assign rfl) ?_
    refine Wl.nil ?_
    refine Wx.then_n ?_
    refine Wc.ret ?_
    repeat (first | refine Wx.then_r ?_ | refine Wx.blk_r ?_ | refine Wx.ng_r ?_)
    refine Wx.ret1 rfl rfl rfl ?_
    have hk : nb - k = 0 := by (have hc1 : ¬ (k : Int) < C.blocks := hc1); omega
    rw [hk] at h3
    have h3 : acc = cAll C := by simpa [allGo] using h3
    subst h3
    refine Ent.trans (Ent.trans ?_ ((Cache.intro cc lp me mp d C).framel _ |>.frame F)) (Ent.refl _)
    exact Ent.auto
theorem s_cache_Cache_add (cc d : Nat) {D : DevM} {C : CacheM} (hC : CacheOk D C) (w : What) (k : Kept) (hw : whatOk C.blocks w) (hk : keptOk k) : Ctr P f_cache_Cache_add [ptr cc, whatV w, .agg (keptV k).toArray] (Cache cc d C * Dev d D) (fun v => pu (v = i64 (cAdd D C w k).2.2) * (Cache cc d (cAdd D C w k).2.1 * Dev d (cAdd D C w k).1)) := by
  have hnI := whatNs_ok hC hw hk
  have hlh := hC.log.head
  have hlh' := hC.log.head'
  have hli := hC.log.items'
  refine Ctr.of_body (m := 32) fn_cache_Cache_add rfl rfl rfl rfl rfl (fun F g => ?_)
  refine Wc.assoc (Wc.cache (fun lp me mp => ?_))
  refine Wc.seq ?_
  refine Wc.region ?_
  refine Wl.al rfl (M.box (l := keptV k) rfl rfl) (fun r5 => ?_)
  refine Wl.val rfl (V.assign rfl) ?_
  refine Wl.nil ?_
  refine Wx.then_n ?_
  refine Wc.seq ?_
  refine Wc.region ?_
  refine Wl.val rfl (V.move rfl) ?_
  refine Wl.val rfl (V.ldA (vs := keptV k) rfl C_cache_kept rfl) ?_
  refine Wl.val rfl (V.build (l := [whatV w, i64 k.last.ep, i64 k.last.sq, i64 k.t.a, i64 k.t.b, i64 k.t.c, i64 k.t.d]) B_cache_record rfl (by simp only [cellParts, whatV_cells]; rfl)) ?_
  refine Wl.al rfl (M.alloc N_cache_record) (fun r7 => ?_)
  refine Wl.st (Go.Sl.S.putA (vs := [whatV w, i64 k.last.ep, i64 k.last.sq, i64 k.t.a, i64 k.t.b, i64 k.t.c, i64 k.t.d]) rfl rfl C_cache_record (by simp only [oneCells, whatV_one]; rfl) rfl rfl rfl) ?_
  refine Wl.nil ?_
  refine Wx.then_n ?_
  refine Wc.seq ?_
  refine Wc.region ?_
  refine Wl.val rfl (V.move rfl) ?_
  refine Wl.val rfl (V.nil rfl) ?_
  refine Wl.val rfl (V.fld _ rfl O_cache_Cache_0 rfl) ?_
  refine Wl.val rfl (V.ld rfl C_Plog_Log rfl) ?_
  first | refine Wl.callE rfl rfl (s_log_Log_TailL lp d C.log (by omega) hli) ?_ | refine Wl.callD rfl rfl (s_log_Log_TailL lp d C.log (by omega) hli) (by first | exact Take.here | exact Take.there Take.here | exact Take.there (Take.there Take.here) | exact Take.there (Take.there (Take.there Take.here)) | exact Take.none _ | exact TakeC.t | exact Take.there (Take.there (Take.there (Take.there Take.here))) | exact Take.there (Take.there (Take.there (Take.there (Take.there Take.here)))) | exact Take.there (Take.there (Take.there (Take.there (Take.there (Take.there Take.here)))))) ?_
  refine Wl.val rfl (V.assign rfl) ?_
  refine Wl.nil ?_
  refine Wx.then_n ?_
  refine Wc.seq ?_
  refine Wc.draws 6 mixed (by kernel_rfl) (S := _) (M := emp) (Ent.empR _) ?_
  refine Wr.take [0, 1, 2, 3, 4, 5] 0 (by kernel_rfl) (by kernel_rfl) rfl rfl ?_
  refine Wt.val rfl (V.move rfl) ?_
  refine Wt.val rfl (V.nil rfl) ?_
  refine Wt.val rfl (V.fld _ rfl O_cache_Cache_0 rfl) ?_
  refine Wt.val rfl (V.ld rfl C_Plog_Log rfl) ?_
  refine Wt.val rfl (V.ldA (vs := [whatV w, i64 k.last.ep, i64 k.last.sq, i64 k.t.a, i64 k.t.b, i64 k.t.c, i64 k.t.d]) rfl C_cache_record rfl) ?_
  refine Wt.call rfl rfl (s_cache_bytes w k hnI) (Take.none _) ?_
  refine Wt.nil ?_
  refine Wr.tail (by kernel_rfl) rfl ?_
  try refine Wl.ent (Ent.unemp _) ?_
  first | refine Wl.callE rfl rfl (s_log_Log_Append lp d hC.log (cBytes w k)) ?_ | refine Wl.callD rfl rfl (s_log_Log_Append lp d hC.log (cBytes w k)) (by first | exact Take.here | exact Take.there Take.here | exact Take.there (Take.there Take.here) | exact Take.there (Take.there (Take.there Take.here)) | exact Take.none _ | exact TakeC.t | exact Take.there (Take.there (Take.there (Take.there Take.here))) | exact Take.there (Take.there (Take.there (Take.there (Take.there Take.here)))) | exact Take.there (Take.there (Take.there (Take.there (Take.there (Take.there Take.here)))))) ?_
  generalize hq : logAppend D C.log (cBytes w k) = q
  obtain ⟨D', L', e'⟩ := q
  have hca : cAdd D C w k = if e' = 0 then (D', cDoes { C with log := L' } w k (logTail C.log), 0) else (D', { C with log := L' }, e') := by unfold cAdd; rw [hq]
  dsimp only
  refine Wl.val rfl (V.assign rfl) ?_
  refine Wl.nil ?_
  refine Wx.then_n ?_
  refine Wc.seq ?_
  refine Wc.seq ?_
  refine Wc.region ?_
  refine Wl.val rfl (V.move rfl) ?_
  refine Wl.val rfl (V.eql rfl rfl) ?_
  refine Wl.nil ?_
  refine Wx.then_n ?_
  refine Wc.cond rfl (fun hc1 => ?_) (fun hc1 => ?_)
  · skip
    try replace hc1 := of_decide_eq_true hc1
    refine Wc.region ?_
    refine Wl.val rfl (V.move rfl) ?_
    refine Wl.val rfl (V.ldA (vs := [whatV w, i64 k.last.ep, i64 k.last.sq, i64 k.t.a, i64 k.t.b, i64 k.t.c, i64 k.t.d]) rfl C_cache_record rfl) ?_
    refine Wl.val rfl (V.move rfl) ?_
    refine Wl.ent (H' := Cache cc d { C with log := L' } * (Dev d D' * F)) (Ent.cache (lp := lp) (me := me) (mp := mp)) ?_
    refine Wl.callD rfl rfl (s_cache_Cache_does cc d { C with log := L' } w k (logTail C.log)) Take.here ?_
    refine Wl.nil ?_
    refine Wx.then_n ?_
    refine Wc.seq ?_
    refine Wc.region ?_
    refine Wl.val rfl (V.move rfl) ?_
    refine Wl.val rfl (V.assign rfl) ?_
    refine Wl.nil ?_
    refine Wx.then_n ?_
    refine Wc.ret ?_
    repeat (first | refine Wx.then_r ?_ | refine Wx.blk_r ?_ | refine Wx.ng_r ?_)
    refine Wx.ret1 rfl rfl rfl ?_
    rw [hca, if_pos hc1, show e' = 0 from hc1]
    exact Ent.resC rfl
  · skip
    try replace hc1 := of_decide_eq_false hc1
    refine Wc.skip ?_
    refine Wx.then_n ?_
    refine Wc.seq ?_
    refine Wc.region ?_
    refine Wl.val rfl (V.move rfl) ?_
    refine Wl.val rfl (V.assign rfl) ?_
    refine Wl.nil ?_
    refine Wx.then_n ?_
    refine Wc.ret ?_
    repeat (first | refine Wx.then_r ?_ | refine Wx.blk_r ?_ | refine Wx.ng_r ?_)
    refine Wx.ret1 rfl rfl rfl ?_
    rw [hca, if_neg hc1]
    exact Ent.cacheP (lp := lp) (me := me) (mp := mp) rfl
theorem s_cache_Cache_needed (cc d : Nat) {D : DevM} {C : CacheM} (hC : CacheOk D C) : Ctr P f_cache_Cache_needed [ptr cc] (Cache cc d C) (fun v => pu (v = .tuple #[etyA ((cNeeded C).getD ety0), .bool (cNeeded C).isSome]) * Cache cc d C) := by
  refine Ctr.of_body (m := 30) fn_cache_Cache_needed rfl rfl rfl rfl rfl (fun F g => ?_)
  refine Wc.cache (fun lp me mp => ?_)
  refine Wc.seq ?_
  refine Wc.region ?_
  refine Wl.al rfl (M.alloc N_api_Entry) (fun r2 => ?_)
  refine Wl.val rfl (V.assign rfl) ?_
  refine Wl.nil ?_
  refine Wx.then_n ?_
  refine Wc.seq ?_
  refine Wc.seq ?_
  refine Wc.region ?_
  refine Wl.val rfl (V.move rfl) ?_
  refine Wl.val rfl (V.nil rfl) ?_
  refine Wl.val rfl (V.fld _ rfl O_cache_Cache_4 rfl) ?_
  refine Wl.val rfl (V.ld rfl C_Mint_int64 rfl) ?_
  refine Wl.al rfl (M.range (l := amap i64 C.puts) rfl U_Mint_int64 TakeC.t) (fun r10 => ?_)
  refine Wl.nil ?_
  refine Wx.then_n ?_
  refine Wc.block ?_
  refine Wc.loop (α := List (Int × Value) × Option (Int × Value)) (fun x => x.1.length) (fun x => pu ((∀ p ∈ C.puts, p.2 = C.log.head → (p.1, i64 p.2) ∈ x.1) ∧ ∀ q ∈ x.1, q ∈ amap i64 C.puts) * (rng mp r10 (amap i64 C.puts) x.1 x.2 * (row r2 T_api_Entry [i64 0, i64 0, i64 0, .string ⟨#[]⟩, .bool false, i64 0, i64 0] * (CacheR cc lp me mp C * (Log lp d C.log * (mapI me (amap etyA C.entries) * F)))))) (fun x => [(0, ptr cc), (2, ptr r2), (10, ptr r10)]) (amap i64 C.puts, none) (by exact (by exact Ent.puC ⟨fun p hp _ => List.mem_map.2 ⟨p, hp, rfl⟩, fun q hq => hq⟩)) (by repeat (first | exact trivial | refine ⟨rfl, ?_⟩)) (fun x => ?_)
  obtain ⟨left, cur⟩ := x
  refine Wc.pu (fun hI => ?_)
  obtain ⟨hI, hJ⟩ := hI
  dsimp only at hI hJ
  refine Wc.seq ?_
  refine Wc.region ?_
  refine Wl.next rfl rfl rfl (by first | exact Take.here | exact Take.there Take.here | exact Take.there (Take.there Take.here) | exact Take.there (Take.there (Take.there Take.here)) | exact Take.none _ | exact TakeC.t | exact Take.there (Take.there (Take.there (Take.there Take.here))) | exact Take.there (Take.there (Take.there (Take.there (Take.there Take.here)))) | exact Take.there (Take.there (Take.there (Take.there (Take.there (Take.there Take.here)))))) (fun v11 => ?_)
  refine Wl.nil ?_
  refine Wx.then_n ?_
  refine Wc.seq ?_
  refine Wc.cond rfl (fun hc1 => ?_) (fun hc1 => ?_)
  · skip
    try replace hc1 := of_decide_eq_true hc1
    have hne : left ≠ [] := by rintro rfl; cases hc1
    rw [nextHP_cons hne]
    refine Wc.exm (fun y => ?_)
    refine Wc.pull (fun hy => ?_)
    obtain ⟨a, p, b⟩ := y
    dsimp only at hy
    subst hy
    obtain ⟨⟨kb, kn⟩, hkp, rfl⟩ := List.mem_map.1 (hJ p (by simp))
    dsimp only
    refine Wc.skip ?_
    refine Wx.then_n ?_
    refine Wc.block ?_
    refine Wc.seq ?_
    refine Wc.region ?_
    refine Wl.val rfl (V.entry rfl (by first | exact Take.here | exact Take.there Take.here | exact Take.there (Take.there Take.here) | exact Take.there (Take.there (Take.there Take.here)) | exact Take.none _ | exact TakeC.t | exact Take.there (Take.there (Take.there (Take.there Take.here))) | exact Take.there (Take.there (Take.there (Take.there (Take.there Take.here)))) | exact Take.there (Take.there (Take.there (Take.there (Take.there (Take.there Take.here))))))) ?_
    refine Wl.val rfl (V.ext rfl rfl) ?_
    refine Wl.val rfl (V.ext rfl rfl) ?_
    refine Wl.val rfl (V.assign rfl) ?_
    refine Wl.val rfl (V.assign rfl) ?_
    refine Wl.nil ?_
    refine Wx.then_n ?_
    refine Wc.seq ?_
    refine Wc.region ?_
    refine Wl.val rfl (V.move rfl) ?_
    refine Wl.val rfl (V.move rfl) ?_
    refine Wl.val rfl (V.nil rfl) ?_
    refine Wl.val rfl (V.fld _ rfl O_cache_Cache_0 rfl) ?_
    refine Wl.val rfl (V.ld rfl C_Plog_Log rfl) ?_
    first | refine Wl.callE rfl rfl (s_log_Log_HeadL lp d C.log) ?_ | refine Wl.callD rfl rfl (s_log_Log_HeadL lp d C.log) (by first | exact Take.here | exact Take.there Take.here | exact Take.there (Take.there Take.here) | exact Take.there (Take.there (Take.there Take.here)) | exact Take.none _ | exact TakeC.t | exact Take.there (Take.there (Take.there (Take.there Take.here))) | exact Take.there (Take.there (Take.there (Take.there (Take.there Take.here)))) | exact Take.there (Take.there (Take.there (Take.there (Take.there (Take.there Take.here)))))) ?_
    refine Wl.val rfl (V.eql rfl rfl) ?_
    refine Wl.nil ?_
    refine Wx.then_n ?_
    refine Wc.cond rfl (fun hc2 => ?_) (fun hc2 => ?_)
    · skip
      try replace hc2 := of_decide_eq_true hc2
      refine Wc.seq ?_
      refine Wc.region ?_
      refine Wl.val rfl (V.move rfl) ?_
      refine Wl.val rfl (V.nil rfl) ?_
      refine Wl.val rfl (V.fld _ rfl O_cache_Cache_3 rfl) ?_
      refine Wl.val rfl (V.ld rfl C_Mint_api_Entry rfl) ?_
      refine Wl.val rfl (V.move rfl) ?_
      refine Wl.val rfl (V.lookE1 (l := amap etyA C.entries) (v := etyA ((afind C.entries kb).getD ety0)) rfl rfl K_Mint_api_Entry V0_api_Entry TakeC.t (by rw [kfind_amap]; cases afind C.entries kb <;> rfl)) ?_
      refine Wl.st (Go.Sl.S.putA (vs := etyV ((afind C.entries kb).getD ety0)) rfl rfl C_api_Entry rfl rfl rfl rfl) ?_
      refine Wl.val rfl (V.assign rfl) ?_
      refine Wl.nil ?_
      refine Wx.then_n ?_
      refine Wc.ret ?_
      repeat (first | refine Wx.then_r ?_ | refine Wx.blk_r ?_ | refine Wx.ng_r ?_)
      refine Wx.rv2 rfl rfl (RV.cellA rfl C_api_Entry rfl) (RV.tmp rfl) ?_
      have hn : cNeeded C = some ((afind C.entries kb).getD ety0) := cNeeded_is hC hkp hc2
      rw [hn]
      refine Ent.res rfl ?_
      refine Ent.trans ?_ ((Cache.intro cc lp me mp d C).frame F)
      refine Ent.trans (Ent.auto (G := rng mp r10 (amap i64 C.puts) (a ++ b) (some (kb, i64 kn)) * (CacheR cc lp me mp C * (Log lp d C.log * (mapI me (amap etyA C.entries) * F))))) ?_
      refine Ent.trans (Ent.rng_map _ _ _ _ _ _) ?_
      exact Ent.auto
    · skip
      try replace hc2 := of_decide_eq_false hc2
      refine Wc.skip ?_
      refine Wx.blk_n ?_
      have hI2 : ∀ p ∈ C.puts, p.2 = C.log.head → (p.1, i64 p.2) ∈ a ++ b := by
        intro p hp hph
        have h1 := hI p hp hph
        rw [List.mem_append, List.mem_cons] at h1
        rcases h1 with h1 | h1 | h1
        · exact List.mem_append.2 (.inl h1)
        · injection h1 with h2 h3; injection h3 with h4 h5
          exact absurd (h5.symm.trans hph) hc2
        · exact List.mem_append.2 (.inr h1)
      have hJ2 : ∀ q ∈ a ++ b, q ∈ amap i64 C.puts := by
        intro q hq
        refine hJ q ?_
        rcases List.mem_append.1 hq with h | h
        · exact List.mem_append.2 (.inl h)
        · exact List.mem_append.2 (.inr (by simp [h]))
      refine Wx.again (a ++ b, some (kb, i64 kn)) (by exact (by show (a ++ b).length < (a ++ (kb, i64 kn) :: b).length; simp)) (by exact Ent.puC ⟨hI2, hJ2⟩) (by repeat (first | exact trivial | refine ⟨rfl, ?_⟩))
  · skip
    try replace hc1 := of_decide_eq_false hc1
    obtain rfl : left = [] := by cases left with
      | nil => rfl
      | cons => cases hc1
    rw [nextHP_nil]
    have hn0 : cNeeded C = none := cNeeded_none fun p hp hph => by cases hI p hp hph
    refine Wc.exit ?_
    refine Wx.then_x ?_
    refine Wx.then_x ?_
    refine Wx.blk_x ?_
    refine Wx.then_n ?_
    refine Wc.seq ?_
    refine Wc.region ?_
    refine Wl.val rfl (V.build B_api_Entry rfl rfl) ?_
    refine Wl.st (Go.Sl.S.putA (vs := [i64 0, i64 0, i64 0, .string ⟨#[]⟩, .bool false, i64 0, i64 0]) rfl rfl C_api_Entry rfl rfl rfl rfl) ?_
    refine Wl.val rfl (V.assign rfl) ?_
    refine Wl.nil ?_
    refine Wx.then_n ?_
    refine Wc.ret ?_
    repeat (first | refine Wx.then_r ?_ | refine Wx.blk_r ?_ | refine Wx.ng_r ?_)
    refine Wx.rv2 rfl rfl (RV.cellA rfl C_api_Entry rfl) (RV.tmp rfl) ?_
    rw [hn0]
    refine Ent.res rfl ?_
    refine Ent.trans ?_ ((Cache.intro cc lp me mp d C).frame F)
    refine Ent.trans (Ent.auto (G := rng mp r10 (amap i64 C.puts) [] cur * (CacheR cc lp me mp C * (Log lp d C.log * (mapI me (amap etyA C.entries) * F))))) ?_
    refine Ent.trans (Ent.rng_map _ _ _ _ _ _) ?_
    exact Ent.auto
end Go.Proofs.YtjfacgmobpbhcaaGreat
/- The walks: caches, 6. -/
namespace Go.Proofs.YtjfacgmobpbhcaaGreat
open Go.Sl Sei
theorem s_cache_Cache_make (cc d : Nat) {D : DevM} {C : CacheM} (hC : CacheOk D C) : Ctr P f_cache_Cache_make [ptr cc] (Cache cc d C * Dev d D) (fun v => pu (v = i64 (cMake D C).2.2) * (Cache cc d (cMake D C).2.1 * Dev d (cMake D C).1)) := by
  have hn512 := hC.log.n'
  have hcn := hC.n
  obtain ⟨nn, hnn⟩ : ∃ nn : Nat, C.n = (nn : Int) := ⟨C.log.n, hcn⟩
  have hnt : C.n.toNat = nn := by omega
  refine Ctr.of_body (m := 64) fn_cache_Cache_make rfl rfl rfl rfl rfl (fun F g => ?_)
  refine Wc.assoc ?_
  refine Wc.seq ?_
  refine Wc.region ?_
  refine Wl.val rfl (V.assign rfl) ?_
  refine Wl.nil ?_
  refine Wx.then_n ?_
  refine Wc.seq ?_
  refine Wc.seq ?_
  refine Wc.region ?_
  refine Wl.val rfl (V.assign rfl) ?_
  refine Wl.nil ?_
  refine Wx.then_n ?_
  refine Wc.block ?_
  refine Wc.loop (α := Nat × DevM × CacheM) (fun x => nn - x.1) (fun x => pu (x.1 ≤ nn ∧ cMakeGo (nn - x.1) x.2.1 x.2.2 = cMakeGo nn D C ∧ CacheOk x.2.1 x.2.2 ∧ x.2.2.n = C.n) * (Cache cc d x.2.2 * (Dev d x.2.1 * F))) (fun x => [(0, ptr cc), (3, i64 (x.1 : Nat))]) (0, D, C) (by exact (by exact Ent.pure ⟨Nat.zero_le _, rfl, hC, rfl⟩)) (by repeat (first | exact trivial | refine ⟨rfl, ?_⟩)) (fun x => ?_)
  obtain ⟨i, D', C'⟩ := x
  refine Wc.pu (fun hI => ?_)
  obtain ⟨h1, h2, hC', h4⟩ := hI
  dsimp only at h1 h2 hC' h4
  refine Wc.cache (fun lp me mp => ?_)
  have hlh := hC'.log.head
  have hlh' := hC'.log.head'
  have hli := hC'.log.items'
  have hln := hC'.log.n'
  refine Wc.seq ?_
  refine Wc.seq ?_
  refine Wc.region ?_
  refine Wl.val rfl (V.move rfl) ?_
  refine Wl.val rfl (V.move rfl) ?_
  refine Wl.val rfl (V.nil rfl) ?_
  refine Wl.val rfl (V.fld _ rfl O_cache_Cache_2 rfl) ?_
  refine Wl.val rfl (V.ld rfl C_int rfl) ?_
  refine Wl.val rfl (V.lss rfl rfl) ?_
  refine Wl.val rfl (V.move rfl) ?_
  refine Wl.bool 15 rfl (fun hb15 => ?_) (fun hb15 => ?_)
  · -- t15 is True
    try replace hb15 := of_decide_eq_true hb15
    refine Wl.gT rfl rfl ?_
    refine Wl.val rfl (V.move rfl) ?_
    refine Wl.gT rfl rfl ?_
    refine Wl.val rfl (V.nil rfl) ?_
    refine Wl.gT rfl rfl ?_
    refine Wl.val rfl (V.fld _ rfl O_cache_Cache_0 rfl) ?_
    refine Wl.gT rfl rfl ?_
    refine Wl.val rfl (V.ld rfl C_Plog_Log rfl) ?_
    refine Wl.gT rfl rfl ?_
    first | refine Wl.callE rfl rfl (s_log_Log_FreeL lp d C'.log (by omega) hli) ?_ | refine Wl.callD rfl rfl (s_log_Log_FreeL lp d C'.log (by omega) hli) (by first | exact Take.here | exact Take.there Take.here | exact Take.there (Take.there Take.here) | exact Take.there (Take.there (Take.there Take.here)) | exact Take.none _ | exact TakeC.t | exact Take.there (Take.there (Take.there (Take.there Take.here))) | exact Take.there (Take.there (Take.there (Take.there (Take.there Take.here)))) | exact Take.there (Take.there (Take.there (Take.there (Take.there (Take.there Take.here)))))) ?_
    refine Wl.gT rfl rfl ?_
    refine Wl.val rfl (V.lss rfl rfl) ?_
    refine Wl.val rfl (V.pickT rfl rfl) ?_
    refine Wl.nil ?_
    refine Wx.then_n ?_
    refine Wc.cond rfl (fun hc1 => ?_) (fun hc1 => ?_)
    · skip
      try replace hc1 := of_decide_eq_true hc1
      have hlt : i < nn := by (have hb15 : (i : Int) < C'.n := hb15); omega
      have hfr : logFree C'.log < 4 := hc1
      rw [show nn - i = (nn - (i + 1)) + 1 by omega] at h2
      refine Wc.skip ?_
      refine Wx.then_n ?_
      refine Wc.seq ?_
      refine Wc.block ?_
      refine Wc.seq ?_
      refine Wc.region ?_
      refine Wl.val rfl (V.move rfl) ?_
      refine Wl.val rfl (V.nil rfl) ?_
      refine Wl.val rfl (V.fld _ rfl O_cache_Cache_0 rfl) ?_
      refine Wl.val rfl (V.ld rfl C_Plog_Log rfl) ?_
      first | refine Wl.callE rfl rfl (s_log_Log_HeadL lp d C'.log) ?_ | refine Wl.callD rfl rfl (s_log_Log_HeadL lp d C'.log) (by first | exact Take.here | exact Take.there Take.here | exact Take.there (Take.there Take.here) | exact Take.there (Take.there (Take.there Take.here)) | exact Take.none _ | exact TakeC.t | exact Take.there (Take.there (Take.there (Take.there Take.here))) | exact Take.there (Take.there (Take.there (Take.there (Take.there Take.here)))) | exact Take.there (Take.there (Take.there (Take.there (Take.there (Take.there Take.here)))))) ?_
      refine Wl.val rfl (V.assign rfl) ?_
      refine Wl.nil ?_
      refine Wx.then_n ?_
      refine Wc.cut (pu ((cStep D' C').2.2 = 0) * (Cache cc d (cStep D' C').2.1 * (Dev d (cStep D' C').1 * F))) ([(0, ptr cc), (3, i64 (i : Nat)), (4, i64 C'.log.head)]) ?_ ?_
      · skip
        refine Wc.seq ?_
        refine Wc.region ?_
        refine Wl.val rfl (V.move rfl) ?_
        refine Wl.ent (H' := Cache cc d C' * (Dev d D' * F)) (Ent.cache (lp := lp) (me := me) (mp := mp)) ?_
        refine Wl.callD rfl rfl (s_cache_Cache_needed cc d hC') Take.here ?_
        refine Wl.val rfl (V.move rfl) ?_
        refine Wl.val rfl (V.ext rfl rfl) ?_
        refine Wl.val rfl (V.ext rfl rfl) ?_
        refine Wl.al rfl (M.alloc N_api_Entry) (fun r5 => ?_)
        refine Wl.st (Go.Sl.S.putA rfl rfl C_api_Entry rfl rfl rfl rfl) ?_
        refine Wl.val rfl (V.assign rfl) ?_
        refine Wl.nil ?_
        refine Wx.then_n ?_
        refine Wc.seq ?_
        refine Wc.region ?_
        refine Wl.val rfl (V.move rfl) ?_
        refine Wl.nil ?_
        refine Wx.then_n ?_
        refine Wc.cond rfl (fun hc2 => ?_) (fun hc2 => ?_)
        · skip
          try replace hc2 := of_decide_eq_true hc2
          obtain ⟨x, hx⟩ := Option.isSome_iff_exists.1 hc2
          have hcs : cStep D' C' = cAdd D' C' (.put x) C'.kept := by unfold cStep; rw [hx]
          obtain ⟨hxo, _⟩ := cNeeded_ok hC' hx
          rw [hx]
          simp only [Option.getD_some]
          refine Wc.ent (H' := Cache cc d C' * (row r5 T_api_Entry (etyV x) * (Dev d D' * F))) Ent.auto (Wc.cache (fun lp me mp => ?_))
          refine Wc.seq ?_
          refine Wc.draws 8 mixed (by kernel_rfl) (S := _) (M := emp) (Ent.empR _) ?_
          refine Wr.take [0, 1, 2, 3, 4, 5, 6, 7] 0 (by kernel_rfl) (by kernel_rfl) rfl rfl ?_
          refine Wt.val rfl (V.move rfl) ?_
          refine Wt.val rfl (V.ldA (vs := etyV x) rfl C_api_Entry rfl) ?_
          refine Wt.val rfl (V.build B_cache_put rfl rfl) ?_
          refine Wt.val rfl (V.mkIface rfl I_cache_put) ?_
          refine Wt.val rfl (V.move rfl) ?_
          refine Wt.val rfl (V.nil rfl) ?_
          refine Wt.val rfl (V.fld _ rfl O_cache_Cache_5 rfl) ?_
          refine Wt.val rfl (V.ldA (vs := keptV C'.kept) rfl C_cache_kept rfl) ?_
          refine Wt.nil ?_
          refine Wr.tail (by kernel_rfl) rfl ?_
          refine Wl.ent (H' := Cache cc d C' * (Dev d D' * F)) (Ent.cache (lp := lp) (me := me) (mp := mp)) ?_
          first | refine Wl.callE rfl rfl (s_cache_Cache_add cc d hC' (.put x) C'.kept hxo hC'.kept) ?_ | refine Wl.callD rfl rfl (s_cache_Cache_add cc d hC' (.put x) C'.kept hxo hC'.kept) (Take.two Take.here Take.here) ?_
          refine Wl.val rfl (V.assign rfl) ?_
          refine Wl.nil ?_
          refine Wx.then_n ?_
          refine Wc.seq ?_
          refine Wc.region ?_
          refine Wl.val rfl (V.move rfl) ?_
          refine Wl.val rfl (V.neq rfl rfl) ?_
          refine Wl.nil ?_
          refine Wx.then_n ?_
          refine Wc.cond rfl (fun hc3 => ?_) (fun hc3 => ?_)
          · skip
            try replace hc3 := of_decide_eq_true hc3
            refine Wc.seq ?_
            refine Wc.region ?_
            refine Wl.val rfl (V.move rfl) ?_
            refine Wl.val rfl (V.assign rfl) ?_
            refine Wl.nil ?_
            refine Wx.then_n ?_
            refine Wc.ret ?_
            repeat (first | refine Wx.then_r ?_ | refine Wx.blk_r ?_ | refine Wx.ng_r ?_)
            refine Wx.ret1 rfl rfl rfl ?_
            have he : (cAdd D' C' (.put x) C'.kept).2.2 ≠ 0 := by simpa using hc3
            rw [cMakeGo_fail hfr (by rw [hcs]; exact he), hcs] at h2
            generalize cAdd D' C' (.put x) C'.kept = q at *
            obtain ⟨D2, C2, e2⟩ := q
            rw [cMake_err (by rw [hnt]; exact h2.symm) he]
            exact Ent.resC rfl
          · skip
            try replace hc3 := of_decide_eq_false hc3
            refine Wc.skip ?_
            rw [hcs]
            exact Wx.cutn (Ent.puC (by simpa using hc3)) ⟨rfl, rfl, rfl, trivial⟩
        · skip
          try replace hc2 := of_decide_eq_false hc2
          refine Wc.skip ?_
          have hx : cNeeded C' = none := by simpa using hc2
          have hcs : cStep D' C' = (D', C', 0) := by unfold cStep; rw [hx]
          rw [hcs]
          exact Wx.cutn (Ent.puC rfl) ⟨rfl, rfl, rfl, trivial⟩
      · skip
        refine Wc.pu (fun hs0 => ?_)
        obtain ⟨hsC, hsn, hsb, hsh⟩ := hC'.step
        generalize hqs : cStep D' C' = qs at *
        obtain ⟨D2, C2, e2⟩ := qs
        have hs0 : e2 = 0 := hs0
        subst hs0
        dsimp only at hsC hsn hsb hsh
        refine Wc.cache (fun lp me mp => ?_)
        refine Wc.seq ?_
        refine Wc.region ?_
        refine Wl.val rfl (V.move rfl) ?_
        refine Wl.val rfl (V.nil rfl) ?_
        refine Wl.val rfl (V.fld _ rfl O_cache_Cache_0 rfl) ?_
        refine Wl.val rfl (V.ld rfl C_Plog_Log rfl) ?_
        refine Wl.val rfl (V.move rfl) ?_
        refine Wl.val rfl (V.addk rfl rfl (wr64 (by omega) (by omega))) ?_
        first | refine Wl.callE rfl rfl (s_log_Log_Trim lp d hsC.log (C'.log.head + 1) (by unfold I64; omega)) ?_ | refine Wl.callD rfl rfl (s_log_Log_Trim lp d hsC.log (C'.log.head + 1) (by unfold I64; omega)) (by first | exact Take.here | exact Take.there Take.here | exact Take.there (Take.there Take.here) | exact Take.there (Take.there (Take.there Take.here)) | exact Take.none _ | exact TakeC.t | exact Take.there (Take.there (Take.there (Take.there Take.here))) | exact Take.there (Take.there (Take.there (Take.there (Take.there Take.here)))) | exact Take.there (Take.there (Take.there (Take.there (Take.there (Take.there Take.here)))))) ?_
        generalize hqt : logTrim D2 C2.log (C'.log.head + 1) = qt
        have htok := hsC.trim (C'.log.head + 1)
        rw [hqt] at htok
        obtain ⟨D3, L3, e3⟩ := qt
        rw [cMakeGo_go hfr hqs hqt] at h2
        dsimp only at htok ⊢
        refine Wl.val rfl (V.assign rfl) ?_
        refine Wl.nil ?_
        refine Wx.then_n ?_
        refine Wc.seq ?_
        refine Wc.region ?_
        refine Wl.val rfl (V.move rfl) ?_
        refine Wl.val rfl (V.neq rfl rfl) ?_
        refine Wl.nil ?_
        refine Wx.then_n ?_
        refine Wc.cond rfl (fun hc4 => ?_) (fun hc4 => ?_)
        · skip
          try replace hc4 := of_decide_eq_true hc4
          refine Wc.seq ?_
          refine Wc.region ?_
          refine Wl.val rfl (V.move rfl) ?_
          refine Wl.val rfl (V.assign rfl) ?_
          refine Wl.nil ?_
          refine Wx.then_n ?_
          refine Wc.ret ?_
          repeat (first | refine Wx.then_r ?_ | refine Wx.blk_r ?_ | refine Wx.ng_r ?_)
          refine Wx.ret1 rfl rfl rfl ?_
          have he : e3 ≠ 0 := by simpa using hc4
          rw [if_pos he] at h2
          rw [cMake_err (by rw [hnt]; exact h2.symm) he]
          exact Ent.cacheP (lp := lp) (me := me) (mp := mp) rfl
        · skip
          try replace hc4 := of_decide_eq_false hc4
          refine Wc.skip ?_
          refine Wx.blk_n ?_
          refine Wx.then_n ?_
          refine Wc.region ?_
          refine Wl.val rfl (V.move rfl) ?_
          refine Wl.val rfl (V.addk rfl rfl (wr64 (by omega) (by omega))) ?_
          refine Wl.val rfl (V.assign rfl) ?_
          refine Wl.nil ?_
          rw [if_neg (by simpa using hc4)] at h2
          refine Wx.again (i + 1, D3, { C2 with log := L3 }) (by exact (by show nn - (i + 1) < nn - i; omega)) (by exact (by refine Ent.trans ?_ (Ent.pure ⟨by dsimp only; omega, h2, htok, by dsimp only; omega⟩); exact Ent.cache (lp := lp) (me := me) (mp := mp))) (by repeat (first | exact trivial | refine ⟨rfl, ?_⟩))
    · skip
      try replace hc1 := of_decide_eq_false hc1
      refine Wc.exit ?_
      refine Wx.then_x ?_
      refine Wx.then_x ?_
      refine Wx.blk_x ?_
      refine Wx.then_n ?_
      refine Wc.seq ?_
      refine Wc.seq ?_
      refine Wc.region ?_
      refine Wl.val rfl (V.move rfl) ?_
      refine Wl.val rfl (V.nil rfl) ?_
      refine Wl.val rfl (V.fld _ rfl O_cache_Cache_0 rfl) ?_
      refine Wl.val rfl (V.ld rfl C_Plog_Log rfl) ?_
      first | refine Wl.callE rfl rfl (s_log_Log_FreeL lp d C'.log (by omega) hli) ?_ | refine Wl.callD rfl rfl (s_log_Log_FreeL lp d C'.log (by omega) hli) (by first | exact Take.here | exact Take.there Take.here | exact Take.there (Take.there Take.here) | exact Take.there (Take.there (Take.there Take.here)) | exact Take.none _ | exact TakeC.t | exact Take.there (Take.there (Take.there (Take.there Take.here))) | exact Take.there (Take.there (Take.there (Take.there (Take.there Take.here)))) | exact Take.there (Take.there (Take.there (Take.there (Take.there (Take.there Take.here)))))) ?_
      refine Wl.val rfl (V.lss rfl rfl) ?_
      refine Wl.nil ?_
      refine Wx.then_n ?_
      refine Wc.cond rfl (fun hc5 => ?_) (fun hc5 => ?_)
      · skip
        try replace hc5 := of_decide_eq_true hc5
        refine Wc.seq ?_
        refine Wc.region ?_
        refine Wl.val rfl (V.assign rfl) ?_
        refine Wl.nil ?_
        refine Wx.then_n ?_
        refine Wc.ret ?_
        repeat (first | refine Wx.then_r ?_ | refine Wx.blk_r ?_ | refine Wx.ng_r ?_)
        refine Wx.ret1 rfl rfl rfl ?_
        have hc1 : ¬ logFree C'.log < 4 := hc1
        rw [cMakeGo_end hc1] at h2
        rw [cMake_end (by rw [hnt]; exact h2.symm), if_pos (by assumption)]
        show Ent (Log lp d C'.log * (CacheR cc lp me mp C' * (mapI me (amap etyA C'.entries) * (mapI mp (amap i64 C'.puts) * (Dev d D' * F))))) _
        exact Ent.cacheP (lp := lp) (me := me) (mp := mp) rfl
      · skip
        try replace hc5 := of_decide_eq_false hc5
        refine Wc.skip ?_
        refine Wx.then_n ?_
        refine Wc.seq ?_
        refine Wc.region ?_
        refine Wl.val rfl (V.assign rfl) ?_
        refine Wl.nil ?_
        refine Wx.then_n ?_
        refine Wc.ret ?_
        repeat (first | refine Wx.then_r ?_ | refine Wx.blk_r ?_ | refine Wx.ng_r ?_)
        refine Wx.ret1 rfl rfl rfl ?_
        have hc1 : ¬ logFree C'.log < 4 := hc1
        rw [cMakeGo_end hc1] at h2
        rw [cMake_end (by rw [hnt]; exact h2.symm), if_neg (by assumption)]
        show Ent (Log lp d C'.log * (CacheR cc lp me mp C' * (mapI me (amap etyA C'.entries) * (mapI mp (amap i64 C'.puts) * (Dev d D' * F))))) _
        exact Ent.cacheP (lp := lp) (me := me) (mp := mp) rfl
  · -- t15 is False
    try replace hb15 := of_decide_eq_false hb15
    refine Wl.gF rfl rfl rfl ?_
    refine Wl.gF rfl rfl rfl ?_
    refine Wl.gF rfl rfl rfl ?_
    refine Wl.gF rfl rfl rfl ?_
    refine Wl.gF rfl rfl rfl ?_
    refine Wl.gF rfl rfl rfl ?_
    refine Wl.val rfl (V.pickF rfl rfl) ?_
    refine Wl.nil ?_
    refine Wx.then_n ?_
    refine Wc.condF rfl ?_
    refine Wc.exit ?_
    refine Wx.then_x ?_
    refine Wx.then_x ?_
    refine Wx.blk_x ?_
    refine Wx.then_n ?_
    refine Wc.seq ?_
    refine Wc.seq ?_
    refine Wc.region ?_
    refine Wl.val rfl (V.move rfl) ?_
    refine Wl.val rfl (V.nil rfl) ?_
    refine Wl.val rfl (V.fld _ rfl O_cache_Cache_0 rfl) ?_
    refine Wl.val rfl (V.ld rfl C_Plog_Log rfl) ?_
    first | refine Wl.callE rfl rfl (s_log_Log_FreeL lp d C'.log (by omega) hli) ?_ | refine Wl.callD rfl rfl (s_log_Log_FreeL lp d C'.log (by omega) hli) (by first | exact Take.here | exact Take.there Take.here | exact Take.there (Take.there Take.here) | exact Take.there (Take.there (Take.there Take.here)) | exact Take.none _ | exact TakeC.t | exact Take.there (Take.there (Take.there (Take.there Take.here))) | exact Take.there (Take.there (Take.there (Take.there (Take.there Take.here)))) | exact Take.there (Take.there (Take.there (Take.there (Take.there (Take.there Take.here)))))) ?_
    refine Wl.val rfl (V.lss rfl rfl) ?_
    refine Wl.nil ?_
    refine Wx.then_n ?_
    refine Wc.cond rfl (fun hc6 => ?_) (fun hc6 => ?_)
    · skip
      try replace hc6 := of_decide_eq_true hc6
      refine Wc.seq ?_
      refine Wc.region ?_
      refine Wl.val rfl (V.assign rfl) ?_
      refine Wl.nil ?_
      refine Wx.then_n ?_
      refine Wc.ret ?_
      repeat (first | refine Wx.then_r ?_ | refine Wx.blk_r ?_ | refine Wx.ng_r ?_)
      refine Wx.ret1 rfl rfl rfl ?_
      have hz : nn - i = 0 := by (have hb15 : ¬ (i : Int) < C'.n := hb15); omega
      rw [hz] at h2
      have h2 : (D', C', 0) = cMakeGo nn D C := h2
      rw [cMake_end (by rw [hnt]; exact h2.symm), if_pos (by assumption)]
      show Ent (Log lp d C'.log * (CacheR cc lp me mp C' * (mapI me (amap etyA C'.entries) * (mapI mp (amap i64 C'.puts) * (Dev d D' * F))))) _
      exact Ent.cacheP (lp := lp) (me := me) (mp := mp) rfl
    · skip
      try replace hc6 := of_decide_eq_false hc6
      refine Wc.skip ?_
      refine Wx.then_n ?_
      refine Wc.seq ?_
      refine Wc.region ?_
      refine Wl.val rfl (V.assign rfl) ?_
      refine Wl.nil ?_
      refine Wx.then_n ?_
      refine Wc.ret ?_
      repeat (first | refine Wx.then_r ?_ | refine Wx.blk_r ?_ | refine Wx.ng_r ?_)
      refine Wx.ret1 rfl rfl rfl ?_
      have hz : nn - i = 0 := by (have hb15 : ¬ (i : Int) < C'.n := hb15); omega
      rw [hz] at h2
      have h2 : (D', C', 0) = cMakeGo nn D C := h2
      rw [cMake_end (by rw [hnt]; exact h2.symm), if_neg (by assumption)]
      show Ent (Log lp d C'.log * (CacheR cc lp me mp C' * (mapI me (amap etyA C'.entries) * (mapI mp (amap i64 C'.puts) * (Dev d D' * F))))) _
      exact Ent.cacheP (lp := lp) (me := me) (mp := mp) rfl
theorem s_cache_Cache_come (cc d : Nat) {D : DevM} {C : CacheM} (hC : CacheOk D C) (w : What) (k : Kept) (hw : whatOk C.blocks w) (hk : keptOk k) : Ctr P f_cache_Cache_come [ptr cc, whatV w, .agg (keptV k).toArray] (Cache cc d C * Dev d D) (fun v => pu (v = i64 (cCome D C w k).2.2) * (Cache cc d (cCome D C w k).2.1 * Dev d (cCome D C w k).1)) := by
  obtain ⟨hmC, hmn, hmb⟩ := hC.make
  have hcc : cCome D C w k = if (cMake D C).2.2 ≠ 0 then cMake D C else cAdd (cMake D C).1 (cMake D C).2.1 w k := rfl
  generalize hq : cMake D C = q at *
  obtain ⟨D2, C2, e2⟩ := q
  dsimp only at hmC hmb hcc
  refine Ctr.of_body (m := 17) fn_cache_Cache_come rfl rfl rfl rfl rfl (fun F g => ?_)
  refine Wc.assoc ?_
  refine Wc.seq ?_
  refine Wc.region ?_
  refine Wl.al rfl (M.box (l := keptV k) rfl rfl) (fun r5 => ?_)
  refine Wl.val rfl (V.assign rfl) ?_
  refine Wl.nil ?_
  refine Wx.then_n ?_
  refine Wc.seq ?_
  refine Wc.seq ?_
  refine Wc.region ?_
  refine Wl.val rfl (V.move rfl) ?_
  first | refine Wl.callE rfl rfl (s_cache_Cache_make cc d hC) ?_ | refine Wl.callD rfl rfl (s_cache_Cache_make cc d hC) (by first | exact Take.here | exact Take.there Take.here | exact Take.there (Take.there Take.here) | exact Take.there (Take.there (Take.there Take.here)) | exact Take.none _ | exact TakeC.t | exact Take.there (Take.there (Take.there (Take.there Take.here))) | exact Take.there (Take.there (Take.there (Take.there (Take.there Take.here)))) | exact Take.there (Take.there (Take.there (Take.there (Take.there (Take.there Take.here)))))) ?_
  rw [hq]
  dsimp only
  refine Wl.val rfl (V.assign rfl) ?_
  refine Wl.nil ?_
  refine Wx.then_n ?_
  refine Wc.seq ?_
  refine Wc.region ?_
  refine Wl.val rfl (V.move rfl) ?_
  refine Wl.val rfl (V.neq rfl rfl) ?_
  refine Wl.nil ?_
  refine Wx.then_n ?_
  refine Wc.cond rfl (fun hc1 => ?_) (fun hc1 => ?_)
  · skip
    try replace hc1 := of_decide_eq_true hc1
    refine Wc.seq ?_
    refine Wc.region ?_
    refine Wl.val rfl (V.move rfl) ?_
    refine Wl.val rfl (V.assign rfl) ?_
    refine Wl.nil ?_
    refine Wx.then_n ?_
    refine Wc.ret ?_
    repeat (first | refine Wx.then_r ?_ | refine Wx.blk_r ?_ | refine Wx.ng_r ?_)
    refine Wx.ret1 rfl rfl rfl ?_
    rw [hcc, if_pos (by simpa using hc1)]
    exact Ent.resC rfl
  · skip
    try replace hc1 := of_decide_eq_false hc1
    refine Wc.skip ?_
    refine Wx.then_n ?_
    refine Wc.seq ?_
    refine Wc.region ?_
    refine Wl.val rfl (V.move rfl) ?_
    refine Wl.val rfl (V.move rfl) ?_
    refine Wl.val rfl (V.ldA (vs := keptV k) rfl C_cache_kept rfl) ?_
    first | refine Wl.callE rfl rfl (s_cache_Cache_add cc d hmC w k (by rw [hmb]; exact hw) hk) ?_ | refine Wl.callD rfl rfl (s_cache_Cache_add cc d hmC w k (by rw [hmb]; exact hw) hk) (by first | exact Take.here | exact Take.there Take.here | exact Take.there (Take.there Take.here) | exact Take.there (Take.there (Take.there Take.here)) | exact Take.none _ | exact TakeC.t | exact Take.there (Take.there (Take.there (Take.there Take.here))) | exact Take.there (Take.there (Take.there (Take.there (Take.there Take.here)))) | exact Take.there (Take.there (Take.there (Take.there (Take.there (Take.there Take.here)))))) ?_
    refine Wl.val rfl (V.assign rfl) ?_
    refine Wl.nil ?_
    refine Wx.then_n ?_
    refine Wc.ret ?_
    repeat (first | refine Wx.then_r ?_ | refine Wx.blk_r ?_ | refine Wx.ng_r ?_)
    refine Wx.ret1 rfl rfl rfl ?_
    rw [hcc, if_neg (by simpa using hc1)]
    exact Ent.resC rfl
theorem s_cache_Cache_RoomR (cc lp me mp : Nat) (C : CacheM) (hn : -1000 ≤ C.n ∧ C.n ≤ 1000) : Ctr P f_cache_Cache_Room [ptr cc] (CacheR cc lp me mp C) (fun v => pu (v = i64 (cRoom C)) * CacheR cc lp me mp C) := by
  refine Ctr.of_body (m := 8) fn_cache_Cache_Room rfl rfl rfl rfl rfl (fun F g => ?_)
  refine Wc.seq ?_
  refine Wc.region ?_
  refine Wl.val rfl (V.assign rfl) ?_
  refine Wl.nil ?_
  refine Wx.then_n ?_
  refine Wc.seq ?_
  refine Wc.region ?_
  refine Wl.val rfl (V.move rfl) ?_
  refine Wl.val rfl (V.nil rfl) ?_
  refine Wl.val rfl (V.fld _ rfl O_cache_Cache_2 rfl) ?_
  refine Wl.val rfl (V.ld rfl C_int rfl) ?_
  refine Wl.val rfl (V.subk rfl rfl (wr64 (by omega) (by omega))) ?_
  refine Wl.val rfl (V.assign rfl) ?_
  refine Wl.nil ?_
  refine Wx.then_n ?_
  refine Wc.ret ?_
  repeat (first | refine Wx.then_r ?_ | refine Wx.blk_r ?_ | refine Wx.ng_r ?_)
  refine Wx.ret1 rfl rfl rfl ?_
  first | exact Ent.resF rfl | exact Ent.resC rfl | exact Ent.refl _ | exact Ent.auto
theorem s_cache_Cache_spare (cc d : Nat) {D : DevM} {C : CacheM} (hC : CacheOk D C) : Ctr P f_cache_Cache_spare [ptr cc] (Cache cc d C) (fun v => pu (v = .tuple #[i64 ((cSpare C).getD 0), .bool (cSpare C).isSome]) * Cache cc d C) := by
  have hb := hC.blocks
  have hlen : (cAll C).length ≤ 32 := by have := allGo_len C.entries 0 C.blocks.toNat; unfold cAll; omega
  refine Ctr.of_body (m := 39) fn_cache_Cache_spare rfl rfl rfl rfl rfl (fun F g => ?_)
  refine Wc.seq ?_
  refine Wc.region ?_
  refine Wl.val rfl (V.assign rfl) ?_
  refine Wl.val rfl (V.assign rfl) ?_
  refine Wl.nil ?_
  refine Wx.then_n ?_
  refine Wc.seq ?_
  refine Wc.region ?_
  refine Wl.val rfl (V.assign rfl) ?_
  refine Wl.val rfl (V.assign rfl) ?_
  refine Wl.nil ?_
  refine Wx.then_n ?_
  refine Wc.seq ?_
  refine Wc.seq ?_
  refine Wc.region ?_
  refine Wl.val rfl (V.move rfl) ?_
  refine Wl.call rfl rfl (s_cache_Cache_All cc d C hb) (by first | exact Take.here | exact Take.there Take.here | exact Take.there (Take.there Take.here) | exact Take.there (Take.there (Take.there Take.here)) | exact Take.none _ | exact TakeC.t | exact Take.there (Take.there (Take.there (Take.there Take.here))) | exact Take.there (Take.there (Take.there (Take.there (Take.there Take.here)))) | exact Take.there (Take.there (Take.there (Take.there (Take.there (Take.there Take.here)))))) (fun v9 => ?_)
  refine Wl.ent (H' := Cache cc d C * (own T_api_Entry 7 v9 (cAll C).length (etysV (cAll C)) * F)) Ent.auto (Wl.cache (fun lp me mp => ?_))
  refine Wl.know (fun g w s => Vw.of_own T_api_Entry 7 v9 (cAll C).length (etysV (cAll C)) g w (s.ent Ent.auto)) (fun hv => ?_)
  refine Wl.val rfl (V.lenW rfl U_Sapi_Entry hv) ?_
  refine Wl.val rfl (V.move rfl) ?_
  refine Wl.nil ?_
  refine Wx.then_n ?_
  refine Wc.block ?_
  refine Wc.loop (α := Nat × Option Int) (fun x => (cAll C).length - x.1) (fun x => pu (x.1 ≤ (cAll C).length ∧ spareGo C ((cAll C).drop x.1) x.2 = cSpare C) * (CacheR cc lp me mp C * (Log lp d C.log * (mapI me (amap etyA C.entries) * (mapI mp (amap i64 C.puts) * (own T_api_Entry 7 v9 (cAll C).length (etysV (cAll C)) * F)))))) (fun x => [(0, ptr cc), (4, i64 (x.2.getD 0)), (5, .bool x.2.isSome), (9, v9), (10, i64 ((cAll C).length : Nat)), (11, i64 (x.1 : Nat))]) (0, none) (by exact (by exact Ent.pure ⟨Nat.zero_le _, rfl⟩)) (by repeat (first | exact trivial | refine ⟨rfl, ?_⟩)) (fun x => ?_)
  obtain ⟨k, a⟩ := x
  refine Wc.pu (fun hI => ?_)
  obtain ⟨h1, h2⟩ := hI
  dsimp only at h1 h2
  refine Wc.seq ?_
  refine Wc.region ?_
  refine Wl.val rfl (V.lss rfl rfl) ?_
  refine Wl.nil ?_
  refine Wx.then_n ?_
  refine Wc.seq ?_
  refine Wc.cond rfl (fun hc1 => ?_) (fun hc1 => ?_)
  · skip
    try replace hc1 := of_decide_eq_true hc1
    have hlt : k < (cAll C).length := by (have hc1 : (k : Int) < ((cAll C).length : Int) := hc1); omega
    obtain ⟨e, he⟩ : ∃ e, (cAll C)[k]? = some e := ⟨_, List.getElem?_eq_getElem hlt⟩
    rw [spareGo_step he] at h2
    refine Wc.skip ?_
    refine Wx.then_n ?_
    refine Wc.seq ?_
    refine Wc.block ?_
    refine Wc.seq ?_
    refine Wc.region ?_
    refine Wl.val rfl (V.idxW rfl rfl U_Sapi_Entry Z_api_Entry hv (by omega) (by omega)) ?_
    refine Wl.val rfl (V.ldAW (vs := etyV e) rfl C_api_Entry hv (by omega) (by simpa using etysV_at he)) ?_
    refine Wl.al rfl (M.alloc N_api_Entry) (fun r7 => ?_)
    refine Wl.st (Go.Sl.S.putA rfl rfl C_api_Entry rfl rfl rfl rfl) ?_
    refine Wl.nil ?_
    refine Wx.then_n ?_
    refine Wc.seq ?_
    refine Wc.quiet mixed (by kernel_rfl) ?_
    refine Wq.val rfl (V.fld _ rfl O_api_Entry_3 rfl) ?_
    refine Wq.val rfl (V.ld rfl C_bool rfl) ?_
    refine Wq.val rfl (V.not rfl) ?_
    refine Wq.val rfl (V.move rfl) ?_
    refine Wq.bool 18 rfl (fun hb18 => ?_) (fun hb18 => ?_)
    · -- t18 is True
      try replace hb18 := of_decide_eq_true hb18
      refine Wq.gT rfl rfl rfl (V.move rfl) ?_
      refine Wq.gT rfl rfl rfl (V.not rfl) ?_
      refine Wq.gT rfl rfl rfl (V.move rfl) ?_
      refine Wq.bool 21 rfl (fun hb21 => ?_) (fun hb21 => ?_)
      · -- t21 is True
        try replace hb21 := of_decide_eq_true hb21
        refine Wq.gF rfl rfl rfl ?_
        refine Wq.gF rfl rfl rfl ?_
        refine Wq.gF rfl rfl rfl ?_
        refine Wq.gF rfl rfl rfl ?_
        refine Wq.gF rfl rfl rfl ?_
        refine Wq.gF rfl rfl rfl ?_
        refine Wq.gF rfl rfl rfl ?_
        refine Wq.gF rfl rfl rfl ?_
        refine Wq.gF rfl rfl rfl ?_
        refine Wq.gF rfl rfl rfl ?_
        refine Wq.gT rfl rfl rfl (V.pickT rfl rfl) ?_
        refine Wq.val rfl (V.pickT rfl rfl) ?_
        refine Wq.nil ?_
        refine Wx.then_n ?_
        refine Wc.condT rfl ?_
        refine Wc.region ?_
        refine Wl.val rfl (V.fld _ rfl O_api_Entry_0 rfl) ?_
        refine Wl.val rfl (V.ld rfl C_int rfl) ?_
        refine Wl.val rfl (V.assign rfl) ?_
        refine Wl.val rfl (V.assign rfl) ?_
        refine Wl.nil ?_
        refine Wx.blk_n ?_
        refine Wx.then_n ?_
        refine Wc.region ?_
        refine Wl.val rfl (V.addk rfl rfl (wr64 (by omega) (by omega))) ?_
        refine Wl.val rfl (V.move rfl) ?_
        refine Wl.nil ?_
        have hn : a = none := by cases a <;> simp_all
        rw [hb18, hn] at h2
        simp only [Option.isNone, Bool.true_or, Bool.and_self, if_true] at h2
        refine Wx.again (k + 1, some e.block) (by exact (by show (cAll C).length - (k + 1) < (cAll C).length - k; omega)) (by exact Ent.puC ⟨by omega, h2⟩) (by repeat (first | exact trivial | refine ⟨rfl, ?_⟩))
      · -- t21 is False
        try replace hb21 := of_decide_eq_false hb21
        refine Wq.gT rfl rfl rfl (V.move rfl) ?_
        refine Wq.gT rfl rfl rfl (V.nil rfl) ?_
        refine Wq.gT rfl rfl rfl (V.fld _ rfl O_cache_Cache_3 rfl) ?_
        refine Wq.gT rfl rfl rfl (V.ld rfl C_Mint_api_Entry rfl) ?_
        refine Wq.gT rfl rfl rfl (V.move rfl) ?_
        refine Wq.gT rfl rfl rfl (V.lookE1 (l := amap etyA C.entries) (v := etyA ((afind C.entries (a.getD 0)).getD ety0)) rfl rfl K_Mint_api_Entry V0_api_Entry TakeC.t (by rw [kfind_amap]; cases afind C.entries (a.getD 0) <;> rfl)) ?_
        refine Wq.gT rfl rfl rfl (V.fieldA (vs := verV ((afind C.entries (a.getD 0)).getD ety0).v) rfl F_api_Entry_1 C_api_Version rfl) ?_
        refine Wq.gT rfl rfl rfl (V.fld _ rfl O_api_Entry_1 rfl) ?_
        refine Wq.gT rfl rfl rfl (V.ldA (vs := verV e.v) rfl C_api_Version rfl) ?_
        refine Wq.gTcall rfl rfl rfl rfl (s_cache_above ((afind C.entries (a.getD 0)).getD ety0).v e.v) (by first | exact Take.here | exact Take.there Take.here | exact Take.there (Take.there Take.here) | exact Take.there (Take.there (Take.there Take.here)) | exact Take.none _ | exact TakeC.t | exact Take.there (Take.there (Take.there (Take.there Take.here))) | exact Take.there (Take.there (Take.there (Take.there (Take.there Take.here)))) | exact Take.there (Take.there (Take.there (Take.there (Take.there (Take.there Take.here)))))) ?_
        refine Wq.gT rfl rfl rfl (V.pickF rfl rfl) ?_
        refine Wq.val rfl (V.pickT rfl rfl) ?_
        refine Wq.nil ?_
        refine Wx.then_n ?_
        refine Wc.cond rfl (fun hc2 => ?_) (fun hc2 => ?_)
        · skip
          try replace hc2 := of_decide_eq_true hc2
          refine Wc.region ?_
          refine Wl.val rfl (V.fld _ rfl O_api_Entry_0 rfl) ?_
          refine Wl.val rfl (V.ld rfl C_int rfl) ?_
          refine Wl.val rfl (V.assign rfl) ?_
          refine Wl.val rfl (V.assign rfl) ?_
          refine Wl.nil ?_
          refine Wx.blk_n ?_
          refine Wx.then_n ?_
          refine Wc.region ?_
          refine Wl.val rfl (V.addk rfl rfl (wr64 (by omega) (by omega))) ?_
          refine Wl.val rfl (V.move rfl) ?_
          refine Wl.nil ?_
          rw [hb18, hc2, Bool.or_true, Bool.and_self, if_pos rfl] at h2
          refine Wx.again (k + 1, some e.block) (by exact (by show (cAll C).length - (k + 1) < (cAll C).length - k; omega)) (by exact Ent.puC ⟨by omega, h2⟩) (by repeat (first | exact trivial | refine ⟨rfl, ?_⟩))
        · skip
          try replace hc2 := of_decide_eq_false hc2
          refine Wc.skip ?_
          refine Wx.blk_n ?_
          refine Wx.then_n ?_
          refine Wc.region ?_
          refine Wl.val rfl (V.addk rfl rfl (wr64 (by omega) (by omega))) ?_
          refine Wl.val rfl (V.move rfl) ?_
          refine Wl.nil ?_
          have hn : a.isNone = false := by cases a <;> simp_all
          rw [hb18, hc2, hn, Bool.or_false, Bool.and_false, if_neg (by decide)] at h2
          refine Wx.again (k + 1, a) (by exact (by show (cAll C).length - (k + 1) < (cAll C).length - k; omega)) (by exact Ent.puC ⟨by omega, h2⟩) (by repeat (first | exact trivial | refine ⟨rfl, ?_⟩))
    · -- t18 is False
      try replace hb18 := of_decide_eq_false hb18
      refine Wq.gF rfl rfl rfl ?_
      refine Wq.gF rfl rfl rfl ?_
      refine Wq.gF rfl rfl rfl ?_
      refine Wq.gU rfl rfl rfl ?_
      refine Wq.gU rfl rfl rfl ?_
      refine Wq.gU rfl rfl rfl ?_
      refine Wq.gU rfl rfl rfl ?_
      refine Wq.gU rfl rfl rfl ?_
      refine Wq.gU rfl rfl rfl ?_
      refine Wq.gU rfl rfl rfl ?_
      refine Wq.gU rfl rfl rfl ?_
      refine Wq.gU rfl rfl rfl ?_
      refine Wq.gU rfl rfl rfl ?_
      refine Wq.gF rfl rfl rfl ?_
      refine Wq.val rfl (V.pickF rfl rfl) ?_
      refine Wq.nil ?_
      refine Wx.then_n ?_
      refine Wc.condF rfl ?_
      refine Wc.skip ?_
      refine Wx.blk_n ?_
      refine Wx.then_n ?_
      refine Wc.region ?_
      refine Wl.val rfl (V.addk rfl rfl (wr64 (by omega) (by omega))) ?_
      refine Wl.val rfl (V.move rfl) ?_
      refine Wl.nil ?_
      rw [hb18, Bool.false_and, if_neg (by decide)] at h2
      refine Wx.again (k + 1, a) (by exact (by show (cAll C).length - (k + 1) < (cAll C).length - k; omega)) (by exact Ent.puC ⟨by omega, h2⟩) (by repeat (first | exact trivial | refine ⟨rfl, ?_⟩))
  · skip
    try replace hc1 := of_decide_eq_false hc1
    refine Wc.exit ?_
    refine Wx.then_x ?_
    refine Wx.then_x ?_
    refine Wx.blk_x ?_
    refine Wx.then_n ?_
    refine Wc.seq ?_
    refine Wc.region ?_
    refine Wl.val rfl (V.move rfl) ?_
    refine Wl.val rfl (V.move rfl) ?_
    refine Wl.val rfl (V.assign rfl) ?_
    refine Wl.val rfl (V.assign rfl) ?_
    refine Wl.nil ?_
    refine Wx.then_n ?_
    refine Wc.ret ?_
    repeat (first | refine Wx.then_r ?_ | refine Wx.blk_r ?_ | refine Wx.ng_r ?_)
    refine Wx.ret2 rfl rfl rfl rfl ?_
    have hz : spareGo C ((cAll C).drop k) a = a := by rw [List.drop_eq_nil_of_le (by (have hc1 : ¬ (k : Int) < ((cAll C).length : Int) := hc1); omega)]; rfl
    rw [hz] at h2
    subst h2
    exact Ent.cache1 (lp := lp) (me := me) (mp := mp) rfl
theorem s_cache_Cache_Put (cc d : Nat) {D : DevM} {C : CacheM} (hC : CacheOk D C) (e : Ety) (hb0 : I64 e.block) (hv0 : verOk e.v) (hc0 : I64 e.client) (hn0 : I64 e.n) : Ctr P f_cache_Cache_Put [ptr cc, .agg (etyV e).toArray] (Cache cc d C * Dev d D) (fun v => pu (v = i64 (cPut D C e).2.2) * (Cache cc d (cPut D C e).2.1 * Dev d (cPut D C e).1)) := by
  have hbl := hC.blocks
  have hcn := hC.n
  have hln := hC.log.n'
  unfold I64 at hb0 hc0
  refine Ctr.of_body (m := 123) fn_cache_Cache_Put rfl rfl rfl rfl rfl (fun F g => ?_)
  refine Wc.assoc (Wc.cache (fun lp me mp => ?_))
  refine Wc.seq ?_
  refine Wc.region ?_
  refine Wl.al rfl (M.box (l := etyV e) rfl rfl) (fun r3 => ?_)
  refine Wl.val rfl (V.assign rfl) ?_
  refine Wl.nil ?_
  refine Wx.then_n ?_
  refine Wc.seq ?_
  refine Wc.block ?_
  refine Wc.seq ?_
  refine Wc.region ?_
  refine Wl.val rfl (V.move rfl) ?_
  refine Wl.val rfl (V.fld _ rfl O_api_Entry_0 rfl) ?_
  refine Wl.val rfl (V.ld rfl C_int rfl) ?_
  first | refine Wl.callE rfl rfl (s_cache_Cache_inR cc lp me mp C e.block hbl) ?_ | refine Wl.callD rfl rfl (s_cache_Cache_inR cc lp me mp C e.block hbl) (by first | exact Take.here | exact Take.there Take.here | exact Take.there (Take.there Take.here) | exact Take.there (Take.there (Take.there Take.here)) | exact Take.none _ | exact TakeC.t | exact Take.there (Take.there (Take.there (Take.there Take.here))) | exact Take.there (Take.there (Take.there (Take.there (Take.there Take.here)))) | exact Take.there (Take.there (Take.there (Take.there (Take.there (Take.there Take.here)))))) ?_
  refine Wl.val rfl (V.not rfl) ?_
  refine Wl.val rfl (V.assign rfl) ?_
  refine Wl.nil ?_
  refine Wx.then_n ?_
  refine Wc.cond rfl (fun hc1 => ?_) (fun hc1 => ?_)
  · skip
    try replace hc1 := of_decide_eq_true hc1
    refine Wc.seq ?_
    refine Wc.region ?_
    refine Wl.val rfl (V.assign rfl) ?_
    refine Wl.nil ?_
    refine Wx.then_n ?_
    refine Wc.ret ?_
    repeat (first | refine Wx.then_r ?_ | refine Wx.blk_r ?_ | refine Wx.ng_r ?_)
    refine Wx.ret1 rfl rfl rfl ?_
    rw [cPut, if_pos (by assumption)]; exact Ent.cacheP (lp := lp) (me := me) (mp := mp) rfl
  · skip
    try replace hc1 := of_decide_eq_false hc1
    refine Wc.seq ?_
    refine Wc.region ?_
    refine Wl.val rfl (V.fld _ rfl O_api_Entry_2 rfl) ?_
    refine Wl.val rfl (V.ld rfl C_string rfl) ?_
    refine Wl.val rfl (V.lenT rfl U_string) ?_
    refine Wl.val rfl (V.neq rfl rfl) ?_
    refine Wl.val rfl (V.assign rfl) ?_
    refine Wl.nil ?_
    refine Wx.then_n ?_
    refine Wc.cond rfl (fun hc2 => ?_) (fun hc2 => ?_)
    · skip
      try replace hc2 := of_decide_eq_true hc2
      refine Wc.seq ?_
      refine Wc.region ?_
      refine Wl.val rfl (V.assign rfl) ?_
      refine Wl.nil ?_
      refine Wx.then_n ?_
      refine Wc.ret ?_
      repeat (first | refine Wx.then_r ?_ | refine Wx.blk_r ?_ | refine Wx.ng_r ?_)
      refine Wx.ret1 rfl rfl rfl ?_
      rw [cPut, if_neg (by rw [hc1]; decide), if_pos (by simpa using hc2)]; exact Ent.cacheP (lp := lp) (me := me) (mp := mp) rfl
    · skip
      try replace hc2 := of_decide_eq_false hc2
      refine Wc.cut (row r3 T_api_Entry (etyV e) * (CacheR cc lp me mp C * (Log lp d C.log * (mapI me (amap etyA C.entries) * (mapI mp (amap i64 C.puts) * (Dev d D * F)))))) ([(0, ptr cc), (3, ptr r3), (22, .bool (!above e.v C.kept.last || (!mayV e.v 1 || (!withinB e.client (-1) 3 || odd e.n))))]) ?_ ?_
      · skip
        refine Wc.quiet mixed (by kernel_rfl) ?_
        refine Wq.val rfl (V.fld _ rfl O_api_Entry_1 rfl) ?_
        refine Wq.val rfl (V.ldA (vs := verV e.v) rfl C_api_Version rfl) ?_
        refine Wq.val rfl (V.move rfl) ?_
        refine Wq.val rfl (V.nil rfl) ?_
        refine Wq.val rfl (V.fld _ rfl O_cache_Cache_5 rfl) ?_
        refine Wq.val rfl (V.fld _ rfl O_cache_kept_0 rfl) ?_
        refine Wq.val rfl (V.ldA (vs := verV C.kept.last) rfl C_api_Version rfl) ?_
        refine Wq.call rfl rfl (s_cache_above e.v C.kept.last) (by first | exact Take.here | exact Take.there Take.here | exact Take.there (Take.there Take.here) | exact Take.there (Take.there (Take.there Take.here)) | exact Take.none _ | exact TakeC.t | exact Take.there (Take.there (Take.there (Take.there Take.here))) | exact Take.there (Take.there (Take.there (Take.there (Take.there Take.here)))) | exact Take.there (Take.there (Take.there (Take.there (Take.there (Take.there Take.here)))))) ?_
        refine Wq.val rfl (V.not rfl) ?_
        refine Wq.val rfl (V.move rfl) ?_
        refine Wq.bool 32 rfl (fun hb32 => ?_) (fun hb32 => ?_)
        · -- t32 is True
          try replace hb32 := of_decide_eq_true hb32
          refine Wq.gF rfl rfl rfl ?_
          refine Wq.gF rfl rfl rfl ?_
          refine Wq.gF rfl rfl rfl ?_
          refine Wq.gF rfl rfl rfl ?_
          refine Wq.val rfl (V.pickT rfl rfl) ?_
          refine Wq.val rfl (V.move rfl) ?_
          refine Wq.gF rfl rfl rfl ?_
          refine Wq.gF rfl rfl rfl ?_
          refine Wq.gF rfl rfl rfl ?_
          refine Wq.gF rfl rfl rfl ?_
          refine Wq.val rfl (V.pickT rfl rfl) ?_
          refine Wq.val rfl (V.move rfl) ?_
          refine Wq.gF rfl rfl rfl ?_
          refine Wq.gF rfl rfl rfl ?_
          refine Wq.gF rfl rfl rfl ?_
          refine Wq.val rfl (V.pickT rfl rfl) ?_
          refine Wq.val rfl (V.assign rfl) ?_
          refine Wq.nil ?_
          exact Wx.cutn Ent.auto ⟨rfl, rfl, lookB rfl (by simp only [*, Bool.true_or, Bool.false_or, Bool.or_true, Bool.or_false, Bool.not_true, Bool.not_false]), trivial⟩
        · -- t32 is False
          try replace hb32 := of_decide_eq_false hb32
          refine Wq.gT rfl rfl rfl (V.fld _ rfl O_api_Entry_1 rfl) ?_
          refine Wq.gT rfl rfl rfl (V.ldA (vs := verV e.v) rfl C_api_Version rfl) ?_
          refine Wq.gTcall rfl rfl rfl rfl (s_cache_may e.v 1) (by first | exact Take.here | exact Take.there Take.here | exact Take.there (Take.there Take.here) | exact Take.there (Take.there (Take.there Take.here)) | exact Take.none _ | exact TakeC.t | exact Take.there (Take.there (Take.there (Take.there Take.here))) | exact Take.there (Take.there (Take.there (Take.there (Take.there Take.here)))) | exact Take.there (Take.there (Take.there (Take.there (Take.there (Take.there Take.here)))))) ?_
          refine Wq.gT rfl rfl rfl (V.not rfl) ?_
          refine Wq.val rfl (V.pickF rfl rfl) ?_
          refine Wq.val rfl (V.move rfl) ?_
          refine Wq.bool 38 rfl (fun hb38 => ?_) (fun hb38 => ?_)
          · -- t38 is True
            try replace hb38 := of_decide_eq_true hb38
            refine Wq.gF rfl rfl rfl ?_
            refine Wq.gF rfl rfl rfl ?_
            refine Wq.gF rfl rfl rfl ?_
            refine Wq.gF rfl rfl rfl ?_
            refine Wq.val rfl (V.pickT rfl rfl) ?_
            refine Wq.val rfl (V.move rfl) ?_
            refine Wq.gF rfl rfl rfl ?_
            refine Wq.gF rfl rfl rfl ?_
            refine Wq.gF rfl rfl rfl ?_
            refine Wq.val rfl (V.pickT rfl rfl) ?_
            refine Wq.val rfl (V.assign rfl) ?_
            refine Wq.nil ?_
            exact Wx.cutn Ent.auto ⟨rfl, rfl, lookB rfl (by simp only [*, Bool.true_or, Bool.false_or, Bool.or_true, Bool.or_false, Bool.not_true, Bool.not_false]), trivial⟩
          · -- t38 is False
            try replace hb38 := of_decide_eq_false hb38
            refine Wq.gT rfl rfl rfl (V.fld _ rfl O_api_Entry_4 rfl) ?_
            refine Wq.gT rfl rfl rfl (V.ld rfl C_int rfl) ?_
            refine Wq.gTcall rfl rfl rfl rfl (s_cache_within e.client (-1) 3) (by first | exact Take.here | exact Take.there Take.here | exact Take.there (Take.there Take.here) | exact Take.there (Take.there (Take.there Take.here)) | exact Take.none _ | exact TakeC.t | exact Take.there (Take.there (Take.there (Take.there Take.here))) | exact Take.there (Take.there (Take.there (Take.there (Take.there Take.here)))) | exact Take.there (Take.there (Take.there (Take.there (Take.there (Take.there Take.here)))))) ?_
            refine Wq.gT rfl rfl rfl (V.not rfl) ?_
            refine Wq.val rfl (V.pickF rfl rfl) ?_
            refine Wq.val rfl (V.move rfl) ?_
            refine Wq.bool 44 rfl (fun hb44 => ?_) (fun hb44 => ?_)
            · -- t44 is True
              try replace hb44 := of_decide_eq_true hb44
              refine Wq.gF rfl rfl rfl ?_
              refine Wq.gF rfl rfl rfl ?_
              refine Wq.gF rfl rfl rfl ?_
              refine Wq.val rfl (V.pickT rfl rfl) ?_
              refine Wq.val rfl (V.assign rfl) ?_
              refine Wq.nil ?_
              exact Wx.cutn Ent.auto ⟨rfl, rfl, lookB rfl (by simp only [*, Bool.true_or, Bool.false_or, Bool.or_true, Bool.or_false, Bool.not_true, Bool.not_false]), trivial⟩
            · -- t44 is False
              try replace hb44 := of_decide_eq_false hb44
              refine Wq.gT rfl rfl rfl (V.fld _ rfl O_api_Entry_5 rfl) ?_
              refine Wq.gT rfl rfl rfl (V.ld rfl C_int64 rfl) ?_
              refine Wq.gTcall rfl rfl rfl rfl (s_cache_odd ..) (by first | exact Take.here | exact Take.there Take.here | exact Take.there (Take.there Take.here) | exact Take.there (Take.there (Take.there Take.here)) | exact Take.none _ | exact TakeC.t | exact Take.there (Take.there (Take.there (Take.there Take.here))) | exact Take.there (Take.there (Take.there (Take.there (Take.there Take.here)))) | exact Take.there (Take.there (Take.there (Take.there (Take.there (Take.there Take.here)))))) ?_
              refine Wq.val rfl (V.pickF rfl rfl) ?_
              refine Wq.val rfl (V.assign rfl) ?_
              refine Wq.nil ?_
              exact Wx.cutn Ent.auto ⟨rfl, rfl, lookB rfl (by simp only [*, Bool.true_or, Bool.false_or, Bool.or_true, Bool.or_false, Bool.not_true, Bool.not_false]), trivial⟩
      · skip
        refine Wc.cond rfl (fun hc3 => ?_) (fun hc3 => ?_)
        · skip
          try replace hc3 := of_decide_eq_true hc3
          refine Wc.seq ?_
          refine Wc.region ?_
          refine Wl.val rfl (V.assign rfl) ?_
          refine Wl.nil ?_
          refine Wx.then_n ?_
          refine Wc.ret ?_
          repeat (first | refine Wx.then_r ?_ | refine Wx.blk_r ?_ | refine Wx.ng_r ?_)
          refine Wx.ret1 rfl rfl rfl ?_
          rw [cPut, if_neg (by rw [hc1]; decide), if_neg (by simpa using hc2), if_pos hc3]; exact Ent.cacheP (lp := lp) (me := me) (mp := mp) rfl
        · skip
          try replace hc3 := of_decide_eq_false hc3
          have hlen : (e.data.length : Int) = 8 := by simpa using hc2
          have hpo := put_ok (C := C) hv0 hn0 hc1 hlen hc3
          have hko := putKept_ok hC hv0 hn0
          have hput := cPut_ok (D := D) hc1 hlen hc3
          have hcl := hpo.2.2.2.1
          refine Wc.skip ?_
          refine Wx.blk_n ?_
          refine Wx.then_n ?_
          refine Wc.seq ?_
          refine Wc.region ?_
          refine Wl.val rfl (V.move rfl) ?_
          refine Wl.val rfl (V.nil rfl) ?_
          refine Wl.val rfl (V.fld _ rfl O_cache_Cache_5 rfl) ?_
          refine Wl.val rfl (V.ldA (vs := keptV C.kept) rfl C_cache_kept rfl) ?_
          refine Wl.al rfl (M.alloc N_cache_kept) (fun r5 => ?_)
          refine Wl.st (Go.Sl.S.putA rfl rfl C_cache_kept rfl rfl rfl rfl) ?_
          refine Wl.nil ?_
          refine Wx.then_n ?_
          refine Wc.seq ?_
          refine Wc.region ?_
          refine Wl.val rfl (V.fld _ rfl O_api_Entry_1 rfl) ?_
          refine Wl.val rfl (V.ldA (vs := verV e.v) rfl C_api_Version rfl) ?_
          refine Wl.val rfl (V.fld _ rfl O_cache_kept_0 rfl) ?_
          refine Wl.st (Go.Sl.S.putA rfl rfl C_api_Version rfl rfl rfl rfl) ?_
          refine Wl.nil ?_
          refine Wx.then_n ?_
          refine Wc.cut (row r5 T_cache_kept (keptV (putKept C e)) * (row r3 T_api_Entry (etyV e) * (CacheR cc lp me mp C * (Log lp d C.log * (mapI me (amap etyA C.entries) * (mapI mp (amap i64 C.puts) * (Dev d D * F))))))) ([(0, ptr cc), (3, ptr r3), (5, ptr r5)]) ?_ ?_
          · skip
            refine Wc.seq ?_
            refine Wc.region ?_
            refine Wl.val rfl (V.fld _ rfl O_api_Entry_4 rfl) ?_
            refine Wl.val rfl (V.ld rfl C_int rfl) ?_
            refine Wl.val rfl (V.geq rfl rfl) ?_
            refine Wl.nil ?_
            refine Wx.then_n ?_
            refine Wc.cond rfl (fun hc4 => ?_) (fun hc4 => ?_)
            · skip
              try replace hc4 := of_decide_eq_true hc4
              refine Wc.draws 12 mixed (by kernel_rfl) (S := _) (M := emp) (Ent.empR _) ?_
              refine Wr.take [0, 1, 2, 3, 4, 5, 6, 7, 8, 9, 10, 11] 0 (by kernel_rfl) (by kernel_rfl) rfl rfl ?_
              refine Wt.val rfl (V.fld _ rfl O_api_Entry_4 rfl) ?_
              refine Wt.val rfl (V.ld rfl C_int rfl) ?_
              refine Wt.val rfl (V.fld _ rfl O_api_Entry_4 rfl) ?_
              refine Wt.val rfl (V.ld rfl C_int rfl) ?_
              refine Wt.val rfl (V.fld _ rfl O_cache_kept_1 rfl) ?_
              refine Wt.val rfl (V.idxA rfl rfl U_A4int64 Z_int64 (by first | decide | omega) (by first | decide | omega) rfl) ?_
              refine Wt.val rfl (V.ld (v := i64 (tabGet C.kept.t e.client)) rfl C_int64 (tab_ix2 (by omega) (by omega) (by omega))) ?_
              refine Wt.val rfl (V.fld _ rfl O_api_Entry_5 rfl) ?_
              refine Wt.val rfl (V.ld rfl C_int64 rfl) ?_
              refine Wt.val rfl (V.mx rfl rfl) ?_
              refine Wt.val rfl (V.fld _ rfl O_cache_kept_1 rfl) ?_
              refine Wt.val rfl (V.idxA rfl rfl U_A4int64 Z_int64 (by first | decide | omega) (by first | decide | omega) rfl) ?_
              refine Wt.nil ?_
              refine Wr.tail (by kernel_rfl) rfl ?_
              try refine Wl.ent (Ent.unemp _) ?_
              refine Wl.st (Go.Sl.S.put rfl rfl C_int64 rfl (tab_upd2 (by omega) (by omega) (by omega))) ?_
              refine Wl.nil ?_
              have hk : putKept C e = ⟨e.v, tabSet C.kept.t e.client (max (tabGet C.kept.t e.client) e.n)⟩ := by unfold putKept; rw [if_pos (by omega)]
              rw [hk]
              dsimp only
              exact Wx.cutn Ent.auto ⟨rfl, rfl, rfl, trivial⟩
            · skip
              try replace hc4 := of_decide_eq_false hc4
              refine Wc.skip ?_
              have hk : putKept C e = ⟨e.v, C.kept.t⟩ := by unfold putKept; rw [if_neg (by omega)]
              rw [hk]
              dsimp only
              exact Wx.cutn Ent.auto ⟨rfl, rfl, rfl, trivial⟩
          · skip
            refine Wc.seq ?_
            refine Wc.seq ?_
            refine Wc.draws 12 mixed (by kernel_rfl) (S := _) (M := emp) (Ent.empR _) ?_
            refine Wr.take [0, 1, 2, 3, 4, 5, 6, 7, 8, 9] 2 (by kernel_rfl) (by kernel_rfl) rfl rfl ?_
            refine Wt.val rfl (V.move rfl) ?_
            refine Wt.val rfl (V.nil rfl) ?_
            refine Wt.val rfl (V.fld _ rfl O_cache_Cache_3 rfl) ?_
            refine Wt.val rfl (V.ld rfl C_Mint_api_Entry rfl) ?_
            refine Wt.val rfl (V.fld _ rfl O_api_Entry_0 rfl) ?_
            refine Wt.val rfl (V.ld rfl C_int rfl) ?_
            refine Wt.val rfl (V.lookE (l := amap etyA C.entries) (v := etyA ((afind C.entries e.block).getD ety0)) (b := (afind C.entries e.block).isSome) rfl rfl K_Mint_api_Entry V0_api_Entry TakeC.t (by rw [kfind_amap]; cases afind C.entries e.block <;> rfl) (by rw [kfind_amap]; cases afind C.entries e.block <;> rfl)) ?_
            refine Wt.val rfl (V.move rfl) ?_
            refine Wt.val rfl (V.ext rfl rfl) ?_
            refine Wt.val rfl (V.ext rfl rfl) ?_
            refine Wt.nil ?_
            refine Wr.any [10] 1 (by kernel_rfl) rfl rfl ?_
            refine Wm.al rfl rfl rfl (M.alloc N_api_Entry) (fun r6 => ?_) ?_
            · skip
              refine Wr.any [11] 0 (by kernel_rfl) rfl rfl ?_
              refine Wm.st rfl rfl (Go.Sl.S.putA rfl rfl C_api_Entry rfl rfl rfl rfl) rfl ?_ ?_
              · skip
                refine Wr.tail (by kernel_rfl) rfl ?_
                try refine Wl.ent (Ent.unemp _) ?_
                refine Wl.val rfl (V.assign rfl) ?_
                refine Wl.nil ?_
                refine Wx.then_n ?_
                refine Wc.seq ?_
                refine Wc.region ?_
                refine Wl.val rfl (V.move rfl) ?_
                refine Wl.val rfl (V.move rfl) ?_
                refine Wl.bool 82 rfl (fun hb82 => ?_) (fun hb82 => ?_)
                · -- t82 is True
                  try replace hb82 := of_decide_eq_true hb82
                  refine Wl.gF rfl rfl rfl ?_
                  refine Wl.gF rfl rfl rfl ?_
                  refine Wl.gF rfl rfl rfl ?_
                  refine Wl.gF rfl rfl rfl ?_
                  refine Wl.gF rfl rfl rfl ?_
                  refine Wl.gF rfl rfl rfl ?_
                  refine Wl.gF rfl rfl rfl ?_
                  refine Wl.gF rfl rfl rfl ?_
                  refine Wl.val rfl (V.pickT rfl rfl) ?_
                  refine Wl.nil ?_
                  refine Wx.then_n ?_
                  refine Wc.condT rfl ?_
                  refine Wc.seq ?_
                  refine Wc.region ?_
                  refine Wl.val rfl (V.move rfl) ?_
                  refine Wl.val rfl (V.ldA (vs := etyV e) rfl C_api_Entry rfl) ?_
                  refine Wl.val rfl (V.build B_cache_put rfl rfl) ?_
                  refine Wl.val rfl (V.mkIface rfl I_cache_put) ?_
                  refine Wl.val rfl (V.ldA (vs := keptV (putKept C e)) rfl C_cache_kept rfl) ?_
                  refine Wl.ent (H' := Cache cc d C * (Dev d D * F)) (Ent.cache (lp := lp) (me := me) (mp := mp)) ?_
                  refine Wl.callD rfl rfl (s_cache_Cache_come cc d hC (.put e) (putKept C e) hpo hko) (Take.two Take.here Take.here) ?_
                  refine Wl.val rfl (V.assign rfl) ?_
                  refine Wl.nil ?_
                  refine Wx.then_n ?_
                  refine Wc.ret ?_
                  repeat (first | refine Wx.then_r ?_ | refine Wx.blk_r ?_ | refine Wx.ng_r ?_)
                  refine Wx.ret1 rfl rfl rfl ?_
                  rw [hput, if_pos (.inl (by assumption))]
                  exact Ent.resC rfl
                · -- t82 is False
                  try replace hb82 := of_decide_eq_false hb82
                  refine Wl.gT rfl rfl ?_
                  refine Wl.val rfl (V.move rfl) ?_
                  refine Wl.gT rfl rfl ?_
                  refine Wl.val rfl (V.nil rfl) ?_
                  refine Wl.gT rfl rfl ?_
                  refine Wl.val rfl (V.fld _ rfl O_cache_Cache_3 rfl) ?_
                  refine Wl.gT rfl rfl ?_
                  refine Wl.val rfl (V.ld rfl C_Mint_api_Entry rfl) ?_
                  refine Wl.gT rfl rfl ?_
                  refine Wl.val rfl (V.lenM (l := amap etyA C.entries) rfl U_Mint_api_Entry TakeC.t) ?_
                  refine Wl.gT rfl rfl ?_
                  refine Wl.val rfl (V.move rfl) ?_
                  refine Wl.gT rfl rfl ?_
                  first | refine Wl.callE rfl rfl (s_cache_Cache_RoomR cc lp me mp C (by omega)) ?_ | refine Wl.callD rfl rfl (s_cache_Cache_RoomR cc lp me mp C (by omega)) (by first | exact Take.here | exact Take.there Take.here | exact Take.there (Take.there Take.here) | exact Take.there (Take.there (Take.there Take.here)) | exact Take.none _ | exact TakeC.t | exact Take.there (Take.there (Take.there (Take.there Take.here))) | exact Take.there (Take.there (Take.there (Take.there (Take.there Take.here)))) | exact Take.there (Take.there (Take.there (Take.there (Take.there (Take.there Take.here)))))) ?_
                  refine Wl.gT rfl rfl ?_
                  refine Wl.val rfl (V.lss rfl rfl) ?_
                  refine Wl.val rfl (V.pickF rfl rfl) ?_
                  refine Wl.nil ?_
                  refine Wx.then_n ?_
                  refine Wc.cond rfl (fun hc5 => ?_) (fun hc5 => ?_)
                  · skip
                    try replace hc5 := of_decide_eq_true hc5
                    refine Wc.seq ?_
                    refine Wc.region ?_
                    refine Wl.val rfl (V.move rfl) ?_
                    refine Wl.val rfl (V.ldA (vs := etyV e) rfl C_api_Entry rfl) ?_
                    refine Wl.val rfl (V.build B_cache_put rfl rfl) ?_
                    refine Wl.val rfl (V.mkIface rfl I_cache_put) ?_
                    refine Wl.val rfl (V.ldA (vs := keptV (putKept C e)) rfl C_cache_kept rfl) ?_
                    refine Wl.ent (H' := Cache cc d C * (Dev d D * F)) (Ent.cache (lp := lp) (me := me) (mp := mp)) ?_
                    refine Wl.callD rfl rfl (s_cache_Cache_come cc d hC (.put e) (putKept C e) hpo hko) (Take.two Take.here Take.here) ?_
                    refine Wl.val rfl (V.assign rfl) ?_
                    refine Wl.nil ?_
                    refine Wx.then_n ?_
                    refine Wc.ret ?_
                    repeat (first | refine Wx.then_r ?_ | refine Wx.blk_r ?_ | refine Wx.ng_r ?_)
                    refine Wx.ret1 rfl rfl rfl ?_
                    rw [hput, if_pos (.inr (by simpa using hc5))]
                    exact Ent.resC rfl
                  · skip
                    try replace hc5 := of_decide_eq_false hc5
                    rw [if_neg (by rintro (h | h) <;> simp_all)] at hput
                    refine Wc.skip ?_
                    refine Wx.then_n ?_
                    refine Wc.seq ?_
                    refine Wc.region ?_
                    refine Wl.val rfl (V.move rfl) ?_
                    refine Wl.ent (H' := Cache cc d C * (row r5 T_cache_kept (keptV (putKept C e)) * (row r3 T_api_Entry (etyV e) * (Dev d D * F)))) (Ent.cache (lp := lp) (me := me) (mp := mp)) ?_
                    refine Wl.callD rfl rfl (s_cache_Cache_spare cc d hC) Take.here ?_
                    refine Wl.val rfl (V.move rfl) ?_
                    refine Wl.val rfl (V.ext rfl rfl) ?_
                    refine Wl.val rfl (V.ext rfl rfl) ?_
                    refine Wl.val rfl (V.assign rfl) ?_
                    refine Wl.val rfl (V.assign rfl) ?_
                    refine Wl.nil ?_
                    refine Wx.then_n ?_
                    refine Wc.seq ?_
                    refine Wc.seq ?_
                    refine Wc.region ?_
                    refine Wl.val rfl (V.move rfl) ?_
                    refine Wl.val rfl (V.not rfl) ?_
                    refine Wl.nil ?_
                    refine Wx.then_n ?_
                    refine Wc.cond rfl (fun hc6 => ?_) (fun hc6 => ?_)
                    · skip
                      try replace hc6 := of_decide_eq_true hc6
                      refine Wc.seq ?_
                      refine Wc.region ?_
                      refine Wl.val rfl (V.assign rfl) ?_
                      refine Wl.nil ?_
                      refine Wx.then_n ?_
                      refine Wc.ret ?_
                      repeat (first | refine Wx.then_r ?_ | refine Wx.blk_r ?_ | refine Wx.ng_r ?_)
                      refine Wx.ret1 rfl rfl rfl ?_
                      have hs : cSpare C = none := by cases h : cSpare C <;> simp_all
                      rw [hs] at hput
                      rw [hput]
                      exact Ent.resC rfl
                    · skip
                      try replace hc6 := of_decide_eq_false hc6
                      obtain ⟨old, hs⟩ : ∃ old, cSpare C = some old := by cases h : cSpare C <;> simp_all
                      have hold := cSpare_ok hC hs
                      rw [hs] at hput ⊢
                      dsimp only at hput
                      obtain ⟨hm1, hm2, hm3⟩ := hC.come (w := .drop old) (k := C.kept) hold hC.kept
                      refine Wc.cache (fun lp me mp => ?_)
                      refine Wc.skip ?_
                      refine Wx.then_n ?_
                      refine Wc.seq ?_
                      refine Wc.seq ?_
                      refine Wc.region ?_
                      refine Wl.val rfl (V.move rfl) ?_
                      refine Wl.val rfl (V.move rfl) ?_
                      refine Wl.val rfl (V.build B_cache_drop rfl rfl) ?_
                      refine Wl.val rfl (V.mkIface rfl I_cache_drop) ?_
                      refine Wl.val rfl (V.move rfl) ?_
                      refine Wl.val rfl (V.nil rfl) ?_
                      refine Wl.val rfl (V.fld _ rfl O_cache_Cache_5 rfl) ?_
                      refine Wl.val rfl (V.ldA (vs := keptV C.kept) rfl C_cache_kept rfl) ?_
                      refine Wl.ent (H' := Cache cc d C * (Dev d D * (row r5 T_cache_kept (keptV (putKept C e)) * (row r3 T_api_Entry (etyV e) * F)))) (Ent.cache (lp := lp) (me := me) (mp := mp)) ?_
                      refine Wl.callD rfl rfl (s_cache_Cache_come cc d hC (.drop old) C.kept hold hC.kept) (Take.two Take.here Take.here) ?_
                      generalize cCome D C (.drop old) C.kept = q at *
                      obtain ⟨D2, C2, e2⟩ := q
                      dsimp only at hm1 hm3 hput ⊢
                      refine Wl.val rfl (V.assign rfl) ?_
                      refine Wl.nil ?_
                      refine Wx.then_n ?_
                      refine Wc.seq ?_
                      refine Wc.region ?_
                      refine Wl.val rfl (V.move rfl) ?_
                      refine Wl.val rfl (V.neq rfl rfl) ?_
                      refine Wl.nil ?_
                      refine Wx.then_n ?_
                      refine Wc.cond rfl (fun hc7 => ?_) (fun hc7 => ?_)
                      · skip
                        try replace hc7 := of_decide_eq_true hc7
                        refine Wc.seq ?_
                        refine Wc.region ?_
                        refine Wl.val rfl (V.move rfl) ?_
                        refine Wl.val rfl (V.assign rfl) ?_
                        refine Wl.nil ?_
                        refine Wx.then_n ?_
                        refine Wc.ret ?_
                        repeat (first | refine Wx.then_r ?_ | refine Wx.blk_r ?_ | refine Wx.ng_r ?_)
                        refine Wx.ret1 rfl rfl rfl ?_
                        rw [hput, if_pos (by simpa using hc7)]
                        exact Ent.resC rfl
                      · skip
                        try replace hc7 := of_decide_eq_false hc7
                        refine Wc.skip ?_
                        refine Wx.then_n ?_
                        refine Wc.seq ?_
                        refine Wc.region ?_
                        refine Wl.val rfl (V.move rfl) ?_
                        refine Wl.val rfl (V.ldA (vs := etyV e) rfl C_api_Entry rfl) ?_
                        refine Wl.val rfl (V.build B_cache_put rfl rfl) ?_
                        refine Wl.val rfl (V.mkIface rfl I_cache_put) ?_
                        refine Wl.val rfl (V.ldA (vs := keptV (putKept C e)) rfl C_cache_kept rfl) ?_
                        first | refine Wl.callE rfl rfl (s_cache_Cache_add cc d hm1 (.put e) (putKept C e) (by show etyOk C2.blocks e; rw [hm3]; exact hpo) hko) ?_ | refine Wl.callD rfl rfl (s_cache_Cache_add cc d hm1 (.put e) (putKept C e) (by show etyOk C2.blocks e; rw [hm3]; exact hpo) hko) (by first | exact Take.here | exact Take.there Take.here | exact Take.there (Take.there Take.here) | exact Take.there (Take.there (Take.there Take.here)) | exact Take.none _ | exact TakeC.t | exact Take.there (Take.there (Take.there (Take.there Take.here))) | exact Take.there (Take.there (Take.there (Take.there (Take.there Take.here)))) | exact Take.there (Take.there (Take.there (Take.there (Take.there (Take.there Take.here)))))) ?_
                        refine Wl.val rfl (V.assign rfl) ?_
                        refine Wl.nil ?_
                        refine Wx.then_n ?_
                        refine Wc.ret ?_
                        repeat (first | refine Wx.then_r ?_ | refine Wx.blk_r ?_ | refine Wx.ng_r ?_)
                        refine Wx.ret1 rfl rfl rfl ?_
                        rw [hput, if_neg (by simpa using hc7)]
                        exact Ent.resC rfl
              exact Wm.nil
            exact Wm.nil
end Go.Proofs.YtjfacgmobpbhcaaGreat
