/- Part 7: what the proof of the law rests on: the walks of the functions that it calls, and the plain laws of what they compute. -/
import Derived.Test.YtjfacgmobpbhcaaGreatBs6
import Derived.ProofKit
import Derived.Test.YtjfacgmobpbhcaaGreatRows
/- The walks: the keys of what isn't sure yet, sorted. -/
namespace Go.Proofs.YtjfacgmobpbhcaaGreat
open Go.Sl Sei
open Go.RowKit (Below)
theorem sorts_in (m : Nat) : AnyZI.SortsIn P lay_sorted_ren Fence.wide m :=
  ⟨fun blk off cap ss W hH hblk hsz => callsIn_wide.2 (AnyM.slices_Sort_int lay_sort blk off cap ss W hH hblk hsz), fun p cap W => callsIn_wide.2 (AnyM.slices_Sort_int_none lay_sort p cap W)⟩
abbrev sortI (l : List Int) : List Int := l.mergeSort fun x y => decide (x ≤ y)
abbrev rdU : Value → Option (DataW Unit × List MemPlace) := fun _ => some (.lit (.bool true), [])
theorem sat_below {g : Gh} {w w' : World} {H : HP} {b : Nat} {o : Obj} (s : Sat g w H) (hb : Below w.heap.size w w') (hn : w.heap.size ≤ b) (ho : w'.heap[b]? = some o) : Sat g w' (blk b o * H) := by
  obtain ⟨h1, h2, h, hh, hw⟩ := s
  have hlt : ∀ r o, h r = some o → r < w.heap.size := fun r o hr => (Array.getElem?_eq_some_iff.1 (hw r o hr)).1
  refine ⟨hb.os.trans h1, hb.output.trans h2, fun r => if r = b then some o else h r, ⟨fun r => if r = b then some o else none, h, by simp [blk], hh, fun r => ?_, fun r => ?_⟩, fun r o' hr => ?_⟩
  · by_cases hr : r = b
    · right
      cases hq : h r with
      | none => rfl
      | some x => have := hlt r x hq; omega
    · left; simp [hr]
  · by_cases hr : r = b
    · simp [hr]
    · simp [hr]
  · dsimp only at hr
    split at hr
    · rename_i he; subst he; injection hr with hr; subst hr; exact ho
    · rw [hb.block r (hlt r o' hr)]; exact hw r o' hr
theorem sat_below0 {g : Gh} {w w' : World} {H : HP} (s : Sat g w H) (hb : Below w.heap.size w w') : Sat g w' H := by
  obtain ⟨h1, h2, h, hh, hw⟩ := s
  exact ⟨hb.os.trans h1, hb.output.trans h2, h, hh, fun r o hr => by rw [hb.block r (Array.getElem?_eq_some_iff.1 (hw r o hr)).1]; exact hw r o hr⟩
theorem keys_owned {w : World} {b ck : Nat} {es : Array MapEntry} {l : List (Int × Value)} (hb : w.heap[b]? = some (.map es ck)) (hm : MapOk es ck l) (hl : l.length ≤ 1000) (hk : ∀ p ∈ l, 0 ≤ p.1 ∧ p.1 < 1000) :
    ∃ D0 : DataW Unit, w.ownsMap P T_int rdU b es.size D0 ∧ (intKeys D0).Perm (l.map (·.1)) ∧ Maps.size D0 = l.length := by
  have hlen : es.size = l.length := by have := congrArg List.length hm.kv; simpa using this
  have hkey : ∀ x ∈ es.toList, ∃ p ∈ l, x.key = .int .i64 p.1 ∧ x.val = p.2 := by
    intro x hx
    have : (x.key, x.val) ∈ es.toList.map (fun e => (e.key, e.val)) := List.mem_map.2 ⟨x, hx, rfl⟩
    rw [hm.kv] at this
    obtain ⟨p, hp, he⟩ := List.mem_map.1 this
    injection he with h1 h2
    exact ⟨p, hp, h1.symm, h2.symm⟩
  have hread : ∀ x ∈ es.toList, ∀ k : Int, x.key = .int .i64 k → WideElems.rd P T_int rdU x = some (.int .i64 k, .lit (.bool true)) := by
    intro x hx k hxk
    obtain ⟨p, hp, h1, _⟩ := hkey x hx
    have hkp : k = p.1 := by rw [hxk] at h1; injection h1
    have hr := hk p hp
    have hwf : (Lit.int .i64 k).wf = true := by
      unfold Lit.wf
      simp only [Bool.and_eq_true, decide_eq_true_eq, IntKind.min, IntKind.max, IntKind.bits]
      exact ⟨by simp [IntKind.signed]; omega, by simp [IntKind.signed]; omega⟩
    unfold WideElems.rd keyOf
    rw [U_int]
    simp only [mapKey, U_int, hxk, hwf, and_self, if_true, Option.bind_some, Option.map_some]
  have hfit : WideElems.Fit P T_int rdU es ck := by
    refine ⟨by rw [hlen]; unfold maxLen; omega, ⟨hm.clock, ?_, ?_⟩, fun x hx => ?_⟩
    · exact List.pairwise_map.2 (hm.born.imp fun h => by omega)
    · have h1 : es.toList.map (·.key) = l.map fun p => Value.int .i64 p.1 := by
        have := congrArg (List.map Prod.fst) hm.kv
        simpa [List.map_map, Function.comp_def] using this
      rw [h1]
      have := hm.nodup
      exact List.pairwise_map.2 ((List.pairwise_map.1 this).imp fun h he => h (by injection he))
    · obtain ⟨p, hp, h1, _⟩ := hkey x hx
      exact ⟨_, hread x hx _ h1⟩
  refine ⟨_, ⟨es, ck, hb, hfit, Nat.le_refl _, rfl⟩, ?_, ?_⟩
  · show (((es.toList.map (WideElems.rg P T_int rdU)).foldr DataW.insert []).map fun p => Go.intOf p.1).Perm _
    refine ((WideShapes.sorted_perm _).map _).trans ?_
    rw [List.map_map]
    have : es.toList.map ((fun p => Go.intOf p.1) ∘ WideElems.rg P T_int rdU) = l.map (·.1) := by
      have h1 : es.toList.map ((fun p => Go.intOf p.1) ∘ WideElems.rg P T_int rdU) = (es.toList.map fun e => (e.key, e.val)).map fun q => (match q.1 with | .int _ n => n | _ => 0) := by
        rw [List.map_map]
        refine List.map_congr_left fun x hx => ?_
        obtain ⟨p, hp, h1, _⟩ := hkey x hx
        simp only [Function.comp_apply, WideElems.rg, hread x hx _ h1, Option.getD_some, Go.intOf, h1]
      rw [h1, hm.kv, List.map_map]
      rfl
    rw [this]
  · show ((es.toList.map (WideElems.rg P T_int rdU)).foldr DataW.insert []).length = _
    rw [(WideShapes.sorted_perm _).length_eq, List.length_map, Array.length_toList, hlen]
theorem s_slices_Sorted_keys (mb b : Nat) (l : List (Int × Value)) (hl : l.length ≤ 1000) (hk : ∀ p ∈ l, 0 ≤ p.1 ∧ p.1 < 1000) :
    Ctr P f_slices_Sorted_int [.func (.func f_maps_Keys_1_map_sector_sector) #[] #[.pointer (some ⟨mb, 0, none⟩)]] (row mb T_Mint_sector_sector [.map (some b)] * mapI b l)
      (fun v => own T_int 1 v (sortI (l.map (·.1))).length (numsV (sortI (l.map (·.1)))) * (row mb T_Mint_sector_sector [.map (some b)] * mapI b l)) where
  enters := enters_of fn_slices_Sorted_int rfl rfl
  calls := fun F g w s => by
    have s0 := s
    rw [sep_assoc] at s
    have hmb : w.heap[mb]? = some (.cells #[.map (some b)] T_Mint_sector_sector (0, 0)) := (s.ent (Ent.left _ _)).get
    have hmap := s.ent ((Ent.right _ _).trans (Ent.left _ _))
    obtain ⟨⟨es, ck⟩, s2⟩ := hmap.exE
    obtain ⟨hm, s3⟩ := s2.pure
    have hb : w.heap[b]? = some (.map es ck) := s3.get
    obtain ⟨D0, hown, hperm, hsize⟩ := keys_owned hb hm hl hk
    have hseq : SeqGives Fence.wide 2 P f_maps_Keys_1_map_sector_sector #[.pointer (some ⟨mb, 0, none⟩)] encZ (fun ss => ss.Perm (intKeys D0)) (Maps.size D0) w :=
      AnyZI.keys_gives (ρ := lay_keys_ren) { lay_keys with } Fence.wide _ trivial rfl (by omega) mb b es.size D0 _ (Array.getElem?_eq_some_iff.1 hmb).1 (by simp [World.cell?, hmb]) hown
    have cS := AnyZI.sorted_in lay_sorted Fence.wide 5 trivial trivial trivial trivial rfl (by omega) (sorts_in _) (enters_of fn_slices_Sort_int rfl rfl) f_maps_Keys_1_map_sector_sector #[.pointer (some ⟨mb, 0, none⟩)] trivial (enters_of fn_maps_Keys_1_map_sector_sector rfl rfl) _ _ (by rw [hsize]; unfold maxLen; omega) (by rw [hsize]; omega) _ hseq
    refine Calls.mono (callsIn_wide.1 cS) ?_
    rintro e w' ⟨v, ss, rfl, hS, hrow, hnil, hbl⟩
    have hss : (ss.mergeSort fun x y => decide (x ≤ y)) = sortI (l.map (·.1)) := mergeSort_of_perm_i (hS.trans hperm)
    have hsl : ss.length = (sortI (l.map (·.1))).length := by rw [← hss, List.length_mergeSort]
    rw [hss, hsl] at hrow
    refine ⟨v, rfl, ?_⟩
    rw [sep_assoc]
    rcases hrow.2 with ⟨rfl, hz⟩ | ⟨gb, cap, cur, rfl, hbase, hgb, r1, r2, r3, r4⟩
    · have hnl : sortI (l.map (·.1)) = [] := List.eq_nil_of_length_eq_zero hz
      rw [hnl]
      exact (sat_below0 s0 hbl).ent (Ent.own_nil T_int 1 _)
    · rw [show cur = cur.toList.toArray by simp] at hgb
      exact (sat_below s0 hbl hbase hgb).ent (Ent.own_row (cur := cur.toList) _ r1 r2 (by simpa using r3) r4)
theorem mapI_nodup {g : Gh} {w : World} {p : Nat} {l : List (Int × Value)} (s : Sat g w (mapI p l)) : (l.map (·.1)).Nodup := by
  obtain ⟨⟨es, ck⟩, s2⟩ := s.exE
  exact s2.pure.1.nodup
theorem s_maps_Keys (b : Nat) : Ctr P f_maps_Keys_map_sector_sector [.map (some b)] emp (fun v => ex fun (mb : Nat) => pu (v = .func (.func f_maps_Keys_1_map_sector_sector) #[] #[.pointer (some ⟨mb, 0, none⟩)]) * row mb T_Mint_sector_sector [.map (some b)]) := by
  refine Ctr.of_body (m := 4) fn_maps_Keys_map_sector_sector rfl rfl rfl rfl rfl (fun F g => ?_)
  refine Wc.seq ?_
  refine Wc.region ?_
  refine Wl.al rfl (M.box (l := [.map (some b)]) rfl rfl) (fun r1 => ?_)
  refine Wl.val rfl (V.assign rfl) ?_
  refine Wl.nil ?_
  refine Wx.then_n ?_
  refine Wc.seq ?_
  refine Wc.region ?_
  refine Wl.val rfl (V.mkFunc rfl rfl) ?_
  refine Wl.val rfl (V.assign rfl) ?_
  refine Wl.nil ?_
  refine Wx.then_n ?_
  refine Wc.ret ?_
  repeat (first | refine Wx.then_r ?_ | refine Wx.blk_r ?_ | refine Wx.ng_r ?_)
  refine Wx.ret1 rfl rfl rfl ?_
  rw [ex_mul]; refine Ent.ex r1 ?_
  exact Ent.resC rfl
def devKeys (D : DevM) : List Int := sortI (D.pend.map (·.1))
theorem pend_keys {D : DevM} : (amap secV D.pend).map (·.1) = D.pend.map (·.1) := by simp [amap, List.map_map, Function.comp_def]
theorem pend_few {D : DevM} (hD : DevOk D) (hn : (D.pend.map (·.1)).Nodup) : D.pend.length ≤ 1000 := by
  have := nodup_le (D.pend.map (·.1)) ((List.range D.l.length).map fun (k : Nat) => (k : Int)) hn fun x hx => by
    obtain ⟨p, hp, rfl⟩ := List.mem_map.1 hx
    have := hD.pend p hp
    exact List.mem_map.2 ⟨p.1.toNat, List.mem_range.2 (by omega), by omega⟩
  have h2 := hD.n
  simp only [List.length_map, List.length_range] at this
  omega
theorem pend_in {D : DevM} (hD : DevOk D) : ∀ p ∈ amap secV D.pend, 0 ≤ p.1 ∧ p.1 < 1000 := by
  intro p hp
  obtain ⟨q, hq, rfl⟩ := List.mem_map.1 hp
  have := hD.pend q hq
  have := hD.n
  exact ⟨by dsimp only; omega, by dsimp only; omega⟩
theorem s_sector_Dev_Pending (d : Nat) {D : DevM} (hD : DevOk D) : Ctr P f_sector_Dev_Pending [ptr d] (Dev d D) (fun v => own T_int 1 v (devKeys D).length (numsV (devKeys D)) * Dev d D) := by
  refine Ctr.of_body (m := 9) fn_sector_Dev_Pending rfl rfl rfl rfl rfl (fun F g => ?_)
  refine Wc.dev (fun rl rm => ?_)
  refine Wc.seq ?_
  refine Wc.region ?_
  refine Wl.val rfl (V.assign rfl) ?_
  refine Wl.nil ?_
  refine Wx.then_n ?_
  refine Wc.seq ?_
  refine Wc.region ?_
  refine Wl.val rfl (V.move rfl) ?_
  refine Wl.val rfl (V.nil rfl) ?_
  refine Wl.val rfl (V.fld _ rfl O_sector_Dev_1 rfl) ?_
  refine Wl.val rfl (V.ld rfl C_Mint_sector_sector rfl) ?_
  refine Wl.call rfl rfl (s_maps_Keys rm) (by first | exact Take.here | exact Take.there Take.here | exact Take.there (Take.there Take.here) | exact Take.there (Take.there (Take.there Take.here)) | exact Take.none _ | exact TakeC.t | exact Take.there (Take.there (Take.there (Take.there Take.here))) | exact Take.there (Take.there (Take.there (Take.there (Take.there Take.here)))) | exact Take.there (Take.there (Take.there (Take.there (Take.there (Take.there Take.here)))))) (fun v7 => ?_)
  refine Wl.exm (fun mb => ?_)
  refine Wl.pull (fun hmb => ?_)
  subst hmb
  refine Wl.know (fun g w s => mapI_nodup (s.ent (B := mapI rm (amap secV D.pend)) Ent.auto)) (fun hnd => ?_)
  rw [pend_keys] at hnd
  refine Wl.call rfl rfl (s_slices_Sorted_keys mb rm (amap secV D.pend) (by simpa [amap] using pend_few hD hnd) (pend_in hD)) (by first | exact Take.here | exact Take.there Take.here | exact Take.there (Take.there Take.here) | exact Take.there (Take.there (Take.there Take.here)) | exact Take.none _ | exact TakeC.t | exact Take.there (Take.there (Take.there (Take.there Take.here))) | exact Take.there (Take.there (Take.there (Take.there (Take.there Take.here)))) | exact Take.there (Take.there (Take.there (Take.there (Take.there (Take.there Take.here)))))) (fun v8 => ?_)
  rw [show sortI ((amap secV D.pend).map (·.1)) = devKeys D by rw [pend_keys]; rfl]
  refine Wl.val rfl (V.assign rfl) ?_
  refine Wl.nil ?_
  refine Wx.then_n ?_
  refine Wc.ret ?_
  repeat (first | refine Wx.then_r ?_ | refine Wx.blk_r ?_ | refine Wx.ng_r ?_)
  refine Wx.ret1 rfl rfl rfl ?_
  refine Ent.trans (B := own T_int 1 v8 (devKeys D).length (numsV (devKeys D)) * DevB d rl rm D * F) ?_ (((Dev.intro d rl rm D).framel _).frame F)
  exact Ent.auto
theorem s_sector_Crash_nil (d : Nat) {D : DevM} (hD : DevOk D) : Ctr P f_sector_Dev_Crash [ptr d, .slice none 0 0] (Dev d D) (fun v => pu (v = .tuple #[]) * Dev d (devUp D)) := by
  refine Ctr.of_body (m := 60) fn_sector_Dev_Crash rfl rfl rfl rfl rfl (fun F g => ?_)
  refine Wc.seq ?_
  refine Wc.seq ?_
  refine Wc.region ?_
  refine Wl.val rfl (V.move rfl) ?_
  refine Wl.call rfl rfl (s_sector_Dev_Pending d hD) (by first | exact Take.here | exact Take.there Take.here | exact Take.there (Take.there Take.here) | exact Take.there (Take.there (Take.there Take.here)) | exact Take.none _ | exact TakeC.t | exact Take.there (Take.there (Take.there (Take.there Take.here))) | exact Take.there (Take.there (Take.there (Take.there (Take.there Take.here)))) | exact Take.there (Take.there (Take.there (Take.there (Take.there (Take.there Take.here)))))) (fun v8 => ?_)
  refine Wl.know (fun g w s => Vw.of_own T_int 1 v8 (devKeys D).length (numsV (devKeys D)) g w (s.ent Ent.auto)) (fun hv => ?_)
  have hvl := hv.le
  refine Wl.val rfl (V.lenW rfl U_Sint hv) ?_
  refine Wl.val rfl (V.move rfl) ?_
  refine Wl.nil ?_
  refine Wx.then_n ?_
  refine Wc.block ?_
  refine Wc.loop (α := Nat) (fun x => (devKeys D).length - x) (fun x => pu (x = 0) * (own T_int 1 v8 (devKeys D).length (numsV (devKeys D)) * (Dev d D * F))) (fun x => [(0, ptr d), (1, .slice none 0 0), (8, v8), (9, i64 ((devKeys D).length : Nat)), (10, i64 (x : Nat))]) 0 (by exact Ent.puC rfl) (by repeat (first | exact trivial | refine ⟨rfl, ?_⟩)) (fun x => ?_)
  refine Wc.pu (fun hx => ?_)
  subst hx
  refine Wc.seq ?_
  refine Wc.region ?_
  refine Wl.val rfl (V.lss rfl rfl) ?_
  refine Wl.nil ?_
  refine Wx.then_n ?_
  refine Wc.seq ?_
  refine Wc.cond rfl (fun hc1 => ?_) (fun hc1 => ?_)
  · skip
    try replace hc1 := of_decide_eq_true hc1
    refine Wc.skip ?_
    refine Wx.then_n ?_
    refine Wc.seq ?_
    refine Wc.block ?_
    refine Wc.seq ?_
    refine Wc.region ?_
    refine Wl.val rfl (V.move rfl) ?_
    refine Wl.val rfl (V.idxW rfl rfl U_Sint Z_int hv (by omega) (by omega)) ?_
    refine Wl.val rfl (V.ldW (u := i64 ((devKeys D).getD 0 0)) rfl C_int hv (by simpa using nums_at (l := devKeys D) (j := 0) (by omega))) ?_
    refine Wl.val rfl (V.assign rfl) ?_
    refine Wl.val rfl (V.assign rfl) ?_
    refine Wl.nil ?_
    refine Wx.then_n ?_
    refine Wc.seq ?_
    refine Wc.seq ?_
    refine Wc.region ?_
    refine Wl.val rfl (V.move rfl) ?_
    refine Wl.val rfl (V.move rfl) ?_
    refine Wl.val rfl (V.lenS rfl U_Ssector_Keep) ?_
    refine Wl.val rfl (V.geq rfl rfl) ?_
    refine Wl.nil ?_
    refine Wx.then_n ?_
    refine Wc.cond rfl (fun hc2 => ?_) (fun hc2 => ?_)
    · skip
      try replace hc2 := of_decide_eq_true hc2
      refine Wc.exit ?_
      refine Wx.then_x ?_
      refine Wx.blk_o rfl ?_
      refine Wx.then_x ?_
      refine Wx.then_x ?_
      refine Wx.blk_x ?_
      refine Wx.then_n ?_
      refine Wc.region ?_
      refine Wl.val rfl (V.move rfl) ?_
      first | refine Wl.callE rfl rfl (s_sector_Dev_up d D) ?_ | refine Wl.callD rfl rfl (s_sector_Dev_up d D) (by first | exact Take.here | exact Take.there Take.here | exact Take.there (Take.there Take.here) | exact Take.there (Take.there (Take.there Take.here)) | exact Take.none _ | exact TakeC.t | exact Take.there (Take.there (Take.there (Take.there Take.here))) | exact Take.there (Take.there (Take.there (Take.there (Take.there Take.here)))) | exact Take.there (Take.there (Take.there (Take.there (Take.there (Take.there Take.here)))))) ?_
      refine Wl.nil ?_
      refine Wx.end0 rfl rfl ?_
      first | exact Ent.resF rfl | exact Ent.resC rfl | exact Ent.refl _ | exact Ent.auto
    · simp at hc2
  · skip
    try replace hc1 := of_decide_eq_false hc1
    refine Wc.exit ?_
    refine Wx.then_x ?_
    refine Wx.then_x ?_
    refine Wx.blk_x ?_
    refine Wx.then_n ?_
    refine Wc.region ?_
    refine Wl.val rfl (V.move rfl) ?_
    first | refine Wl.callE rfl rfl (s_sector_Dev_up d D) ?_ | refine Wl.callD rfl rfl (s_sector_Dev_up d D) (by first | exact Take.here | exact Take.there Take.here | exact Take.there (Take.there Take.here) | exact Take.there (Take.there (Take.there Take.here)) | exact Take.none _ | exact TakeC.t | exact Take.there (Take.there (Take.there (Take.there Take.here))) | exact Take.there (Take.there (Take.there (Take.there (Take.there Take.here)))) | exact Take.there (Take.there (Take.there (Take.there (Take.there (Take.there Take.here)))))) ?_
    refine Wl.nil ?_
    refine Wx.end0 rfl rfl ?_
    first | exact Ent.resF rfl | exact Ent.resC rfl | exact Ent.refl _ | exact Ent.auto
end Go.Proofs.YtjfacgmobpbhcaaGreat
/- The walks: the calls by which a law finds a cache awake. -/
namespace Go.Proofs.YtjfacgmobpbhcaaGreat
open Go.Sl Sei
structure AwakeF (A1 B1 A2 A3 A4 A5 A6 A7 A8 A9 A10 : DevM × CacheM × Int) : Prop where
  e1 : cOpen (devNew 10) 2 8 0 1 4 = A1
  z1 : A1.2.2 = 0
  ok1 : CacheOk A1.1 A1.2.1
  d1 : A1.1.dead = false
  l1 : A1.1.l.length = 10
  eb : cOpen A1.1 2 7 0 1 4 = B1
  zb : B1.2.2 = 1
  bb : B1.1 = A1.1
  r1 : cRoom A1.2.1 = 2
  e2 : cPut A1.1 A1.2.1 (awE 0 1) = A2
  z2 : A2.2.2 = 0
  ok2 : CacheOk A2.1 A2.2.1
  e3 : cPut A2.1 A2.2.1 (awE 1 2) = A3
  z3 : A3.2.2 = 0
  ok3 : CacheOk A3.1 A3.2.1
  e4 : cPut A3.1 A3.2.1 (awE 2 3) = A4
  z4 : A4.2.2 = 12
  ok4 : CacheOk A4.1 A4.2.1
  e5 : cClean A4.1 A4.2.1 0 ⟨1, 1⟩ = A5
  z5 : A5.2.2 = 0
  ok5 : CacheOk A5.1 A5.2.1
  e6 : cPut A5.1 A5.2.1 (awE 2 3) = A6
  z6 : A6.2.2 = 0
  ok6 : CacheOk A6.1 A6.2.1
  e7 : cPut A6.1 A6.2.1 (awE 1 3) = A7
  z7 : A7.2.2 = 1
  ok7 : CacheOk A7.1 A7.2.1
  e8 : cSync A7.1 A7.2.1 = A8
  z8 : A8.2.2 = 0
  ok8 : CacheOk A8.1 A8.2.1
  l8 : A8.1.l.length = 10
  e9 : cOpen (devUp A8.1) 2 8 0 1 4 = A9
  z9 : A9.2.2 = 0
  ok9 : CacheOk A9.1 A9.2.1
  g0 : (cGet A9.2.1 0).2 = false
  g2 : cGet A9.2.1 2 = (awE 2 3, true)
  all : (cAll A9.2.1).length = 2
  last : A9.2.1.kept.last = ⟨1, 3⟩
  num : cNumber A9.2.1 1 = 3
  e10 : cDrop A9.1 A9.2.1 0 = A10
  z10 : A10.2.2 = 10
  ok10 : CacheOk A10.1 A10.2.1
  e11 : (cNote A10.1 A10.2.1 ver0 []).2.2 = 1
theorem devUp_ok {D : DevM} (h : DevOk D) : DevOk (devUp D) := ⟨h.secs, (by intro p hp; cases hp), h.n, (⟨by decide, by decide⟩ : -1 ≤ (-1 : Int) ∧ (-1 : Int) ≤ 9223372036854775807)⟩
theorem ok_open {A : DevM × CacheM × Int} {D : DevM} {first n a b : Nat} {blocks : Int} (h : cOpen D first n a b blocks = A) (hD : DevOk D) (hn : 2 ≤ n) (hf : first + n ≤ D.l.length) (z : A.2.2 = 0) : CacheOk A.1 A.2.1 := by
  subst h; exact cOpen_ok hD first n a b blocks hn hf z
theorem ok_put {A : DevM × CacheM × Int} {D : DevM} {C : CacheM} {b s : Int} (h : cPut D C (awE b s) = A) (hC : CacheOk D C) (hs : I64 s) : CacheOk A.1 A.2.1 := by
  subst h; exact hC.put ⟨(⟨by decide, by decide⟩ : I64 1), hs⟩ hs
theorem devUp_len (D : DevM) : (devUp D).l.length = D.l.length := rfl
theorem awake_of {A1 B1 A2 A3 A4 A5 A6 A7 A8 A9 A10 : DevM × CacheM × Int} (e1 : cOpen (devNew 10) 2 8 0 1 4 = A1) (eb : cOpen A1.1 2 7 0 1 4 = B1) (e2 : cPut A1.1 A1.2.1 (awE 0 1) = A2) (e3 : cPut A2.1 A2.2.1 (awE 1 2) = A3) (e4 : cPut A3.1 A3.2.1 (awE 2 3) = A4)
    (e5 : cClean A4.1 A4.2.1 0 ⟨1, 1⟩ = A5) (e6 : cPut A5.1 A5.2.1 (awE 2 3) = A6) (e7 : cPut A6.1 A6.2.1 (awE 1 3) = A7) (e8 : cSync A7.1 A7.2.1 = A8) (e9 : cOpen (devUp A8.1) 2 8 0 1 4 = A9) (e10 : cDrop A9.1 A9.2.1 0 = A10)
    (f1 : A1.2.2 = 0 ∧ B1.2.2 = 1 ∧ B1.1 = A1.1 ∧ cRoom A1.2.1 = 2) (f2 : A2.2.2 = 0 ∧ A3.2.2 = 0 ∧ A4.2.2 = 12 ∧ A5.2.2 = 0 ∧ A6.2.2 = 0 ∧ A7.2.2 = 1 ∧ A8.2.2 = 0) (f3 : A9.2.2 = 0)
    (f4 : (cGet A9.2.1 0).2 = false ∧ cGet A9.2.1 2 = (awE 2 3, true) ∧ (cAll A9.2.1).length = 2 ∧ A9.2.1.kept.last = ⟨1, 3⟩ ∧ cNumber A9.2.1 1 = 3) (f5 : A10.2.2 = 10 ∧ (cNote A10.1 A10.2.1 ver0 []).2.2 = 1) (f6 : A1.1.dead = false ∧ A1.1.l.length = 10 ∧ A8.1.l.length = 10) : AwakeF A1 B1 A2 A3 A4 A5 A6 A7 A8 A9 A10 := by
  obtain ⟨z1, zb, bb, r1⟩ := f1
  obtain ⟨z2, z3, z4, z5, z6, z7, z8⟩ := f2
  obtain ⟨g0, g2, all, last, num⟩ := f4
  obtain ⟨z10, e11⟩ := f5
  obtain ⟨d1, l1, l8⟩ := f6
  have ok1 : CacheOk A1.1 A1.2.1 := ok_open e1 (devNew_ok 10 (by decide)) (by decide) (by simp [devNew]) z1
  have ok2 := ok_put e2 ok1 ⟨by decide, by decide⟩
  have ok3 := ok_put e3 ok2 ⟨by decide, by decide⟩
  have ok4 := ok_put e4 ok3 ⟨by decide, by decide⟩
  have ok5 : CacheOk A5.1 A5.2.1 := by rw [← e5]; exact ok4.clean 0 ⟨(⟨by decide, by decide⟩ : I64 1), (⟨by decide, by decide⟩ : I64 1)⟩
  have ok6 := ok_put e6 ok5 ⟨by decide, by decide⟩
  have ok7 := ok_put e7 ok6 ⟨by decide, by decide⟩
  have ok8 : CacheOk A8.1 A8.2.1 := by rw [← e8]; exact ok7.sync
  have ok9 : CacheOk A9.1 A9.2.1 := ok_open e9 (devUp_ok ok8.log.dev) (by decide) (by rw [devUp_len, l8]; decide) f3
  have ok10 : CacheOk A10.1 A10.2.1 := by rw [← e10]; exact ok9.drop 0
  exact ⟨e1, z1, ok1, d1, l1, eb, zb, bb, r1, e2, z2, ok2, e3, z3, ok3, e4, z4, ok4, e5, z5, ok5, e6, z6, ok6, e7, z7, ok7, e8, z8, ok8, l8, e9, f3, ok9, g0, g2, all, last, num, e10, z10, ok10, e11⟩
theorem awakeF : AwakeF aw1 (cOpen aw1.1 2 7 0 1 4) aw2 aw3 aw4 aw5 aw6 aw7 aw8 aw9 (cDrop aw9.1 aw9.2.1 0) :=
  awake_of (by unfold aw1; rfl) (Eq.refl _) (by unfold aw2; rfl) (by unfold aw3; rfl) (by unfold aw4; rfl) (by unfold aw5; rfl) (by unfold aw6; rfl) (by unfold aw7; rfl) (by unfold aw8; rfl) (by unfold aw9; rfl) (Eq.refl _) aw_ok1 aw_ok2 aw_ok3.2 aw_ok4 aw_ok5 aw_ok6
abbrev strAw : List UInt8 := [97, 98, 99, 100, 101, 102, 103, 104]
theorem s_law09_awake_1 (p cc d : Nat) {D : DevM} {C : CacheM} (hC : CacheOk D C) (b s : Int) (hb : I64 b) (hs : I64 s) : Ctr P f_law09_awake_1 [i64 b, i64 s, .bool true, ptr p] (row p T_Pcache_Cache [ptr cc] * (Cache cc d C * Dev d D)) (fun v => pu (v = i64 (cPut D C (awE b s)).2.2) * (row p T_Pcache_Cache [ptr cc] * (Cache cc d (cPut D C (awE b s)).2.1 * Dev d (cPut D C (awE b s)).1))) := by
  refine Ctr.of_body (m := 16) fn_law09_awake_1 rfl rfl rfl rfl rfl (fun F g => ?_)
  refine Wc.seq ?_
  refine Wc.region ?_
  refine Wl.val rfl (V.assign rfl) ?_
  refine Wl.nil ?_
  refine Wx.then_n ?_
  refine Wc.seq ?_
  refine Wc.region ?_
  refine Wl.val rfl (V.ld rfl C_Pcache_Cache rfl) ?_
  refine Wl.val rfl (V.move rfl) ?_
  refine Wl.val rfl (V.move rfl) ?_
  refine Wl.val rfl (V.build B_api_Version rfl rfl) ?_
  refine Wl.val rfl (V.move rfl) ?_
  refine Wl.val rfl (V.move rfl) ?_
  refine Wl.val rfl (V.build (l := etyV (awE b s)) B_api_Entry rfl rfl) ?_
  first | refine Wl.callE rfl rfl (s_cache_Cache_Put cc d hC (awE b s) hb ⟨(⟨by decide, by decide⟩ : I64 1), hs⟩ (⟨by decide, by decide⟩ : I64 1) hs) ?_ | refine Wl.callD rfl rfl (s_cache_Cache_Put cc d hC (awE b s) hb ⟨(⟨by decide, by decide⟩ : I64 1), hs⟩ (⟨by decide, by decide⟩ : I64 1) hs) (by first | exact Take.here | exact Take.there Take.here | exact Take.there (Take.there Take.here) | exact Take.there (Take.there (Take.there Take.here)) | exact Take.none _ | exact TakeC.t | exact Take.there (Take.there (Take.there (Take.there Take.here))) | exact Take.there (Take.there (Take.there (Take.there (Take.there Take.here)))) | exact Take.there (Take.there (Take.there (Take.there (Take.there (Take.there Take.here)))))) ?_
  refine Wl.val rfl (V.assign rfl) ?_
  refine Wl.nil ?_
  refine Wx.then_n ?_
  refine Wc.ret ?_
  repeat (first | refine Wx.then_r ?_ | refine Wx.blk_r ?_ | refine Wx.ng_r ?_)
  refine Wx.ret1 rfl rfl rfl ?_
  first | exact Ent.resF rfl | exact Ent.resC rfl | exact Ent.refl _ | exact Ent.auto
theorem s_law09_awake_of {A1 B1 A2 A3 A4 A5 A6 A7 A8 A9 A10 : DevM × CacheM × Int} (H : AwakeF A1 B1 A2 A3 A4 A5 A6 A7 A8 A9 A10) : Ctr P f_law09_awake [] emp (fun r => pu (r = .bool true) * emp) := by
  have hn1 : -1000 ≤ A1.2.1.n ∧ A1.2.1.n ≤ 1000 := by have := H.ok1.n; have := H.ok1.log.n'; omega
  refine Ctr.of_body (m := 141) fn_law09_awake rfl rfl rfl rfl rfl (fun F g => ?_)
  refine Wc.seq ?_
  refine Wc.region ?_
  refine Wl.val rfl (V.assign rfl) ?_
  refine Wl.nil ?_
  refine Wx.then_n ?_
  refine Wc.seq ?_
  refine Wc.region ?_
  refine Wl.call rfl rfl (s_sector_New 10 (by decide)) (by first | exact Take.here | exact Take.there Take.here | exact Take.there (Take.there Take.here) | exact Take.there (Take.there (Take.there Take.here)) | exact Take.none _ | exact TakeC.t | exact Take.there (Take.there (Take.there (Take.there Take.here))) | exact Take.there (Take.there (Take.there (Take.there (Take.there Take.here)))) | exact Take.there (Take.there (Take.there (Take.there (Take.there (Take.there Take.here)))))) (fun v13 => ?_)
  refine Wl.exm (fun d => ?_)
  refine Wl.pull (fun hd => ?_)
  subst hd
  refine Wl.val rfl (V.assign rfl) ?_
  refine Wl.nil ?_
  refine Wx.then_n ?_
  refine Wc.seq ?_
  refine Wc.seq ?_
  refine Wc.region ?_
  refine Wl.val rfl (V.move rfl) ?_
  refine Wl.val rfl (V.eqPtrNil rfl U_Psector_Dev) ?_
  refine Wl.nil ?_
  refine Wx.then_n ?_
  refine Wc.cond rfl (fun hc1 => ?_) (fun hc1 => ?_)
  · exact absurd hc1 (by simp)
  · skip
    try replace hc1 := of_decide_eq_false hc1
    refine Wc.skip ?_
    refine Wx.then_n ?_
    refine Wc.seq ?_
    refine Wc.region ?_
    refine Wl.val rfl (V.move rfl) ?_
    refine Wl.call rfl rfl (s_cache_Open d (devNew_ok 10 (by decide)) rfl 2 8 0 1 4 ⟨by decide, by decide⟩ (by decide) (by simp [devNew]) (by decide) (by simp [devNew]) (by simp [devNew]) (.inl (by decide)) (.inl (by decide))) (by first | exact Take.here | exact Take.there Take.here | exact Take.there (Take.there Take.here) | exact Take.there (Take.there (Take.there Take.here)) | exact Take.none _ | exact TakeC.t | exact Take.there (Take.there (Take.there (Take.there Take.here))) | exact Take.there (Take.there (Take.there (Take.there (Take.there Take.here)))) | exact Take.there (Take.there (Take.there (Take.there (Take.there (Take.there Take.here)))))) (fun v18 => ?_)
    rw [H.e1]
    refine Wl.exm (fun o => ?_)
    refine Wl.pull (fun hq => ?_)
    obtain ⟨rfl, hoe⟩ := hq
    obtain ⟨cc, rfl⟩ : ∃ cc, o = some cc := by cases o with
      | none => exact absurd (hoe.2 H.z1) (by simp)
      | some cc => exact ⟨cc, rfl⟩
    rw [show ∀ X : Nat → HP, optH X (some cc) = X cc from fun _ => rfl, H.z1, show optP (some cc) = ptr cc from rfl]
    refine Wl.ent (H' := Cache cc d A1.2.1 * (Dev d A1.1 * F)) Ent.auto ?_
    refine Wl.val rfl (V.move rfl) ?_
    refine Wl.val rfl (V.ext rfl rfl) ?_
    refine Wl.val rfl (V.ext rfl rfl) ?_
    refine Wl.al rfl (M.alloc N_Pcache_Cache) (fun r2 => ?_)
    refine Wl.st (Go.Sl.S.put rfl rfl C_Pcache_Cache rfl rfl) ?_
    refine Wl.val rfl (V.assign rfl) ?_
    refine Wl.nil ?_
    refine Wx.then_n ?_
    refine Wc.seq ?_
    refine Wc.region ?_
    refine Wl.val rfl (V.move rfl) ?_
    refine Wl.call rfl rfl (s_cache_Open d H.ok1.log.dev H.d1 2 7 0 1 4 ⟨by decide, by decide⟩ (by decide) (by rw [H.l1]; decide) (by decide) (by rw [H.l1]; decide) (by rw [H.l1]; decide) (.inl (by decide)) (.inl (by decide))) (by first | exact Take.here | exact Take.there Take.here | exact Take.there (Take.there Take.here) | exact Take.there (Take.there (Take.there Take.here)) | exact Take.none _ | exact TakeC.t | exact Take.there (Take.there (Take.there (Take.there Take.here))) | exact Take.there (Take.there (Take.there (Take.there (Take.there Take.here)))) | exact Take.there (Take.there (Take.there (Take.there (Take.there (Take.there Take.here)))))) (fun v23 => ?_)
    rw [H.eb]
    refine Wl.exm (fun o => ?_)
    refine Wl.pull (fun hq => ?_)
    obtain ⟨rfl, hoe2⟩ := hq
    rw [H.zb, H.bb]
    refine Wl.val rfl (V.move rfl) ?_
    refine Wl.val rfl (V.ext rfl rfl) ?_
    refine Wl.val rfl (V.ext rfl rfl) ?_
    refine Wl.val rfl (V.assign rfl) ?_
    refine Wl.val rfl (V.assign rfl) ?_
    refine Wl.nil ?_
    refine Wx.then_n ?_
    refine Wc.seq ?_
    refine Wc.seq ?_
    refine Wc.region ?_
    refine Wl.val rfl (V.ld rfl C_Pcache_Cache rfl) ?_
    refine Wl.val rfl (V.eqPtrNil rfl U_Pcache_Cache) ?_
    refine Wl.val rfl (V.move rfl) ?_
    refine Wl.bool 28 rfl (fun hb28 => absurd hb28 (by simp)) (fun hb28 => ?_)
    refine Wl.gT rfl rfl ?_
    refine Wl.val rfl (V.move rfl) ?_
    refine Wl.gT rfl rfl ?_
    refine Wl.val rfl (V.neq rfl rfl) ?_
    refine Wl.val rfl (V.pickF rfl rfl) ?_
    refine Wl.val rfl (V.move rfl) ?_
    refine Wl.bool 32 rfl (fun hb32 => absurd hb32 (by simp)) (fun hb32 => ?_)
    refine Wl.gT rfl rfl ?_
    refine Wl.val rfl (V.move rfl) ?_
    refine Wl.gT rfl rfl ?_
    refine Wl.val rfl (V.neq rfl rfl) ?_
    refine Wl.val rfl (V.pickF rfl rfl) ?_
    refine Wl.val rfl (V.move rfl) ?_
    refine Wl.bool 36 rfl (fun hb36 => absurd hb36 (by simp)) (fun hb36 => ?_)
    refine Wl.gT rfl rfl ?_
    refine Wl.val rfl (V.ld rfl C_Pcache_Cache rfl) ?_
    refine Wl.gT rfl rfl ?_
    first | refine Wl.callE rfl rfl (s_cache_Cache_Room cc d A1.2.1 hn1) ?_ | refine Wl.callD rfl rfl (s_cache_Cache_Room cc d A1.2.1 hn1) (by first | exact Take.here | exact Take.there Take.here | exact Take.there (Take.there Take.here) | exact Take.there (Take.there (Take.there Take.here)) | exact Take.none _ | exact TakeC.t | exact Take.there (Take.there (Take.there (Take.there Take.here))) | exact Take.there (Take.there (Take.there (Take.there (Take.there Take.here)))) | exact Take.there (Take.there (Take.there (Take.there (Take.there (Take.there Take.here)))))) ?_
    rw [H.r1]
    refine Wl.gT rfl rfl ?_
    refine Wl.val rfl (V.neq rfl rfl) ?_
    refine Wl.val rfl (V.pickF rfl rfl) ?_
    refine Wl.nil ?_
    refine Wx.then_n ?_
    refine Wc.condF rfl ?_
    refine Wc.skip ?_
    refine Wx.then_n ?_
    refine Wc.seq ?_
    refine Wc.region ?_
    refine Wl.val rfl (V.mkFunc rfl rfl) ?_
    refine Wl.ent (H' := row r2 T_Pcache_Cache [ptr cc] * (Cache cc d A1.2.1 * (Dev d A1.1 * F))) Ent.auto ?_
    refine Wl.val rfl (V.assign rfl) ?_
    refine Wl.nil ?_
    refine Wx.then_n ?_
    refine Wc.seq ?_
    refine Wc.seq ?_
    refine Wc.region ?_
    refine Wl.val rfl (V.move rfl) ?_
    first | refine Wl.callvE rfl rfl rfl (s_law09_awake_1 r2 cc d H.ok1 0 1 ⟨by decide, by decide⟩ ⟨by decide, by decide⟩) ?_ | refine Wl.callvD rfl rfl rfl (s_law09_awake_1 r2 cc d H.ok1 0 1 ⟨by decide, by decide⟩ ⟨by decide, by decide⟩) (by first | exact Take.here | exact Take.there Take.here | exact Take.there (Take.there Take.here) | exact Take.there (Take.there (Take.there Take.here)) | exact Take.none _ | exact TakeC.t | exact Take.there (Take.there (Take.there (Take.there Take.here))) | exact Take.there (Take.there (Take.there (Take.there (Take.there Take.here)))) | exact Take.there (Take.there (Take.there (Take.there (Take.there (Take.there Take.here)))))) ?_
    rw [H.e2, H.z2]
    refine Wl.val rfl (V.neq rfl rfl) ?_
    refine Wl.val rfl (V.move rfl) ?_
    refine Wl.bool 45 rfl (fun hb45 => absurd hb45 (by simp)) (fun hb45 => ?_)
    refine Wl.gT rfl rfl ?_
    refine Wl.val rfl (V.move rfl) ?_
    refine Wl.gT rfl rfl ?_
    first | refine Wl.callvE rfl rfl rfl (s_law09_awake_1 r2 cc d H.ok2 1 2 ⟨by decide, by decide⟩ ⟨by decide, by decide⟩) ?_ | refine Wl.callvD rfl rfl rfl (s_law09_awake_1 r2 cc d H.ok2 1 2 ⟨by decide, by decide⟩ ⟨by decide, by decide⟩) (by first | exact Take.here | exact Take.there Take.here | exact Take.there (Take.there Take.here) | exact Take.there (Take.there (Take.there Take.here)) | exact Take.none _ | exact TakeC.t | exact Take.there (Take.there (Take.there (Take.there Take.here))) | exact Take.there (Take.there (Take.there (Take.there (Take.there Take.here)))) | exact Take.there (Take.there (Take.there (Take.there (Take.there (Take.there Take.here)))))) ?_
    rw [H.e3, H.z3]
    refine Wl.gT rfl rfl ?_
    refine Wl.val rfl (V.neq rfl rfl) ?_
    refine Wl.val rfl (V.pickF rfl rfl) ?_
    refine Wl.val rfl (V.move rfl) ?_
    refine Wl.bool 50 rfl (fun hb50 => absurd hb50 (by simp)) (fun hb50 => ?_)
    refine Wl.gT rfl rfl ?_
    refine Wl.val rfl (V.move rfl) ?_
    refine Wl.gT rfl rfl ?_
    first | refine Wl.callvE rfl rfl rfl (s_law09_awake_1 r2 cc d H.ok3 2 3 ⟨by decide, by decide⟩ ⟨by decide, by decide⟩) ?_ | refine Wl.callvD rfl rfl rfl (s_law09_awake_1 r2 cc d H.ok3 2 3 ⟨by decide, by decide⟩ ⟨by decide, by decide⟩) (by first | exact Take.here | exact Take.there Take.here | exact Take.there (Take.there Take.here) | exact Take.there (Take.there (Take.there Take.here)) | exact Take.none _ | exact TakeC.t | exact Take.there (Take.there (Take.there (Take.there Take.here))) | exact Take.there (Take.there (Take.there (Take.there (Take.there Take.here)))) | exact Take.there (Take.there (Take.there (Take.there (Take.there (Take.there Take.here)))))) ?_
    rw [H.e4, H.z4]
    refine Wl.gT rfl rfl ?_
    refine Wl.val rfl (V.neq rfl rfl) ?_
    refine Wl.val rfl (V.pickF rfl rfl) ?_
    refine Wl.val rfl (V.move rfl) ?_
    refine Wl.bool 55 rfl (fun hb55 => absurd hb55 (by simp)) (fun hb55 => ?_)
    refine Wl.gT rfl rfl ?_
    refine Wl.val rfl (V.ld rfl C_Pcache_Cache rfl) ?_
    refine Wl.gT rfl rfl ?_
    refine Wl.val rfl (V.build (l := verV ⟨1, 1⟩) B_api_Version rfl rfl) ?_
    refine Wl.gT rfl rfl ?_
    first | refine Wl.callE rfl rfl (s_cache_Cache_Clean cc d H.ok4 0 ⟨1, 1⟩ ⟨(⟨by decide, by decide⟩ : I64 1), (⟨by decide, by decide⟩ : I64 1)⟩) ?_ | refine Wl.callD rfl rfl (s_cache_Cache_Clean cc d H.ok4 0 ⟨1, 1⟩ ⟨(⟨by decide, by decide⟩ : I64 1), (⟨by decide, by decide⟩ : I64 1)⟩) (by first | exact Take.here | exact Take.there Take.here | exact Take.there (Take.there Take.here) | exact Take.there (Take.there (Take.there Take.here)) | exact Take.none _ | exact TakeC.t | exact Take.there (Take.there (Take.there (Take.there Take.here))) | exact Take.there (Take.there (Take.there (Take.there (Take.there Take.here)))) | exact Take.there (Take.there (Take.there (Take.there (Take.there (Take.there Take.here)))))) ?_
    rw [H.e5, H.z5]
    refine Wl.gT rfl rfl ?_
    refine Wl.val rfl (V.neq rfl rfl) ?_
    refine Wl.val rfl (V.pickF rfl rfl) ?_
    refine Wl.val rfl (V.move rfl) ?_
    refine Wl.bool 61 rfl (fun hb61 => absurd hb61 (by simp)) (fun hb61 => ?_)
    refine Wl.gT rfl rfl ?_
    refine Wl.val rfl (V.move rfl) ?_
    refine Wl.gT rfl rfl ?_
    first | refine Wl.callvE rfl rfl rfl (s_law09_awake_1 r2 cc d H.ok5 2 3 ⟨by decide, by decide⟩ ⟨by decide, by decide⟩) ?_ | refine Wl.callvD rfl rfl rfl (s_law09_awake_1 r2 cc d H.ok5 2 3 ⟨by decide, by decide⟩ ⟨by decide, by decide⟩) (by first | exact Take.here | exact Take.there Take.here | exact Take.there (Take.there Take.here) | exact Take.there (Take.there (Take.there Take.here)) | exact Take.none _ | exact TakeC.t | exact Take.there (Take.there (Take.there (Take.there Take.here))) | exact Take.there (Take.there (Take.there (Take.there (Take.there Take.here)))) | exact Take.there (Take.there (Take.there (Take.there (Take.there (Take.there Take.here)))))) ?_
    rw [H.e6, H.z6]
    refine Wl.gT rfl rfl ?_
    refine Wl.val rfl (V.neq rfl rfl) ?_
    refine Wl.val rfl (V.pickF rfl rfl) ?_
    refine Wl.val rfl (V.move rfl) ?_
    refine Wl.bool 66 rfl (fun hb66 => absurd hb66 (by simp)) (fun hb66 => ?_)
    refine Wl.gT rfl rfl ?_
    refine Wl.val rfl (V.move rfl) ?_
    refine Wl.gT rfl rfl ?_
    first | refine Wl.callvE rfl rfl rfl (s_law09_awake_1 r2 cc d H.ok6 1 3 ⟨by decide, by decide⟩ ⟨by decide, by decide⟩) ?_ | refine Wl.callvD rfl rfl rfl (s_law09_awake_1 r2 cc d H.ok6 1 3 ⟨by decide, by decide⟩ ⟨by decide, by decide⟩) (by first | exact Take.here | exact Take.there Take.here | exact Take.there (Take.there Take.here) | exact Take.there (Take.there (Take.there Take.here)) | exact Take.none _ | exact TakeC.t | exact Take.there (Take.there (Take.there (Take.there Take.here))) | exact Take.there (Take.there (Take.there (Take.there (Take.there Take.here)))) | exact Take.there (Take.there (Take.there (Take.there (Take.there (Take.there Take.here)))))) ?_
    rw [H.e7, H.z7]
    refine Wl.gT rfl rfl ?_
    refine Wl.val rfl (V.neq rfl rfl) ?_
    refine Wl.val rfl (V.pickF rfl rfl) ?_
    refine Wl.val rfl (V.move rfl) ?_
    refine Wl.bool 71 rfl (fun hb71 => absurd hb71 (by simp)) (fun hb71 => ?_)
    refine Wl.gT rfl rfl ?_
    refine Wl.val rfl (V.ld rfl C_Pcache_Cache rfl) ?_
    refine Wl.gT rfl rfl ?_
    first | refine Wl.callE rfl rfl (s_cache_Cache_Sync cc d A7.2.1 H.ok7.log.dev) ?_ | refine Wl.callD rfl rfl (s_cache_Cache_Sync cc d A7.2.1 H.ok7.log.dev) (by first | exact Take.here | exact Take.there Take.here | exact Take.there (Take.there Take.here) | exact Take.there (Take.there (Take.there Take.here)) | exact Take.none _ | exact TakeC.t | exact Take.there (Take.there (Take.there (Take.there Take.here))) | exact Take.there (Take.there (Take.there (Take.there (Take.there Take.here)))) | exact Take.there (Take.there (Take.there (Take.there (Take.there (Take.there Take.here)))))) ?_
    rw [H.e8, H.z8]
    refine Wl.gT rfl rfl ?_
    refine Wl.val rfl (V.neq rfl rfl) ?_
    refine Wl.val rfl (V.pickF rfl rfl) ?_
    refine Wl.nil ?_
    refine Wx.then_n ?_
    refine Wc.condF rfl ?_
    refine Wc.skip ?_
    refine Wx.then_n ?_
    refine Wc.seq ?_
    refine Wc.region ?_
    refine Wl.val rfl (V.move rfl) ?_
    first | refine Wl.callE rfl rfl (s_sector_Crash_nil d H.ok8.log.dev) ?_ | refine Wl.callD rfl rfl (s_sector_Crash_nil d H.ok8.log.dev) (by first | exact Take.here | exact Take.there Take.here | exact Take.there (Take.there Take.here) | exact Take.there (Take.there (Take.there Take.here)) | exact Take.none _ | exact TakeC.t | exact Take.there (Take.there (Take.there (Take.there Take.here))) | exact Take.there (Take.there (Take.there (Take.there (Take.there Take.here)))) | exact Take.there (Take.there (Take.there (Take.there (Take.there (Take.there Take.here)))))) ?_
    refine Wl.nil ?_
    refine Wx.then_n ?_
    refine Wc.seq ?_
    refine Wc.region ?_
    refine Wl.val rfl (V.move rfl) ?_
    refine Wl.call rfl rfl (s_cache_Open d (devUp_ok H.ok8.log.dev) rfl 2 8 0 1 4 ⟨by decide, by decide⟩ (by decide) (by rw [devUp_len, H.l8]; decide) (by decide) (by rw [devUp_len, H.l8]; decide) (by rw [devUp_len, H.l8]; decide) (.inl (by decide)) (.inl (by decide))) (by first | exact Take.here | exact Take.there Take.here | exact Take.there (Take.there Take.here) | exact Take.there (Take.there (Take.there Take.here)) | exact Take.none _ | exact TakeC.t | exact Take.there (Take.there (Take.there (Take.there Take.here))) | exact Take.there (Take.there (Take.there (Take.there (Take.there Take.here)))) | exact Take.there (Take.there (Take.there (Take.there (Take.there (Take.there Take.here)))))) (fun v80 => ?_)
    rw [H.e9]
    refine Wl.exm (fun o2 => ?_)
    refine Wl.pull (fun hq => ?_)
    obtain ⟨rfl, hoe3⟩ := hq
    obtain ⟨kc, rfl⟩ : ∃ kc, o2 = some kc := by cases o2 with
      | none => exact absurd (hoe3.2 H.z9) (by simp)
      | some kc => exact ⟨kc, rfl⟩
    rw [show ∀ X : Nat → HP, optH X (some kc) = X kc from fun _ => rfl, H.z9, show optP (some kc) = ptr kc from rfl]
    refine Wl.ent (H' := Cache kc d A9.2.1 * (Dev d A9.1 * F)) Ent.auto ?_
    refine Wl.val rfl (V.move rfl) ?_
    refine Wl.val rfl (V.ext rfl rfl) ?_
    refine Wl.val rfl (V.ext rfl rfl) ?_
    refine Wl.val rfl (V.assign rfl) ?_
    refine Wl.val rfl (V.assign rfl) ?_
    refine Wl.nil ?_
    refine Wx.then_n ?_
    refine Wc.seq ?_
    refine Wc.seq ?_
    refine Wc.region ?_
    refine Wl.val rfl (V.move rfl) ?_
    refine Wl.val rfl (V.eqPtrNil rfl U_Pcache_Cache) ?_
    refine Wl.val rfl (V.move rfl) ?_
    refine Wl.bool 85 rfl (fun hb85 => absurd hb85 (by simp)) (fun hb85 => ?_)
    refine Wl.gT rfl rfl ?_
    refine Wl.val rfl (V.move rfl) ?_
    refine Wl.gT rfl rfl ?_
    refine Wl.val rfl (V.neq rfl rfl) ?_
    refine Wl.val rfl (V.pickF rfl rfl) ?_
    refine Wl.nil ?_
    refine Wx.then_n ?_
    refine Wc.condF rfl ?_
    refine Wc.skip ?_
    refine Wx.then_n ?_
    refine Wc.seq ?_
    refine Wc.region ?_
    refine Wl.val rfl (V.move rfl) ?_
    first | refine Wl.callE rfl rfl (s_cache_Cache_Get kc d A9.2.1 0) ?_ | refine Wl.callD rfl rfl (s_cache_Cache_Get kc d A9.2.1 0) (by first | exact Take.here | exact Take.there Take.here | exact Take.there (Take.there Take.here) | exact Take.there (Take.there (Take.there Take.here)) | exact Take.none _ | exact TakeC.t | exact Take.there (Take.there (Take.there (Take.there Take.here))) | exact Take.there (Take.there (Take.there (Take.there (Take.there Take.here)))) | exact Take.there (Take.there (Take.there (Take.there (Take.there (Take.there Take.here)))))) ?_
    refine Wl.val rfl (V.move rfl) ?_
    refine Wl.val rfl (V.ext rfl rfl) ?_
    refine Wl.val rfl (V.ext rfl rfl) ?_
    refine Wl.al rfl (M.alloc N_api_Entry) (fun r9 => ?_)
    refine Wl.st (Go.Sl.S.putA (vs := etyV (cGet A9.2.1 0).1) rfl rfl C_api_Entry rfl rfl rfl rfl) ?_
    refine Wl.val rfl (V.assign rfl) ?_
    refine Wl.nil ?_
    refine Wx.then_n ?_
    refine Wc.seq ?_
    refine Wc.region ?_
    refine Wl.val rfl (V.move rfl) ?_
    first | refine Wl.callE rfl rfl (s_cache_Cache_Get kc d A9.2.1 2) ?_ | refine Wl.callD rfl rfl (s_cache_Cache_Get kc d A9.2.1 2) (by first | exact Take.here | exact Take.there Take.here | exact Take.there (Take.there Take.here) | exact Take.there (Take.there (Take.there Take.here)) | exact Take.none _ | exact TakeC.t | exact Take.there (Take.there (Take.there (Take.there Take.here))) | exact Take.there (Take.there (Take.there (Take.there (Take.there Take.here)))) | exact Take.there (Take.there (Take.there (Take.there (Take.there (Take.there Take.here)))))) ?_
    rw [show etyA (cGet A9.2.1 2).1 = etyA (awE 2 3) by rw [H.g2], show (cGet A9.2.1 2).2 = true by rw [H.g2]]
    refine Wl.val rfl (V.move rfl) ?_
    refine Wl.val rfl (V.ext rfl rfl) ?_
    refine Wl.val rfl (V.ext rfl rfl) ?_
    refine Wl.al rfl (M.alloc N_api_Entry) (fun r11 => ?_)
    refine Wl.st (Go.Sl.S.putA (vs := etyV (awE 2 3)) rfl rfl C_api_Entry rfl rfl rfl rfl) ?_
    refine Wl.val rfl (V.assign rfl) ?_
    refine Wl.nil ?_
    refine Wx.then_n ?_
    refine Wc.seq ?_
    refine Wc.region ?_
    refine Wl.val rfl (V.move rfl) ?_
    refine Wl.val rfl (V.not rfl) ?_
    refine Wl.val rfl (V.move rfl) ?_
    refine Wl.bool 101 rfl (fun hb101 => ?_) (fun hb101 => absurd hb101 (by rw [H.g0]; simp))
    refine Wl.gT rfl rfl ?_
    refine Wl.val rfl (V.move rfl) ?_
    refine Wl.val rfl (V.pickT rfl rfl) ?_
    refine Wl.val rfl (V.move rfl) ?_
    refine Wl.bool 104 rfl (fun hb104 => ?_) (fun hb104 => absurd hb104 (by simp))
    refine Wl.gT rfl rfl ?_
    refine Wl.val rfl (V.fld _ rfl O_api_Entry_3 rfl) ?_
    refine Wl.gT rfl rfl ?_
    refine Wl.val rfl (V.ld rfl C_bool rfl) ?_
    refine Wl.val rfl (V.pickT rfl rfl) ?_
    refine Wl.val rfl (V.move rfl) ?_
    refine Wl.bool 108 rfl (fun hb108 => ?_) (fun hb108 => absurd hb108 (by simp [awE]))
    refine Wl.gT rfl rfl ?_
    refine Wl.val rfl (V.fld _ rfl O_api_Entry_2 rfl) ?_
    refine Wl.gT rfl rfl ?_
    refine Wl.val rfl (V.ld rfl C_string rfl) ?_
    refine Wl.gT rfl rfl ?_
    refine Wl.val rfl (V.sEql rfl rfl) ?_
    refine Wl.val rfl (V.pickT rfl rfl) ?_
    refine Wl.val rfl (V.move rfl) ?_
    refine Wl.bool 113 rfl (fun hb113 => ?_) (fun hb113 => absurd hb113 (by simp [awE]))
    refine Wl.gT rfl rfl ?_
    refine Wl.val rfl (V.move rfl) ?_
    refine Wl.gT rfl rfl ?_
    refine Wl.call rfl rfl (s_cache_Cache_AllV kc d A9.2.1 H.ok9.blocks) (by first | exact Take.here | exact Take.there Take.here | exact Take.there (Take.there Take.here) | exact Take.there (Take.there (Take.there Take.here)) | exact Take.none _ | exact TakeC.t | exact Take.there (Take.there (Take.there (Take.there Take.here))) | exact Take.there (Take.there (Take.there (Take.there (Take.there Take.here)))) | exact Take.there (Take.there (Take.there (Take.there (Take.there (Take.there Take.here)))))) (fun v115 => ?_)
    refine Wl.pull (fun hv => ?_)
    refine Wl.gT rfl rfl ?_
    refine Wl.val rfl (V.lenW rfl U_Sapi_Entry hv) ?_
    refine Wl.gT rfl rfl ?_
    refine Wl.val rfl (V.eql rfl rfl) ?_
    refine Wl.val rfl (V.pickT rfl rfl) ?_
    refine Wl.val rfl (V.move rfl) ?_
    refine Wl.bool 119 rfl (fun hb119 => ?_) (fun hb119 => absurd hb119 (by rw [H.all]; simp))
    refine Wl.gT rfl rfl ?_
    refine Wl.val rfl (V.move rfl) ?_
    refine Wl.gT rfl rfl ?_
    first | refine Wl.callE rfl rfl (s_cache_Cache_Last kc d A9.2.1) ?_ | refine Wl.callD rfl rfl (s_cache_Cache_Last kc d A9.2.1) (by first | exact Take.here | exact Take.there Take.here | exact Take.there (Take.there Take.here) | exact Take.there (Take.there (Take.there Take.here)) | exact Take.none _ | exact TakeC.t | exact Take.there (Take.there (Take.there (Take.there Take.here))) | exact Take.there (Take.there (Take.there (Take.there (Take.there Take.here)))) | exact Take.there (Take.there (Take.there (Take.there (Take.there (Take.there Take.here)))))) ?_
    refine Wl.gT rfl rfl ?_
    refine Wl.val rfl (V.build (l := verV ⟨1, 3⟩) B_api_Version rfl rfl) ?_
    refine Wl.gT rfl rfl ?_
    refine Wl.val rfl (V.eqlV rfl rfl ⟨⟨_, rfl⟩, _, rfl⟩ rfl G_api_Version E_api_Version) ?_
    refine Wl.val rfl (V.pickT rfl rfl) ?_
    refine Wl.val rfl (V.move rfl) ?_
    refine Wl.bool 125 rfl (fun hb125 => ?_) (fun hb125 => absurd hb125 (by rw [ver_eq, H.last]; simp))
    refine Wl.gT rfl rfl ?_
    refine Wl.val rfl (V.move rfl) ?_
    refine Wl.gT rfl rfl ?_
    first | refine Wl.callE rfl rfl (s_cache_Cache_Number kc d A9.2.1 1) ?_ | refine Wl.callD rfl rfl (s_cache_Cache_Number kc d A9.2.1 1) (by first | exact Take.here | exact Take.there Take.here | exact Take.there (Take.there Take.here) | exact Take.there (Take.there (Take.there Take.here)) | exact Take.none _ | exact TakeC.t | exact Take.there (Take.there (Take.there (Take.there Take.here))) | exact Take.there (Take.there (Take.there (Take.there (Take.there Take.here)))) | exact Take.there (Take.there (Take.there (Take.there (Take.there (Take.there Take.here)))))) ?_
    rw [H.num]
    refine Wl.gT rfl rfl ?_
    refine Wl.val rfl (V.eql rfl rfl) ?_
    refine Wl.val rfl (V.pickT rfl rfl) ?_
    refine Wl.val rfl (V.move rfl) ?_
    refine Wl.bool 130 rfl (fun hb130 => ?_) (fun hb130 => absurd hb130 (by simp))
    refine Wl.gT rfl rfl ?_
    refine Wl.val rfl (V.move rfl) ?_
    refine Wl.gT rfl rfl ?_
    first | refine Wl.callE rfl rfl (s_cache_Cache_Drop kc d H.ok9 0) ?_ | refine Wl.callD rfl rfl (s_cache_Cache_Drop kc d H.ok9 0) (by first | exact Take.here | exact Take.there Take.here | exact Take.there (Take.there Take.here) | exact Take.there (Take.there (Take.there Take.here)) | exact Take.none _ | exact TakeC.t | exact Take.there (Take.there (Take.there (Take.there Take.here))) | exact Take.there (Take.there (Take.there (Take.there (Take.there Take.here)))) | exact Take.there (Take.there (Take.there (Take.there (Take.there (Take.there Take.here)))))) ?_
    rw [H.e10, H.z10]
    refine Wl.gT rfl rfl ?_
    refine Wl.val rfl (V.eql rfl rfl) ?_
    refine Wl.val rfl (V.pickT rfl rfl) ?_
    refine Wl.val rfl (V.move rfl) ?_
    refine Wl.bool 135 rfl (fun hb135 => ?_) (fun hb135 => absurd hb135 (by simp))
    refine Wl.gT rfl rfl ?_
    refine Wl.val rfl (V.move rfl) ?_
    refine Wl.gT rfl rfl ?_
    refine Wl.val rfl (V.build (l := verV ver0) B_api_Version rfl rfl) ?_
    refine Wl.gT rfl rfl ?_
    first | refine Wl.callE rfl rfl (s_cache_Cache_Note (S := emp) kc d H.ok10 ver0 ⟨(⟨by decide, by decide⟩ : I64 0), (⟨by decide, by decide⟩ : I64 0)⟩ [] (Vw.nil emp 1) (by intro n hn; cases hn)) ?_ | refine Wl.callD rfl rfl (s_cache_Cache_Note (S := emp) kc d H.ok10 ver0 ⟨(⟨by decide, by decide⟩ : I64 0), (⟨by decide, by decide⟩ : I64 0)⟩ [] (Vw.nil emp 1) (by intro n hn; cases hn)) (by first | exact Take.here | exact Take.there Take.here | exact Take.there (Take.there Take.here) | exact Take.there (Take.there (Take.there Take.here)) | exact Take.none _ | exact TakeC.t | exact Take.there (Take.there (Take.there (Take.there Take.here))) | exact Take.there (Take.there (Take.there (Take.there (Take.there Take.here)))) | exact Take.there (Take.there (Take.there (Take.there (Take.there (Take.there Take.here)))))) ?_
    rw [H.e11]
    refine Wl.gT rfl rfl ?_
    refine Wl.val rfl (V.eql rfl rfl) ?_
    refine Wl.val rfl (V.pickT rfl rfl) ?_
    refine Wl.val rfl (V.assign rfl) ?_
    refine Wl.nil ?_
    refine Wx.then_n ?_
    refine Wc.ret ?_
    repeat (first | refine Wx.then_r ?_ | refine Wx.blk_r ?_ | refine Wx.ng_r ?_)
    refine Wx.ret1 rfl rfl rfl ?_
    first | exact Ent.resF rfl | exact Ent.resC rfl | exact Ent.refl _ | exact Ent.auto
theorem s_law09_awake : AwakeC := s_law09_awake_of awakeF
end Go.Proofs.YtjfacgmobpbhcaaGreat
/- What is handed to a law, opened: its slices, as the walks read them. -/
namespace Go.Proofs.YtjfacgmobpbhcaaGreat
open Go.Sl
section
variable {Pr : Program} {H : Type} {enc : TypeId × Value → H} {w : World} {sp : Nat → Bool} {held : Bool} {fuel : Nat} {t e : TypeId} {cs : List Value} {x : DataW H × List MemPlace}
theorem tr_int {k : IntKind} (ht : Pr.underlying t = some (.int k)) (h : DataW.trod enc Pr w 0 sp held fuel t cs = some x) : ∃ n, cs = [.int k n] ∧ (Lit.int k n).wf = true := by
  cases fuel with
  | zero => cases h
  | succ f =>
    unfold DataW.trod at h
    rw [ht] at h
    dsimp only at h
    split at h
    all_goals first
      | (exfalso; have hq := ‹(some (TypeDesc.int k) : Option TypeDesc) = some _›; cases hq; done)
      | (cases h; done)
      | skip
    rename_i k' k2 n heq
    injection heq with heq
    injection heq with heq
    subst heq
    split at h
    · rename_i hk; obtain ⟨rfl, hw⟩ := hk; exact ⟨_, rfl, hw⟩
    · cases h
theorem tr_bool (ht : Pr.underlying t = some .bool) (h : DataW.trod enc Pr w 0 sp held fuel t cs = some x) : ∃ b, cs = [.bool b] := by
  cases fuel with
  | zero => cases h
  | succ f =>
    unfold DataW.trod at h
    rw [ht] at h
    dsimp only at h
    split at h
    all_goals first
      | (exfalso; have hq := ‹(some TypeDesc.bool : Option TypeDesc) = some _›; cases hq; done)
      | (cases h; done)
      | exact ⟨_, rfl⟩
theorem tr_str (ht : Pr.underlying t = some .string) (h : DataW.trod enc Pr w 0 sp held fuel t cs = some x) : ∃ s, cs = [.string s] ∧ s.size ≤ maxLen := by
  cases fuel with
  | zero => cases h
  | succ f =>
    unfold DataW.trod at h
    rw [ht] at h
    dsimp only at h
    split at h
    all_goals first
      | (exfalso; have hq := ‹(some TypeDesc.string : Option TypeDesc) = some _›; cases hq; done)
      | (cases h; done)
      | skip
    split at h
    · exact ⟨_, rfl, by assumption⟩
    · cases h
theorem mapM_all {α β : Type} {f : α → Option β} : ∀ {l : List α} {ys : List β}, l.mapM f = some ys → ∀ a ∈ l, ∃ y, f a = some y
  | [], _, _, a, h => by cases h
  | b :: l, ys, h, a, ha => by
    rw [List.mapM_cons] at h
    cases hb : f b with
    | none => rw [hb] at h; cases h
    | some y =>
      rw [hb] at h
      cases hl : l.mapM f with
      | none => rw [hl] at h; cases h
      | some zs =>
        rcases List.mem_cons.1 ha with rfl | ha
        · exact ⟨y, hb⟩
        · exact mapM_all hl a ha
theorem mapM_get {α β : Type} {f : α → Option β} : ∀ {l : List α} {ys : List β}, l.mapM f = some ys → ys.length = l.length ∧ ∀ (i : Nat) (a : α), l[i]? = some a → f a = ys[i]?
  | [], ys, h => by
    simp only [List.mapM_nil] at h
    cases h
    exact ⟨rfl, fun i a ha => by simp at ha⟩
  | b :: l, ys, h => by
    rw [List.mapM_cons] at h
    cases hb : f b with
    | none => rw [hb] at h; cases h
    | some y =>
      rw [hb] at h
      cases hl : l.mapM f with
      | none => rw [hl] at h; cases h
      | some zs =>
        rw [hl] at h
        have : ys = y :: zs := by
          have h : some (y :: zs) = some ys := h
          injection h with h; exact h.symm
        subst this
        obtain ⟨h1, h2⟩ := mapM_get hl
        refine ⟨by simp [h1], fun i a ha => ?_⟩
        cases i with
        | zero =>
          simp only [List.getElem?_cons_zero, Option.some.injEq] at ha
          subst ha; simpa using hb
        | succ i => simpa using h2 i a (by simpa using ha)
theorem tr_struct {fs : Array Field} (ht : Pr.underlying t = some (.struct fs)) (h : DataW.trod enc Pr w 0 sp held fuel t cs = some x) : cs.length = Pr.cellsOf t ∧ ∃ f, ∀ q ∈ fs.toList, ∃ y, DataW.trod enc Pr w 0 sp held f q.type ((cs.drop q.offset).take (Pr.cellsOf q.type)) = some y := by
  cases fuel with
  | zero => cases h
  | succ f =>
    unfold DataW.trod at h
    rw [ht] at h
    dsimp only at h
    split at h
    · rename_i hl
      refine ⟨hl, f, fun q hq => ?_⟩
      rw [Option.map_eq_some_iff] at h
      obtain ⟨xs, hxs, _⟩ := h
      exact mapM_all hxs q hq
    · cases h
theorem tr_slice {el : TypeId} (ht : Pr.underlying t = some (.slice el)) (h : DataW.trod enc Pr w 0 (fun _ => true) held fuel t cs = some x) : cs = [.slice none 0 0] ∨ ∃ a len cap f, cs = [.slice (some a) len cap] ∧ len ≤ cap ∧ cap ≤ maxLen ∧
    (∀ i, i < len → ∃ cs' y, w.cells? 0 (a.add (i * Pr.cellsOf el)) (Pr.cellsOf el) = some cs' ∧ DataW.trod enc Pr w 0 (fun _ => true) held f el cs' = some y) ∧
    (∀ j, j < cap - len → ∃ cs', w.cells? 0 (a.add ((len + j) * Pr.cellsOf el)) (Pr.cellsOf el) = some cs') := by
  cases fuel with
  | zero => cases h
  | succ f =>
    unfold DataW.trod at h
    rw [ht] at h
    dsimp only at h
    split at h
    all_goals first
      | (exfalso; have hq := ‹(some (TypeDesc.slice el) : Option TypeDesc) = some _›; cases hq; done)
      | (cases h; done)
      | exact .inl rfl
      | skip
    rename_i el' a len cap heq
    injection heq with heq
    injection heq with heq
    subst heq
    split at h
    · rename_i hc
      rw [Option.bind_eq_some_iff] at h
      obtain ⟨elems, he, h⟩ := h
      rw [Option.map_eq_some_iff] at h
      obtain ⟨rest, hr, _⟩ := h
      refine .inr ⟨a, len, cap, f, rfl, hc.2.1, hc.2.2, fun i hi => ?_, fun j hj => ?_⟩
      · obtain ⟨y, hy⟩ := mapM_all he i (List.mem_range.2 hi)
        rw [Option.bind_eq_some_iff] at hy
        obtain ⟨cs', h1, h2⟩ := hy
        exact ⟨cs', y, h1, h2⟩
      · simp only [if_true] at hr
        obtain ⟨y, hy⟩ := mapM_all hr j (List.mem_range.2 hj)
        rw [Option.bind_eq_some_iff] at hy
        obtain ⟨cs', h1, h2⟩ := hy
        exact ⟨cs', h1⟩
    · cases h
theorem cell_row {a : Addr} {v : Value} (h : w.cell? a = some v) : a.spot = none ∧ ∃ (c : Array Value) (t : TypeId) (z : Nat × Nat), w.heap[a.block]? = some (.cells c t z) ∧ c[a.off]? = some v := by
  unfold World.cell? at h
  cases hb : w.heap[a.block]? with
  | none => rw [hb] at h; cases h
  | some o =>
    rw [hb] at h
    cases o with
    | cells c t z =>
      dsimp only at h
      split at h
      · cases h
      · rename_i hs
        exact ⟨by simpa using hs, c, t, z, rfl, h⟩
    | _ => cases h
theorem cells_get {a : Addr} {m : Nat} {cs : List Value} (h : w.cells? 0 a m = some cs) : cs.length = m ∧ ∀ j, j < m → w.cell? (a.add j) = cs[j]? := by
  unfold World.cells? at h
  rw [if_pos (Nat.zero_le _)] at h
  obtain ⟨h1, h2⟩ := mapM_get h
  exact ⟨by simpa using h1, fun j hj => h2 j j (by simp [hj])⟩
theorem add_block (a : Addr) (n : Nat) : (a.add n).block = a.block ∧ (a.add n).off = a.off + n := by
  unfold Addr.add; split
  · subst_vars; exact ⟨rfl, rfl⟩
  · exact ⟨rfl, rfl⟩
theorem flatMap_get {α : Type} {f : α → List Value} {m : Nat} (hm : 0 < m) (hf : ∀ a, (f a).length = m) : ∀ (l : List α) (j : Nat) (x : Value), (l.flatMap f)[j]? = some x → ∃ a, l[j / m]? = some a ∧ (f a)[j % m]? = some x
  | [], j, x, h => by simp at h
  | a :: l, j, x, h => by
    rw [List.flatMap_cons] at h
    by_cases hj : j < m
    · rw [List.getElem?_append_left (by rw [hf]; exact hj)] at h
      rw [Nat.div_eq_of_lt hj, Nat.mod_eq_of_lt hj]
      exact ⟨a, rfl, h⟩
    · rw [List.getElem?_append_right (by rw [hf]; omega), hf] at h
      obtain ⟨b, h1, h2⟩ := flatMap_get hm hf l (j - m) x h
      have hge : m ≤ j := by omega
      refine ⟨b, ?_, ?_⟩
      · rw [Nat.div_eq_sub_div hm hge]; simpa using h1
      · rw [Nat.mod_eq_sub_mod hge]; exact h2
theorem choose_list {α : Type} {p : Nat → α → Prop} : ∀ n : Nat, (∀ i, i < n → ∃ a, p i a) → ∃ l : List α, l.length = n ∧ ∀ i a, l[i]? = some a → p i a
  | 0, _ => ⟨[], rfl, fun i a h => by simp at h⟩
  | n + 1, h => by
    obtain ⟨l, h1, h2⟩ := choose_list n fun i hi => h i (by omega)
    obtain ⟨a, ha⟩ := h n (by omega)
    refine ⟨l ++ [a], by simp [h1], fun i b hb => ?_⟩
    by_cases hi : i < n
    · rw [List.getElem?_append_left (by omega)] at hb; exact h2 i b hb
    · rw [List.getElem?_append_right (by omega)] at hb
      have : i = n := by
        have := (List.getElem?_eq_some_iff.1 hb).1
        simp at this; omega
      subst this
      simp [h1] at hb
      subst hb; exact ha
theorem old_heap {W w' : World} {g : Gh} (s : Sat g w' (old W)) {r : Nat} {o : Obj} (h : W.heap[r]? = some o) : w'.heap[r]? = some o := by
  obtain ⟨_, _, f, hf, hw⟩ := s
  exact hw r o ((hf r (Array.getElem?_eq_some_iff.1 h).1).trans h)
theorem open_slice {α : Type} {el : TypeId} {m : Nat} (ht : Pr.underlying t = some (.slice el)) (hm : Pr.cellsOf el = m) (hm0 : 0 < m) (f : α → List Value) (hf : ∀ a, (f a).length = m) (Q : α → Prop)
    (hel : ∀ fuel cs y, DataW.trod enc Pr w 0 (fun _ => true) held fuel el cs = some y → cs.length = m → ∃ a, cs = f a ∧ Q a) (h : DataW.trod enc Pr w 0 (fun _ => true) held fuel t cs = some x) :
    ∃ (v : Value) (l : List α), cs = [v] ∧ Vw (old w) v m l.length (l.flatMap f) ∧ ∀ a ∈ l, Q a := by
  rcases tr_slice ht h with rfl | ⟨a, len, cap, fu, rfl, h1, h2, h3, h4⟩
  · exact ⟨_, [], rfl, .inl ⟨rfl, rfl, rfl⟩, fun a ha => by cases ha⟩
  · rw [hm] at h3 h4
    obtain ⟨l, hl, hg⟩ := choose_list (p := fun i (b : α) => w.cells? 0 (a.add (i * m)) m = some (f b) ∧ Q b) len fun i hi => by
      obtain ⟨cs', y, h5, h6⟩ := h3 i hi
      obtain ⟨b, rfl, hq⟩ := hel _ _ _ h6 (cells_get h5).1
      exact ⟨b, h5, hq⟩
    refine ⟨_, l, rfl, ?_, fun b hb => ?_⟩
    · by_cases hc : cap = 0
      · obtain rfl : len = 0 := by omega
        subst hc
        have : l = [] := List.eq_nil_of_length_eq_zero hl
        subst this
        exact .inr (.inr ⟨⟨a, rfl⟩, rfl, rfl⟩)
      · have h0 : ∃ cs', w.cells? 0 (a.add 0) m = some cs' := by
          by_cases hlen : len = 0
          · subst hlen
            obtain ⟨cs', h5⟩ := h4 0 (by omega)
            exact ⟨cs', by simpa using h5⟩
          · obtain ⟨cs', y, h5, _⟩ := h3 0 (by omega)
            exact ⟨cs', by simpa using h5⟩
        obtain ⟨cs0, h5⟩ := h0
        obtain ⟨h6, h7⟩ := cells_get h5
        have h8 := h7 0 hm0
        obtain ⟨v0, hv0⟩ : ∃ v, cs0[0]? = some v := ⟨_, List.getElem?_eq_getElem (by omega)⟩
        rw [hv0] at h8
        have haa : (a.add 0).add 0 = a := by simp [Addr.add]
        rw [haa] at h8
        obtain ⟨hs, c, ty, z, hc1, _⟩ := cell_row h8
        obtain ⟨r, o, sp⟩ := a
        dsimp only at hs hc1
        subst hs
        rw [← hl]
        refine .inr (.inl ⟨r, o, cap, rfl, ⟨by omega, h2⟩, ?_, fun g w' s => ⟨c.toList, ty, z, by simpa using old_heap s hc1, fun j y hj => ?_⟩⟩)
        · have : ∀ l : List α, (l.flatMap f).length = l.length * m := fun l => by
            induction l with
            | nil => simp
            | cons b l ih => rw [List.flatMap_cons, List.length_append, ih, hf, List.length_cons, Nat.add_mul]; omega
          exact this l
        · obtain ⟨b, h9, h10⟩ := flatMap_get hm0 hf l j y hj
          obtain ⟨h11, _⟩ := hg _ _ h9
          obtain ⟨_, h12⟩ := cells_get h11
          have h13 := h12 (j % m) (Nat.mod_lt _ hm0)
          rw [h10] at h13
          obtain ⟨_, c2, t2, z2, h14, h15⟩ := cell_row h13
          have hb1 := add_block (Addr.add ⟨r, o, none⟩ (j / m * m)) (j % m)
          have hb2 := add_block ⟨r, o, none⟩ (j / m * m)
          rw [hb1.1, hb2.1] at h14
          rw [hc1] at h14
          injection h14 with h14
          injection h14 with h14
          subst h14
          rw [hb1.2, hb2.2] at h15
          have : o + j / m * m + j % m = o + j := by
            have := Nat.div_add_mod j m
            rw [Nat.mul_comm] at this
            omega
          dsimp only at h15
          rw [this] at h15
          simpa using h15
    · obtain ⟨i, hi⟩ := List.mem_iff_getElem?.1 hb
      exact (hg i b hi).2
end
end Go.Proofs.YtjfacgmobpbhcaaGreat
/- What is handed to a law on caches, opened: versions, entries, acts. -/
namespace Go.Proofs.YtjfacgmobpbhcaaGreat
open Go.Sl Sei
section
variable {H : Type} {enc : TypeId × Value → H} {w : World} {held : Bool} {fuel : Nat} {t e : TypeId} {cs : List Value} {x : DataW H × List MemPlace}
theorem tr_field {f off n : Nat} {ft : TypeId} (hF : FVal P t f off ft) (hn : P.cellsOf ft = n) (h : DataW.trod enc P w 0 (fun _ => true) held fuel t cs = some x) : ∃ fuel y, DataW.trod enc P w 0 (fun _ => true) held fuel ft ((cs.drop off).take n) = some y := by
  obtain ⟨fs, fd, h1, h2, h3, h4⟩ := hF.run
  obtain ⟨_, fu, hall⟩ := tr_struct h1 h
  obtain ⟨y, hy⟩ := hall fd (by
    obtain ⟨hlt, he⟩ := Array.getElem?_eq_some_iff.1 h2
    rw [← he]; exact Array.mem_toList_iff.2 (Array.getElem_mem hlt))
  rw [h3, h4, hn] at hy
  exact ⟨fu, y, hy⟩
theorem wf_I64 {n : Int} (h : (Lit.int .i64 n).wf = true) : I64 n := by
  unfold Lit.wf at h
  simp only [Bool.and_eq_true, decide_eq_true_eq] at h
  exact ⟨h.1, h.2⟩
theorem c_int : P.cellsOf T_int = 1 := by kernel_rfl
theorem c_int64 : P.cellsOf T_int64 = 1 := by kernel_rfl
theorem c_bool : P.cellsOf T_bool = 1 := by kernel_rfl
theorem c_string : P.cellsOf T_string = 1 := by kernel_rfl
theorem c_ver : P.cellsOf T_api_Version = 2 := by kernel_rfl
theorem c_ety : P.cellsOf T_api_Entry = 7 := by kernel_rfl
theorem c_keep : P.cellsOf T_sector_Keep = 2 := by kernel_rfl
theorem c_act : P.cellsOf T_law09_Act = 12 := by kernel_rfl
theorem c_nums : P.cellsOf T_Sint64 = 1 := by kernel_rfl
theorem c_keeps : P.cellsOf T_Ssector_Keep = 1 := by kernel_rfl
theorem f_int {f off : Nat} (hF : FVal P t f off T_int) (h : DataW.trod enc P w 0 (fun _ => true) held fuel t cs = some x) : ∃ n, (cs.drop off).take 1 = [i64 n] ∧ I64 n := by
  obtain ⟨fu, y, hy⟩ := tr_field hF c_int h
  obtain ⟨n, h1, h2⟩ := tr_int U_int hy
  exact ⟨n, h1, wf_I64 h2⟩
theorem f_int64 {f off : Nat} (hF : FVal P t f off T_int64) (h : DataW.trod enc P w 0 (fun _ => true) held fuel t cs = some x) : ∃ n, (cs.drop off).take 1 = [i64 n] ∧ I64 n := by
  obtain ⟨fu, y, hy⟩ := tr_field hF c_int64 h
  obtain ⟨n, h1, h2⟩ := tr_int U_int64 hy
  exact ⟨n, h1, wf_I64 h2⟩
theorem f_str {f off : Nat} (hF : FVal P t f off T_string) (h : DataW.trod enc P w 0 (fun _ => true) held fuel t cs = some x) : ∃ s : List UInt8, (cs.drop off).take 1 = [str s] := by
  obtain ⟨fu, y, hy⟩ := tr_field hF c_string h
  obtain ⟨s, h1, h2⟩ := tr_str U_string hy
  exact ⟨s.data.toList, h1⟩
theorem f_bool {f off : Nat} (hF : FVal P t f off T_bool) (h : DataW.trod enc P w 0 (fun _ => true) held fuel t cs = some x) : ∃ b, (cs.drop off).take 1 = [.bool b] := by
  obtain ⟨fu, y, hy⟩ := tr_field hF c_bool h
  exact tr_bool U_bool hy
theorem open_ver (hl : cs.length = 2) (h : DataW.trod enc P w 0 (fun _ => true) held fuel T_api_Version cs = some x) : ∃ v : Ver, cs = verV v ∧ verOk v := by
  obtain ⟨a, h1, h2⟩ := f_int64 F_api_Version_0 h
  obtain ⟨b, h3, h4⟩ := f_int64 F_api_Version_1 h
  match cs, hl with
  | [c0, c1], _ =>
    simp at h1 h3
    subst h1 h3
    exact ⟨⟨a, b⟩, rfl, h2, h4⟩
structure EtyIn (e : Ety) : Prop where
  block : I64 e.block
  v : verOk e.v
  client : I64 e.client
  n : I64 e.n
theorem open_ety (hl : cs.length = 7) (h : DataW.trod enc P w 0 (fun _ => true) held fuel T_api_Entry cs = some x) : ∃ e : Ety, cs = etyV e ∧ EtyIn e := by
  obtain ⟨a, h1, h2⟩ := f_int F_api_Entry_0 h
  obtain ⟨fu, y, hy⟩ := tr_field F_api_Entry_1 c_ver h
  obtain ⟨s, h5⟩ := f_str F_api_Entry_2 h
  obtain ⟨b, h6⟩ := f_bool F_api_Entry_3 h
  obtain ⟨c, h7, h8⟩ := f_int F_api_Entry_4 h
  obtain ⟨n, h9, h10⟩ := f_int64 F_api_Entry_5 h
  match cs, hl with
  | [c0, c1, c2, c3, c4, c5, c6], _ =>
    obtain ⟨v, h3, h4⟩ := open_ver (by simp) hy
    simp at h1 h3 h5 h6 h7 h9
    obtain ⟨h3, h3'⟩ := h3
    subst h1 h3 h3' h5 h6 h7 h9
    exact ⟨⟨a, v, s, b, c, n⟩, rfl, h2, h4, h8, h10⟩
theorem open_nums (h : DataW.trod enc P w 0 (fun _ => true) held fuel T_Sint64 cs = some x) : ∃ (v : Value) (l : List Int), cs = [v] ∧ Vw (old w) v 1 l.length (numsV l) ∧ ∀ n ∈ l, I64 n := by
  obtain ⟨v, l, h1, h2, h3⟩ := open_slice (m := 1) U_Sint64 c_int64 (by decide) (fun n : Int => [i64 n]) (fun _ => rfl) I64 (fun fuel cs y h hl => by
    obtain ⟨n, h1, h2⟩ := tr_int U_int64 h
    exact ⟨n, h1, wf_I64 h2⟩) h
  refine ⟨v, l, h1, ?_, h3⟩
  have : ∀ l : List Int, l.flatMap (fun n => [i64 n]) = numsV l := fun l => by
    induction l with
    | nil => rfl
    | cons a l ih => rw [List.flatMap_cons, ih]; rfl
  rw [← this]; exact h2
theorem open_keeps (h : DataW.trod enc P w 0 (fun _ => true) held fuel T_Ssector_Keep cs = some x) : ∃ (v : Value) (l : List (Int × Int)), cs = [v] ∧ Vw (old w) v 2 l.length (keepsV l) ∧ ∀ p ∈ l, I64 p.1 ∧ I64 p.2 :=
  open_slice (m := 2) U_Ssector_Keep c_keep (by decide) (fun p : Int × Int => [i64 p.1, i64 p.2]) (fun _ => rfl) (fun p => I64 p.1 ∧ I64 p.2) (fun fuel cs y h hl => by
    obtain ⟨a, h1, h2⟩ := f_int F_sector_Keep_0 h
    obtain ⟨b, h3, h4⟩ := f_int F_sector_Keep_1 h
    match cs, hl with
    | [c0, c1], _ =>
      simp at h1 h3
      subst h1 h3
      exact ⟨(a, b), rfl, h2, h4⟩) h
theorem open_acts (h : DataW.trod enc P w 0 (fun _ => true) held fuel T_Slaw09_Act cs = some x) : ∃ (v : Value) (acts : ActL), cs = [v] ∧ ActsAt (old w) v acts := by
  obtain ⟨v, l, h1, h2, h3⟩ := open_slice (m := 12) U_Slaw09_Act c_act (by decide) (fun a : ActM × Value × Value => actV a.1 a.2.1 a.2.2) (fun _ => rfl) (fun a => ActOk a.1 ∧ Vw (old w) a.2.1 1 a.1.t.length (numsV a.1.t) ∧ Vw (old w) a.2.2 2 a.1.l.length (keepsV a.1.l)) (fun fuel cs y h hl => by
    obtain ⟨k, h1, h2⟩ := f_int F_law09_Act_0 h
    obtain ⟨n, h3, h4⟩ := f_int F_law09_Act_1 h
    obtain ⟨fu, y1, hy1⟩ := tr_field F_law09_Act_2 c_ety h
    obtain ⟨fu2, y2, hy2⟩ := tr_field F_law09_Act_3 c_nums h
    obtain ⟨s, h5⟩ := f_str F_law09_Act_4 h
    obtain ⟨fu3, y3, hy3⟩ := tr_field F_law09_Act_5 c_keeps h
    match cs, hl with
    | [c0, c1, c2, c3, c4, c5, c6, c7, c8, c9, c10, c11], _ =>
      obtain ⟨e, h6, h7⟩ := open_ety (by simp) hy1
      obtain ⟨tv, tl, h8, h9, h10⟩ := open_nums hy2
      obtain ⟨lv, ll, h11, h12, h13⟩ := open_keeps hy3
      simp at h1 h3 h5 h6 h8 h11
      obtain ⟨e1, e2, e3, e4, e5, e6, e7⟩ := h6
      subst h1 h3 h5 e1 e2 e3 e4 e5 e6 e7 h8 h11
      exact ⟨(⟨k, n, e, tl, s, ll⟩, c9, c11), rfl, ⟨h2, h4, h7.block, h7.v, h7.client, h7.n, h10, h13⟩, h9, h12⟩) h
  exact ⟨v, l, h1, h2, fun a ha => (h3 a ha).1, fun a ha => (h3 a ha).2.1, fun a ha => (h3 a ha).2.2⟩
end
end Go.Proofs.YtjfacgmobpbhcaaGreat
/- What every row's proof of this seat needs: the start's facts, and that what was there before the call is there behind it. -/
namespace Go.Proofs.YtjfacgmobpbhcaaGreat
open Go.ChangeShapes Go.WideShapes Go.ChangeAt Go.RowKit Go.Sl Sei
theorem own_knob : ownKnob P.godebug = none := by kernel_rfl
theorem laid_out : laidOutB P = true := by kernel_rfl
theorem val_slice {Pr : Program} {W : World} {t el : TypeId} {v u : Value} {r : Reach} {base : Nat} (ht : Pr.underlying t = some (.slice el)) (ho : Value.okWide Pr W r base t v) (h : v.cells.toList = [u]) : v = u := by
  unfold Value.okWide at ho
  rw [ht] at ho
  dsimp only at ho
  unfold Cell.okWide at ho
  rw [ht] at ho
  cases v with
  | agg cs =>
    dsimp only at ho
    unfold Cell.ok at ho
    rw [ht] at ho
    exact ho.elim
  | _ => simpa [Value.cells] using h
section
variable {H : Type} {enc : TypeId × Value → H} {W W' : World}
theorem sat_heap {g : Gh} (s : Sat g W' (old W)) (i : Nat) (hi : i < W.heap.size) : W'.heap[i]? = W.heap[i]? := by
  rw [Array.getElem?_eq_getElem hi]
  exact old_heap s (Array.getElem?_eq_getElem hi)
theorem sat_start (W : World) : Sat ⟨W.os, W.output⟩ W (old W * emp) :=
  ⟨rfl, rfl, fun r => W.heap[r]?, ⟨fun r => W.heap[r]?, fun _ => none, fun _ _ => rfl, trivial, fun _ => .inr rfl, fun r => by simp⟩, fun _ _ h => h⟩
theorem kept_old (s : Sat ⟨W.os, W.output⟩ W' (old W)) (may : MemPlace → Prop) : W.keptBut W' may := by
  refine ⟨s.1, s.2.1, fun i hi => ?_⟩
  rw [sat_heap s i hi]
  split
  · rename_i h1 h2
    rw [h1] at h2
    injection h2 with h2
    injection h2 with a1 a2 a3
    subst a1 a2 a3
    exact ⟨rfl, rfl, rfl, fun _ _ => rfl⟩
  · rename_i h1 h2
    rw [h1] at h2
    injection h2 with h2
    injection h2 with a1 a2
    subst a1 a2
    exact .inr ⟨rfl, rfl⟩
  · rfl
theorem same_old (s : Sat ⟨W.os, W.output⟩ W' (old W)) {p : MemPlace} (hp : p.block < W.heap.size) : W.sameAt W' p := by
  cases p with
  | cell b o => exact World.cell?_of_block (w := W) (sat_heap s b hp)
  | map b => exact sat_heap s b hp
theorem trod_old {t : TypeId} (hr : P.readableRec t = true) (hrow : t < P.types.size) {v : Value} {d : DataW H} {ps : List MemPlace} (h : DataW.Trod enc P W 0 (fun _ => true) true t v d ps) (s : Sat ⟨W.os, W.output⟩ W' (old W)) : DataW.Trod enc P W' 0 (fun b => decide (b < W.heap.size)) true t v d ps := by
  have hlt : ∀ p ∈ ps, p.block < W.heap.size := by
    obtain ⟨n, hn⟩ := h
    exact DataW.trod_lt n t _ _ hn
  exact WideElems.Trod_stays laid_out hr hrow h (fun p hp => same_old s (hlt p hp)) (fun p hp => by simpa using hlt p hp)
/-- What a law's call keeps, as a row asks it. -/
theorem law_calls {f : FuncId} {args : List Value} (h : Ctr P f args (old W) (fun r => pu (r = .bool true) * old W)) : Calls P f args.toArray W fun e W' => e = .returned (.bool true) ∧ Sat ⟨W.os, W.output⟩ W' (old W) :=
  (h.calls emp ⟨W.os, W.output⟩ W (sat_start W)).mono fun e w' hR => by
    obtain ⟨v, he, s⟩ := hR
    rw [sep_assoc] at s
    obtain ⟨hv, s2⟩ := s.pure
    exact ⟨by rw [he, hv], s2.ent (Ent.left _ _)⟩
set_option maxRecDepth 100000 in
theorem arg_acts {v : Value} {r : Reach} {base : Nat} {d : DataW H} {ps : List MemPlace} (ho : Value.okWide P W r base T_Slaw09_Act v) (h : DataW.Trod enc P W 0 (fun _ => true) true T_Slaw09_Act v d ps) : ∃ acts, ActsAt (old W) v acts := by
  obtain ⟨fuel, hf⟩ := h
  obtain ⟨u, acts, h1, h2⟩ := open_acts hf
  obtain rfl := val_slice (Pr := P) U_Slaw09_Act ho h1
  exact ⟨acts, h2⟩
set_option maxRecDepth 100000 in
theorem arg_nums {v : Value} {r : Reach} {base : Nat} {d : DataW H} {ps : List MemPlace} (ho : Value.okWide P W r base T_Sint64 v) (h : DataW.Trod enc P W 0 (fun _ => true) true T_Sint64 v d ps) : ∃ l : List Int, Vw (old W) v 1 l.length (numsV l) ∧ ∀ n ∈ l, I64 n := by
  obtain ⟨fuel, hf⟩ := h
  obtain ⟨u, l, h1, h2, h3⟩ := open_nums hf
  obtain rfl := val_slice (Pr := P) U_Sint64 ho h1
  exact ⟨l, h2, h3⟩
set_option maxRecDepth 100000 in
theorem arg_u8 {v : Value} {r : Reach} {base : Nat} {d : DataW H} {ps : List MemPlace} (ho : Value.okWide P W r base T_uint8 v) (h : DataW.Trod enc P W 0 (fun _ => true) true T_uint8 v d ps) : ∃ n : Nat, v = .int .u8 (n : Int) ∧ n < 256 := by
  obtain ⟨a, rfl, _, _, wa⟩ := open_int U_uint8 ho h
  unfold Lit.wf at wa
  simp only [Bool.and_eq_true, decide_eq_true_eq] at wa
  have h1 : (0 : Int) ≤ a := wa.1
  have h2 : a ≤ 255 := wa.2
  exact ⟨a.toNat, by rw [Int.toNat_of_nonneg h1], by omega⟩
end
end Go.Proofs.YtjfacgmobpbhcaaGreat
