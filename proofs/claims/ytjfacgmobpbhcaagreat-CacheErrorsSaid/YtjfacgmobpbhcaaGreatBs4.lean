/- Part 4: what the proof of the law rests on: the walks of the functions that it calls, and the plain laws of what they compute. -/
import Derived.Test.YtjfacgmobpbhcaaGreatBs3
/- The walks: cells. -/
namespace Go.Proofs.YtjfacgmobpbhcaaGreat
open Go.Sl Sei
theorem s_cell_Slot (gen : Int) (s : List UInt8) (hg : I64 gen) : Ctr P f_cell_Slot [i64 gen, str s] emp (fun v => own T_uint8 1 v (slot gen s).length (bytesV (slot gen s))) := by
  refine Ctr.of_body (m := 50) fn_cell_Slot rfl rfl rfl rfl rfl (fun F g => ?_)
  refine Wc.seq ?_
  refine Wc.region ?_
  refine Wl.val rfl (V.assign rfl) ?_
  refine Wl.nil ?_
  refine Wx.then_n ?_
  refine Wc.seq ?_
  refine Wc.seq ?_
  refine Wc.region ?_
  refine Wl.val rfl (V.move rfl) ?_
  refine Wl.val rfl (V.lss rfl rfl) ?_
  refine Wl.val rfl (V.move rfl) ?_
  refine Wl.bool 10 rfl (fun hb10 => ?_) (fun hb10 => ?_)
  · -- t10 is True
    try replace hb10 := of_decide_eq_true hb10
    refine Wl.gF rfl rfl rfl ?_
    refine Wl.gF rfl rfl rfl ?_
    refine Wl.val rfl (V.pickT rfl rfl) ?_
    refine Wl.val rfl (V.move rfl) ?_
    refine Wl.gF rfl rfl rfl ?_
    refine Wl.gF rfl rfl rfl ?_
    refine Wl.gF rfl rfl rfl ?_
    refine Wl.val rfl (V.pickT rfl rfl) ?_
    refine Wl.nil ?_
    refine Wx.then_n ?_
    refine Wc.condT rfl ?_
    refine Wc.seq ?_
    refine Wc.region ?_
    refine Wl.val rfl (V.assign rfl) ?_
    refine Wl.nil ?_
    refine Wx.then_n ?_
    refine Wc.ret ?_
    repeat (first | refine Wx.then_r ?_ | refine Wx.blk_r ?_ | refine Wx.ng_r ?_)
    refine Wx.ret1 rfl rfl rfl ?_
    rw [slot, if_pos (by omega)]; exact (Ent.right _ _).trans (Ent.own_nil T_uint8 1 F)
  · -- t10 is False
    try replace hb10 := of_decide_eq_false hb10
    refine Wl.gT rfl rfl ?_
    refine Wl.val rfl (V.move rfl) ?_
    refine Wl.gT rfl rfl ?_
    refine Wl.val rfl (V.gtr rfl rfl) ?_
    refine Wl.val rfl (V.pickF rfl rfl) ?_
    refine Wl.val rfl (V.move rfl) ?_
    refine Wl.bool 14 rfl (fun hb14 => ?_) (fun hb14 => ?_)
    · -- t14 is True
      try replace hb14 := of_decide_eq_true hb14
      refine Wl.gF rfl rfl rfl ?_
      refine Wl.gF rfl rfl rfl ?_
      refine Wl.gF rfl rfl rfl ?_
      refine Wl.val rfl (V.pickT rfl rfl) ?_
      refine Wl.nil ?_
      refine Wx.then_n ?_
      refine Wc.condT rfl ?_
      refine Wc.seq ?_
      refine Wc.region ?_
      refine Wl.val rfl (V.assign rfl) ?_
      refine Wl.nil ?_
      refine Wx.then_n ?_
      refine Wc.ret ?_
      repeat (first | refine Wx.then_r ?_ | refine Wx.blk_r ?_ | refine Wx.ng_r ?_)
      refine Wx.ret1 rfl rfl rfl ?_
      rw [slot, if_pos (by omega)]; exact (Ent.right _ _).trans (Ent.own_nil T_uint8 1 F)
    · -- t14 is False
      try replace hb14 := of_decide_eq_false hb14
      refine Wl.gT rfl rfl ?_
      refine Wl.val rfl (V.move rfl) ?_
      refine Wl.gT rfl rfl ?_
      refine Wl.val rfl (V.lenT rfl U_string) ?_
      refine Wl.gT rfl rfl ?_
      refine Wl.val rfl (V.gtr rfl rfl) ?_
      refine Wl.val rfl (V.pickF rfl rfl) ?_
      refine Wl.nil ?_
      refine Wx.then_n ?_
      refine Wc.cond rfl (fun hc1 => ?_) (fun hc1 => ?_)
      · skip
        try replace hc1 := of_decide_eq_true hc1
        refine Wc.seq ?_
        refine Wc.region ?_
        refine Wl.val rfl (V.assign rfl) ?_
        refine Wl.nil ?_
        refine Wx.then_n ?_
        refine Wc.ret ?_
        repeat (first | refine Wx.then_r ?_ | refine Wx.blk_r ?_ | refine Wx.ng_r ?_)
        refine Wx.ret1 rfl rfl rfl ?_
        rw [slot, if_pos (by omega)]; exact (Ent.right _ _).trans (Ent.own_nil T_uint8 1 F)
      · skip
        try replace hc1 := of_decide_eq_false hc1
        have hlen : (enc ⟨1, [gen], [s]⟩).1.length ≤ 255 := enc_slot_len (by omega)
        refine Wc.skip ?_
        refine Wx.then_n ?_
        refine Wc.seq ?_
        refine Wc.region ?_
        refine Wl.val rfl (V.move rfl) ?_
        refine Wl.al rfl (M.slice (l := [i64 gen]) U_Sint64 L_Sint64.size N_int64 rfl (by decide) rfl rfl) (fun r21 => ?_)
        refine Wl.val rfl (V.move rfl) ?_
        refine Wl.al rfl (M.slice (l := [str s]) U_Sstring L_Sstring.size N_string rfl (by decide) rfl rfl) (fun r23 => ?_)
        refine Wl.val rfl (V.build B_api_Rec rfl rfl) ?_
        refine Wl.call rfl rfl (s_code_Encode (S := row r21 T_int64 [i64 gen] * row r23 T_string [str s]) ⟨1, [gen], [s]⟩ (by intro n hn; simp at hn; subst hn; exact hg) (Vw.lift (S := row r21 T_int64 [i64 gen]) (Vw.row (by decide) (by decide) rfl (fun j x h => by rw [Nat.zero_add]; exact h))) (Vw.lift (S := row r23 T_string [str s]) (Vw.row (by decide) (by decide) rfl (fun j x h => by rw [Nat.zero_add]; exact h)))) (Take.two (Take.there Take.here) Take.here) (fun v25 => ?_)
        refine Wl.exm (fun b => ?_)
        refine Wl.pull (fun hb => ?_)
        subst hb
        generalize he : (enc ⟨1, [gen], [s]⟩).1 = eb at *
        generalize (enc ⟨1, [gen], [s]⟩).2 = ec
        refine Wl.know (fun g w s => Vw.of_own T_uint8 1 b eb.length (bytesV eb) g w (s.ent Ent.auto)) (fun hv => ?_)
        refine Wl.val rfl (V.move rfl) ?_
        refine Wl.val rfl (V.ext rfl rfl) ?_
        refine Wl.val rfl (V.ext rfl rfl) ?_
        refine Wl.val rfl (V.assign rfl) ?_
        refine Wl.val rfl (V.assign rfl) ?_
        refine Wl.nil ?_
        refine Wx.then_n ?_
        refine Wc.seq ?_
        refine Wc.region ?_
        refine Wl.val rfl (V.move rfl) ?_
        refine Wl.val rfl (V.lenW rfl U_Suint8 hv) ?_
        refine Wl.val rfl (V.conv rfl U_int U_uint8 (r := ((UInt8.ofNat eb.length).toNat : Int)) (by rw [wrap_u8_mod]; simp)) ?_
        refine Wl.al rfl (M.slice (l := [u8 (UInt8.ofNat eb.length)]) U_Suint8 L_Suint8.size N_uint8 rfl (by decide) rfl rfl) (fun r31 => ?_)
        refine Wl.ent (Ent.own_row (n := 1) (cap := 1) (m := 1) (xs := bytesV [UInt8.ofNat eb.length]) _ (by decide) (by decide) rfl rfl) ?_
        refine Wl.val rfl (V.move rfl) ?_
        refine Wl.exo rfl (X.append L_Suint8 rfl rfl Take.here (Src.vw U_Suint8 hv (bytesV_one _)) (by unfold maxLen; omega) (by omega)) (fun v33 => ?_)
        refine Wl.ent (Ent.frame _ (own_to (n' := (lenB eb).length) (xs' := bytesV (lenB eb)) (by simp [lenB]; omega) (by simp [lenB, bytesV]))) ?_
        refine Wl.know (fun g w s => Vw.of_own T_uint8 1 v33 _ _ g w (s.ent (Ent.left _ _))) (fun hv2 => ?_)
        refine Wl.val rfl (V.assign rfl) ?_
        refine Wl.nil ?_
        refine Wx.then_n ?_
        refine Wc.seq ?_
        refine Wc.region ?_
        refine Wl.val rfl (V.move rfl) ?_
        first | refine Wl.callE rfl rfl (s_crc_Sum hv2) ?_ | refine Wl.callD rfl rfl (s_crc_Sum hv2) (by first | exact Take.here | exact Take.there Take.here | exact Take.there (Take.there Take.here) | exact Take.there (Take.there (Take.there Take.here)) | exact Take.none _ | exact TakeC.t | exact Take.there (Take.there (Take.there (Take.there Take.here))) | exact Take.there (Take.there (Take.there (Take.there (Take.there Take.here)))) | exact Take.there (Take.there (Take.there (Take.there (Take.there (Take.there Take.here)))))) ?_
        refine Wl.val rfl (V.assign rfl) ?_
        refine Wl.nil ?_
        refine Wx.then_n ?_
        refine Wc.seq ?_
        refine Wc.region ?_
        refine Wl.val rfl (V.move rfl) ?_
        refine Wl.val rfl (V.shr rfl rfl (by omega) (by exact shr_u32 _ 24 (by omega))) ?_
        refine Wl.val rfl (V.conv rfl U_uint32 U_uint8 (by exact conv_u32_u8 _)) ?_
        refine Wl.val rfl (V.move rfl) ?_
        refine Wl.val rfl (V.shr rfl rfl (by omega) (by exact shr_u32 _ 16 (by omega))) ?_
        refine Wl.val rfl (V.conv rfl U_uint32 U_uint8 (by exact conv_u32_u8 _)) ?_
        refine Wl.val rfl (V.move rfl) ?_
        refine Wl.val rfl (V.shr rfl rfl (by omega) (by exact shr_u32 _ 8 (by omega))) ?_
        refine Wl.val rfl (V.conv rfl U_uint32 U_uint8 (by exact conv_u32_u8 _)) ?_
        refine Wl.val rfl (V.move rfl) ?_
        refine Wl.val rfl (V.conv rfl U_uint32 U_uint8 (by exact conv_u32_u8 _)) ?_
        refine Wl.al rfl (M.slice (l := bytesV (be32 (crcSum (lenB eb)))) U_Suint8 L_Suint8.size N_uint8 rfl (by decide) rfl rfl) (fun r47 => ?_)
        refine Wl.ent (Ent.own_row (n := 4) (cap := 4) (m := 1) (xs := bytesV (be32 (crcSum (lenB eb)))) _ (by decide) (by decide) rfl rfl) ?_
        refine Wl.val rfl (V.move rfl) ?_
        refine Wl.exo rfl (X.append L_Suint8 rfl rfl Take.here (Src.vw U_Suint8 hv2 (bytesV_one _)) (by unfold maxLen; simp [lenB]; omega) (by simp [lenB]; omega)) (fun v49 => ?_)
        refine Wl.val rfl (V.assign rfl) ?_
        refine Wl.nil ?_
        refine Wx.then_n ?_
        refine Wc.ret ?_
        repeat (first | refine Wx.then_r ?_ | refine Wx.blk_r ?_ | refine Wx.ng_r ?_)
        refine Wx.ret1 rfl rfl rfl ?_
        rw [slot, if_neg (by omega), he]
        refine (own_to ?_ ?_).mul Ent.auto
        · simp [framed, be32, lenB]; omega
        · simp [framed]
theorem s_cell_read {S : HP} {v : Value} {b : List UInt8} (hw : Vw S v 1 b.length (bytesV b)) (hl : 5 ≤ b.length) : Ctr P f_cell_read [v] S (fun r => pu (r = .tuple #[i64 (readCell b).1, str (readCell b).2.1, .bool (readCell b).2.2]) * S) := by
  have hn := (b.getD 4 0).toNat_lt
  have hm := hw.le
  have hL : lenOf b = (b.getD 4 0).toNat := rfl
  refine Ctr.of_body (m := 106) fn_cell_read rfl rfl rfl rfl rfl (fun F g => ?_)
  refine Wc.seq ?_
  refine Wc.region ?_
  refine Wl.val rfl (V.assign rfl) ?_
  refine Wl.val rfl (V.assign rfl) ?_
  refine Wl.val rfl (V.assign rfl) ?_
  refine Wl.nil ?_
  refine Wx.then_n ?_
  refine Wc.seq ?_
  refine Wc.region ?_
  refine Wl.val rfl (V.move rfl) ?_
  refine Wl.val rfl (V.idxW rfl rfl U_Suint8 Z_uint8 hw (by decide) (by omega)) ?_
  refine Wl.val rfl (V.ldW (u := u8 (b.getD 4 0)) rfl C_uint8 hw (getD_byte (by omega))) ?_
  refine Wl.val rfl (V.conv rfl U_uint8 U_int (wr64 (by omega) (by omega))) ?_
  refine Wl.val rfl (V.assign rfl) ?_
  refine Wl.nil ?_
  refine Wx.then_n ?_
  refine Wc.seq ?_
  refine Wc.seq ?_
  refine Wc.region ?_
  refine Wl.val rfl (V.move rfl) ?_
  refine Wl.val rfl (V.addk rfl rfl (wr64 (by omega) (by omega))) ?_
  refine Wl.val rfl (V.move rfl) ?_
  refine Wl.val rfl (V.lenW rfl U_Suint8 hw) ?_
  refine Wl.val rfl (V.gtr rfl rfl) ?_
  refine Wl.nil ?_
  refine Wx.then_n ?_
  refine Wc.cond rfl (fun hc1 => ?_) (fun hc1 => ?_)
  · skip
    try replace hc1 := of_decide_eq_true hc1
    refine Wc.seq ?_
    refine Wc.region ?_
    refine Wl.val rfl (V.assign rfl) ?_
    refine Wl.val rfl (V.assign rfl) ?_
    refine Wl.val rfl (V.assign rfl) ?_
    refine Wl.nil ?_
    refine Wx.then_n ?_
    refine Wc.ret ?_
    repeat (first | refine Wx.then_r ?_ | refine Wx.blk_r ?_ | refine Wx.ng_r ?_)
    refine Wx.ret3 rfl rfl rfl rfl rfl ?_
    exact Ent.resC (by rw [readCell, if_pos (by omega)])
  · skip
    try replace hc1 := of_decide_eq_false hc1
    refine Wc.skip ?_
    refine Wx.then_n ?_
    refine Wc.seq ?_
    refine Wc.quiet mixed (by kernel_rfl) ?_
    refine Wq.val rfl (V.move rfl) ?_
    refine Wq.val rfl (V.idxW rfl rfl U_Suint8 Z_uint8 hw (by decide) (by omega)) ?_
    refine Wq.val rfl (V.ldW (u := u8 (b.getD 0 0)) rfl C_uint8 hw (getD_byte (by omega))) ?_
    refine Wq.val rfl (V.conv rfl U_uint8 U_uint32 (by exact conv_u8_u32 _)) ?_
    refine Wq.val rfl (V.shl rfl rfl (by omega) (by exact shl_u32 _ 24 (by omega))) ?_
    refine Wq.val rfl (V.move rfl) ?_
    refine Wq.val rfl (V.idxW rfl rfl U_Suint8 Z_uint8 hw (by decide) (by omega)) ?_
    refine Wq.val rfl (V.ldW (u := u8 (b.getD 1 0)) rfl C_uint8 hw (getD_byte (by omega))) ?_
    refine Wq.val rfl (V.conv rfl U_uint8 U_uint32 (by exact conv_u8_u32 _)) ?_
    refine Wq.val rfl (V.shl rfl rfl (by omega) (by exact shl_u32 _ 16 (by omega))) ?_
    refine Wq.val rfl (V.or rfl rfl (by exact or_u32 _ _)) ?_
    refine Wq.val rfl (V.move rfl) ?_
    refine Wq.val rfl (V.idxW rfl rfl U_Suint8 Z_uint8 hw (by decide) (by omega)) ?_
    refine Wq.val rfl (V.ldW (u := u8 (b.getD 2 0)) rfl C_uint8 hw (getD_byte (by omega))) ?_
    refine Wq.val rfl (V.conv rfl U_uint8 U_uint32 (by exact conv_u8_u32 _)) ?_
    refine Wq.val rfl (V.shl rfl rfl (by omega) (by exact shl_u32 _ 8 (by omega))) ?_
    refine Wq.val rfl (V.or rfl rfl (by exact or_u32 _ _)) ?_
    refine Wq.val rfl (V.move rfl) ?_
    refine Wq.val rfl (V.idxW rfl rfl U_Suint8 Z_uint8 hw (by decide) (by omega)) ?_
    refine Wq.val rfl (V.ldW (u := u8 (b.getD 3 0)) rfl C_uint8 hw (getD_byte (by omega))) ?_
    refine Wq.val rfl (V.conv rfl U_uint8 U_uint32 (by exact conv_u8_u32 _)) ?_
    refine Wq.val rfl (V.or rfl rfl (by exact or_u32 _ _)) ?_
    refine Wq.val rfl (V.assign rfl) ?_
    refine Wq.nil ?_
    refine Wx.then_n ?_
    refine Wc.seq ?_
    refine Wc.region ?_
    refine Wl.val rfl (V.move rfl) ?_
    refine Wl.val rfl (V.move rfl) ?_
    refine Wl.val rfl (V.addk rfl rfl (wr64 (by omega) (by omega))) ?_
    refine Wl.val rfl (V.sliceW (l := 5) (q := 5 + lenOf b) rfl U_Suint8 Z_uint8 rfl rfl hw rfl (by show _ = _; rw [hL]; simp) (by omega) (by omega)) ?_
    refine Wl.call rfl rfl (s_code_Decode (bs := bodyOf b) (Vw.cut hw (l := 5) (q := 5 + lenOf b) (by omega) (by omega) (by simp [bodyOf]) (by simp [bodyOf]; omega))) (by first | exact Take.here | exact Take.there Take.here | exact Take.there (Take.there Take.here) | exact Take.there (Take.there (Take.there Take.here)) | exact Take.none _ | exact TakeC.t | exact Take.there (Take.there (Take.there (Take.there Take.here))) | exact Take.there (Take.there (Take.there (Take.there (Take.there Take.here)))) | exact Take.there (Take.there (Take.there (Take.there (Take.there (Take.there Take.here)))))) (fun v45 => ?_)
    refine Wl.exm (fun q => ?_)
    refine Wl.pull (fun hq => ?_)
    subst hq
    obtain ⟨nv, tv⟩ := q
    dsimp only
    generalize hd : dec (bodyOf b) = de
    obtain ⟨r, ec⟩ := de
    dsimp only
    refine Wl.ent (H' := own T_int64 1 nv r.nums.length (numsV r.nums) * (own T_string 1 tv r.texts.length (textsV r.texts) * (S * F))) Ent.auto ?_
    refine Wl.know (fun g w s => Vw.of_own T_int64 1 nv r.nums.length (numsV r.nums) g w (s.ent Ent.auto)) (fun hvn => ?_)
    refine Wl.know (fun g w s => Vw.of_own T_string 1 tv r.texts.length (textsV r.texts) g w (s.ent Ent.auto)) (fun hvt => ?_)
    refine Wl.val rfl (V.move rfl) ?_
    refine Wl.val rfl (V.ext rfl rfl) ?_
    refine Wl.val rfl (V.ext rfl rfl) ?_
    refine Wl.al rfl (M.alloc N_api_Rec) (fun r7 => ?_)
    refine Wl.st (Go.Sl.S.putA rfl rfl C_api_Rec (by simp only [oneCells, hvn.one, hvt.one]; rfl) rfl rfl rfl) ?_
    refine Wl.val rfl (V.assign rfl) ?_
    refine Wl.nil ?_
    refine Wx.then_n ?_
    refine Wc.seq ?_
    refine Wc.seq ?_
    refine Wc.region ?_
    refine Wl.val rfl (V.move rfl) ?_
    refine Wl.val rfl (V.move rfl) ?_
    refine Wl.val rfl (V.addk rfl rfl (wr64 (by omega) (by omega))) ?_
    refine Wl.val rfl (V.sliceW (l := 4) (q := 5 + lenOf b) rfl U_Suint8 Z_uint8 rfl rfl hw rfl (by show _ = _; rw [hL]; simp) (by omega) (by omega)) ?_
    refine Wl.val rfl (V.move rfl) ?_
    first | refine Wl.callE rfl rfl (s_crc_Check (sumOf b) (Vw.cut hw (l := 4) (q := 5 + lenOf b) (c := (b.drop 4).take (lenOf b + 1)) (by omega) (by omega) (by rw [show 5 + lenOf b - 4 = lenOf b + 1 by omega]) (by simp; omega))) ?_ | refine Wl.callD rfl rfl (s_crc_Check (sumOf b) (Vw.cut hw (l := 4) (q := 5 + lenOf b) (c := (b.drop 4).take (lenOf b + 1)) (by omega) (by omega) (by rw [show 5 + lenOf b - 4 = lenOf b + 1 by omega]) (by simp; omega))) (by first | exact Take.here | exact Take.there Take.here | exact Take.there (Take.there Take.here) | exact Take.there (Take.there (Take.there Take.here)) | exact Take.none _ | exact TakeC.t | exact Take.there (Take.there (Take.there (Take.there Take.here))) | exact Take.there (Take.there (Take.there (Take.there (Take.there Take.here)))) | exact Take.there (Take.there (Take.there (Take.there (Take.there (Take.there Take.here)))))) ?_
    refine Wl.val rfl (V.not rfl) ?_
    refine Wl.val rfl (V.move rfl) ?_
    refine Wl.bool 55 rfl (fun hb55 => ?_) (fun hb55 => ?_)
    · -- t55 is True
      try replace hb55 := of_decide_eq_true hb55
      refine Wl.gF rfl rfl rfl ?_
      refine Wl.gF rfl rfl rfl ?_
      refine Wl.val rfl (V.pickT rfl rfl) ?_
      refine Wl.val rfl (V.move rfl) ?_
      refine Wl.gF rfl rfl rfl ?_
      refine Wl.gF rfl rfl rfl ?_
      refine Wl.gF rfl rfl rfl ?_
      refine Wl.val rfl (V.pickT rfl rfl) ?_
      refine Wl.val rfl (V.move rfl) ?_
      refine Wl.gF rfl rfl rfl ?_
      refine Wl.gF rfl rfl rfl ?_
      refine Wl.gF rfl rfl rfl ?_
      refine Wl.gF rfl rfl rfl ?_
      refine Wl.val rfl (V.pickT rfl rfl) ?_
      refine Wl.val rfl (V.move rfl) ?_
      refine Wl.gF rfl rfl rfl ?_
      refine Wl.gF rfl rfl rfl ?_
      refine Wl.gF rfl rfl rfl ?_
      refine Wl.gF rfl rfl rfl ?_
      refine Wl.val rfl (V.pickT rfl rfl) ?_
      refine Wl.val rfl (V.move rfl) ?_
      refine Wl.gF rfl rfl rfl ?_
      refine Wl.gF rfl rfl rfl ?_
      refine Wl.gF rfl rfl rfl ?_
      refine Wl.gF rfl rfl rfl ?_
      refine Wl.gF rfl rfl rfl ?_
      refine Wl.gF rfl rfl rfl ?_
      refine Wl.val rfl (V.pickT rfl rfl) ?_
      refine Wl.val rfl (V.move rfl) ?_
      refine Wl.gF rfl rfl rfl ?_
      refine Wl.gF rfl rfl rfl ?_
      refine Wl.gF rfl rfl rfl ?_
      refine Wl.gF rfl rfl rfl ?_
      refine Wl.gF rfl rfl rfl ?_
      refine Wl.val rfl (V.pickT rfl rfl) ?_
      refine Wl.val rfl (V.move rfl) ?_
      refine Wl.gF rfl rfl rfl ?_
      refine Wl.gF rfl rfl rfl ?_
      refine Wl.gF rfl rfl rfl ?_
      refine Wl.gF rfl rfl rfl ?_
      refine Wl.gF rfl rfl rfl ?_
      refine Wl.val rfl (V.pickT rfl rfl) ?_
      refine Wl.nil ?_
      refine Wx.then_n ?_
      refine Wc.condT rfl ?_
      refine Wc.seq ?_
      refine Wc.region ?_
      refine Wl.val rfl (V.assign rfl) ?_
      refine Wl.val rfl (V.assign rfl) ?_
      refine Wl.val rfl (V.assign rfl) ?_
      refine Wl.nil ?_
      refine Wx.then_n ?_
      refine Wc.ret ?_
      repeat (first | refine Wx.then_r ?_ | refine Wx.blk_r ?_ | refine Wx.ng_r ?_)
      refine Wx.ret3 rfl rfl rfl rfl rfl ?_
      refine Ent.resC ?_
      rw [readCell_bad (by omega) hd (by clear hL hn; simp only [cellBad, goodSum, *, decide_true, decide_false, not_true, not_false_iff, Bool.true_or, Bool.or_true, Bool.false_or, Bool.or_false, Bool.or_self])]
    · -- t55 is False
      try replace hb55 := of_decide_eq_false hb55
      refine Wl.gT rfl rfl ?_
      refine Wl.val rfl (V.move rfl) ?_
      refine Wl.gT rfl rfl ?_
      refine Wl.val rfl (V.neq rfl rfl) ?_
      refine Wl.val rfl (V.pickF rfl rfl) ?_
      refine Wl.val rfl (V.move rfl) ?_
      refine Wl.bool 59 rfl (fun hb59 => ?_) (fun hb59 => ?_)
      · -- t59 is True
        try replace hb59 := of_decide_eq_true hb59
        refine Wl.gF rfl rfl rfl ?_
        refine Wl.gF rfl rfl rfl ?_
        refine Wl.gF rfl rfl rfl ?_
        refine Wl.val rfl (V.pickT rfl rfl) ?_
        refine Wl.val rfl (V.move rfl) ?_
        refine Wl.gF rfl rfl rfl ?_
        refine Wl.gF rfl rfl rfl ?_
        refine Wl.gF rfl rfl rfl ?_
        refine Wl.gF rfl rfl rfl ?_
        refine Wl.val rfl (V.pickT rfl rfl) ?_
        refine Wl.val rfl (V.move rfl) ?_
        refine Wl.gF rfl rfl rfl ?_
        refine Wl.gF rfl rfl rfl ?_
        refine Wl.gF rfl rfl rfl ?_
        refine Wl.gF rfl rfl rfl ?_
        refine Wl.val rfl (V.pickT rfl rfl) ?_
        refine Wl.val rfl (V.move rfl) ?_
        refine Wl.gF rfl rfl rfl ?_
        refine Wl.gF rfl rfl rfl ?_
        refine Wl.gF rfl rfl rfl ?_
        refine Wl.gF rfl rfl rfl ?_
        refine Wl.gF rfl rfl rfl ?_
        refine Wl.gF rfl rfl rfl ?_
        refine Wl.val rfl (V.pickT rfl rfl) ?_
        refine Wl.val rfl (V.move rfl) ?_
        refine Wl.gF rfl rfl rfl ?_
        refine Wl.gF rfl rfl rfl ?_
        refine Wl.gF rfl rfl rfl ?_
        refine Wl.gF rfl rfl rfl ?_
        refine Wl.gF rfl rfl rfl ?_
        refine Wl.val rfl (V.pickT rfl rfl) ?_
        refine Wl.val rfl (V.move rfl) ?_
        refine Wl.gF rfl rfl rfl ?_
        refine Wl.gF rfl rfl rfl ?_
        refine Wl.gF rfl rfl rfl ?_
        refine Wl.gF rfl rfl rfl ?_
        refine Wl.gF rfl rfl rfl ?_
        refine Wl.val rfl (V.pickT rfl rfl) ?_
        refine Wl.nil ?_
        refine Wx.then_n ?_
        refine Wc.condT rfl ?_
        refine Wc.seq ?_
        refine Wc.region ?_
        refine Wl.val rfl (V.assign rfl) ?_
        refine Wl.val rfl (V.assign rfl) ?_
        refine Wl.val rfl (V.assign rfl) ?_
        refine Wl.nil ?_
        refine Wx.then_n ?_
        refine Wc.ret ?_
        repeat (first | refine Wx.then_r ?_ | refine Wx.blk_r ?_ | refine Wx.ng_r ?_)
        refine Wx.ret3 rfl rfl rfl rfl rfl ?_
        refine Ent.resC ?_
        rw [readCell_bad (by omega) hd (by clear hL hn; simp only [cellBad, goodSum, *, decide_true, decide_false, not_true, not_false_iff, Bool.true_or, Bool.or_true, Bool.false_or, Bool.or_false, Bool.or_self])]
      · -- t59 is False
        try replace hb59 := of_decide_eq_false hb59
        refine Wl.gT rfl rfl ?_
        refine Wl.val rfl (V.fld _ rfl O_api_Rec_0 rfl) ?_
        refine Wl.gT rfl rfl ?_
        refine Wl.val rfl (V.ld rfl C_int rfl) ?_
        refine Wl.gT rfl rfl ?_
        refine Wl.val rfl (V.neq rfl rfl) ?_
        refine Wl.val rfl (V.pickF rfl rfl) ?_
        refine Wl.val rfl (V.move rfl) ?_
        refine Wl.bool 64 rfl (fun hb64 => ?_) (fun hb64 => ?_)
        · -- t64 is True
          try replace hb64 := of_decide_eq_true hb64
          refine Wl.gF rfl rfl rfl ?_
          refine Wl.gF rfl rfl rfl ?_
          refine Wl.gF rfl rfl rfl ?_
          refine Wl.gF rfl rfl rfl ?_
          refine Wl.val rfl (V.pickT rfl rfl) ?_
          refine Wl.val rfl (V.move rfl) ?_
          refine Wl.gF rfl rfl rfl ?_
          refine Wl.gF rfl rfl rfl ?_
          refine Wl.gF rfl rfl rfl ?_
          refine Wl.gF rfl rfl rfl ?_
          refine Wl.val rfl (V.pickT rfl rfl) ?_
          refine Wl.val rfl (V.move rfl) ?_
          refine Wl.gF rfl rfl rfl ?_
          refine Wl.gF rfl rfl rfl ?_
          refine Wl.gF rfl rfl rfl ?_
          refine Wl.gF rfl rfl rfl ?_
          refine Wl.gF rfl rfl rfl ?_
          refine Wl.gF rfl rfl rfl ?_
          refine Wl.val rfl (V.pickT rfl rfl) ?_
          refine Wl.val rfl (V.move rfl) ?_
          refine Wl.gF rfl rfl rfl ?_
          refine Wl.gF rfl rfl rfl ?_
          refine Wl.gF rfl rfl rfl ?_
          refine Wl.gF rfl rfl rfl ?_
          refine Wl.gF rfl rfl rfl ?_
          refine Wl.val rfl (V.pickT rfl rfl) ?_
          refine Wl.val rfl (V.move rfl) ?_
          refine Wl.gF rfl rfl rfl ?_
          refine Wl.gF rfl rfl rfl ?_
          refine Wl.gF rfl rfl rfl ?_
          refine Wl.gF rfl rfl rfl ?_
          refine Wl.gF rfl rfl rfl ?_
          refine Wl.val rfl (V.pickT rfl rfl) ?_
          refine Wl.nil ?_
          refine Wx.then_n ?_
          refine Wc.condT rfl ?_
          refine Wc.seq ?_
          refine Wc.region ?_
          refine Wl.val rfl (V.assign rfl) ?_
          refine Wl.val rfl (V.assign rfl) ?_
          refine Wl.val rfl (V.assign rfl) ?_
          refine Wl.nil ?_
          refine Wx.then_n ?_
          refine Wc.ret ?_
          repeat (first | refine Wx.then_r ?_ | refine Wx.blk_r ?_ | refine Wx.ng_r ?_)
          refine Wx.ret3 rfl rfl rfl rfl rfl ?_
          refine Ent.resC ?_
          rw [readCell_bad (by omega) hd (by clear hL hn; simp only [cellBad, goodSum, *, decide_true, decide_false, not_true, not_false_iff, Bool.true_or, Bool.or_true, Bool.false_or, Bool.or_false, Bool.or_self])]
        · -- t64 is False
          try replace hb64 := of_decide_eq_false hb64
          refine Wl.gT rfl rfl ?_
          refine Wl.val rfl (V.fld _ rfl O_api_Rec_1 rfl) ?_
          refine Wl.gT rfl rfl ?_
          refine Wl.val rfl (V.ld rfl C_Sint64 rfl) ?_
          refine Wl.gT rfl rfl ?_
          refine Wl.val rfl (V.lenW rfl U_Sint64 hvn) ?_
          refine Wl.gT rfl rfl ?_
          refine Wl.val rfl (V.neq rfl rfl) ?_
          refine Wl.val rfl (V.pickF rfl rfl) ?_
          refine Wl.val rfl (V.move rfl) ?_
          refine Wl.bool 70 rfl (fun hb70 => ?_) (fun hb70 => ?_)
          · -- t70 is True
            try replace hb70 := of_decide_eq_true hb70
            refine Wl.gF rfl rfl rfl ?_
            refine Wl.gF rfl rfl rfl ?_
            refine Wl.gF rfl rfl rfl ?_
            refine Wl.gF rfl rfl rfl ?_
            refine Wl.val rfl (V.pickT rfl rfl) ?_
            refine Wl.val rfl (V.move rfl) ?_
            refine Wl.gF rfl rfl rfl ?_
            refine Wl.gF rfl rfl rfl ?_
            refine Wl.gF rfl rfl rfl ?_
            refine Wl.gF rfl rfl rfl ?_
            refine Wl.gF rfl rfl rfl ?_
            refine Wl.gF rfl rfl rfl ?_
            refine Wl.val rfl (V.pickT rfl rfl) ?_
            refine Wl.val rfl (V.move rfl) ?_
            refine Wl.gF rfl rfl rfl ?_
            refine Wl.gF rfl rfl rfl ?_
            refine Wl.gF rfl rfl rfl ?_
            refine Wl.gF rfl rfl rfl ?_
            refine Wl.gF rfl rfl rfl ?_
            refine Wl.val rfl (V.pickT rfl rfl) ?_
            refine Wl.val rfl (V.move rfl) ?_
            refine Wl.gF rfl rfl rfl ?_
            refine Wl.gF rfl rfl rfl ?_
            refine Wl.gF rfl rfl rfl ?_
            refine Wl.gF rfl rfl rfl ?_
            refine Wl.gF rfl rfl rfl ?_
            refine Wl.val rfl (V.pickT rfl rfl) ?_
            refine Wl.nil ?_
            refine Wx.then_n ?_
            refine Wc.condT rfl ?_
            refine Wc.seq ?_
            refine Wc.region ?_
            refine Wl.val rfl (V.assign rfl) ?_
            refine Wl.val rfl (V.assign rfl) ?_
            refine Wl.val rfl (V.assign rfl) ?_
            refine Wl.nil ?_
            refine Wx.then_n ?_
            refine Wc.ret ?_
            repeat (first | refine Wx.then_r ?_ | refine Wx.blk_r ?_ | refine Wx.ng_r ?_)
            refine Wx.ret3 rfl rfl rfl rfl rfl ?_
            refine Ent.resC ?_
            rw [readCell_bad (by omega) hd (by clear hL hn; simp only [cellBad, goodSum, *, decide_true, decide_false, not_true, not_false_iff, Bool.true_or, Bool.or_true, Bool.false_or, Bool.or_false, Bool.or_self])]
          · -- t70 is False
            try replace hb70 := of_decide_eq_false hb70
            refine Wl.gT rfl rfl ?_
            refine Wl.val rfl (V.fld _ rfl O_api_Rec_2 rfl) ?_
            refine Wl.gT rfl rfl ?_
            refine Wl.val rfl (V.ld rfl C_Sstring rfl) ?_
            refine Wl.gT rfl rfl ?_
            refine Wl.val rfl (V.lenW rfl U_Sstring hvt) ?_
            refine Wl.gT rfl rfl ?_
            refine Wl.val rfl (V.neq rfl rfl) ?_
            refine Wl.val rfl (V.pickF rfl rfl) ?_
            refine Wl.val rfl (V.move rfl) ?_
            refine Wl.bool 76 rfl (fun hb76 => ?_) (fun hb76 => ?_)
            · -- t76 is True
              try replace hb76 := of_decide_eq_true hb76
              refine Wl.gF rfl rfl rfl ?_
              refine Wl.gF rfl rfl rfl ?_
              refine Wl.gF rfl rfl rfl ?_
              refine Wl.gF rfl rfl rfl ?_
              refine Wl.gF rfl rfl rfl ?_
              refine Wl.gF rfl rfl rfl ?_
              refine Wl.val rfl (V.pickT rfl rfl) ?_
              refine Wl.val rfl (V.move rfl) ?_
              refine Wl.gF rfl rfl rfl ?_
              refine Wl.gF rfl rfl rfl ?_
              refine Wl.gF rfl rfl rfl ?_
              refine Wl.gF rfl rfl rfl ?_
              refine Wl.gF rfl rfl rfl ?_
              refine Wl.val rfl (V.pickT rfl rfl) ?_
              refine Wl.val rfl (V.move rfl) ?_
              refine Wl.gF rfl rfl rfl ?_
              refine Wl.gF rfl rfl rfl ?_
              refine Wl.gF rfl rfl rfl ?_
              refine Wl.gF rfl rfl rfl ?_
              refine Wl.gF rfl rfl rfl ?_
              refine Wl.val rfl (V.pickT rfl rfl) ?_
              refine Wl.nil ?_
              refine Wx.then_n ?_
              refine Wc.condT rfl ?_
              refine Wc.seq ?_
              refine Wc.region ?_
              refine Wl.val rfl (V.assign rfl) ?_
              refine Wl.val rfl (V.assign rfl) ?_
              refine Wl.val rfl (V.assign rfl) ?_
              refine Wl.nil ?_
              refine Wx.then_n ?_
              refine Wc.ret ?_
              repeat (first | refine Wx.then_r ?_ | refine Wx.blk_r ?_ | refine Wx.ng_r ?_)
              refine Wx.ret3 rfl rfl rfl rfl rfl ?_
              refine Ent.resC ?_
              rw [readCell_bad (by omega) hd (by clear hL hn; simp only [cellBad, goodSum, *, decide_true, decide_false, not_true, not_false_iff, Bool.true_or, Bool.or_true, Bool.false_or, Bool.or_false, Bool.or_self])]
            · -- t76 is False
              try replace hb76 := of_decide_eq_false hb76
              refine Wl.gT rfl rfl ?_
              refine Wl.val rfl (V.fld _ rfl O_api_Rec_2 rfl) ?_
              refine Wl.gT rfl rfl ?_
              refine Wl.val rfl (V.ld rfl C_Sstring rfl) ?_
              refine Wl.gT rfl rfl ?_
              refine Wl.val rfl (V.idxW rfl rfl U_Sstring Z_string hvt (by decide) (len1 (by assumption))) ?_
              refine Wl.gT rfl rfl ?_
              refine Wl.val rfl (V.ldW rfl C_string hvt (texts0 (by assumption))) ?_
              refine Wl.gT rfl rfl ?_
              refine Wl.val rfl (V.lenT rfl U_string) ?_
              refine Wl.gT rfl rfl ?_
              refine Wl.val rfl (V.gtr rfl rfl) ?_
              refine Wl.val rfl (V.pickF rfl rfl) ?_
              refine Wl.val rfl (V.move rfl) ?_
              refine Wl.bool 84 rfl (fun hb84 => ?_) (fun hb84 => ?_)
              · -- t84 is True
                try replace hb84 := of_decide_eq_true hb84
                refine Wl.gF rfl rfl rfl ?_
                refine Wl.gF rfl rfl rfl ?_
                refine Wl.gF rfl rfl rfl ?_
                refine Wl.gF rfl rfl rfl ?_
                refine Wl.gF rfl rfl rfl ?_
                refine Wl.val rfl (V.pickT rfl rfl) ?_
                refine Wl.val rfl (V.move rfl) ?_
                refine Wl.gF rfl rfl rfl ?_
                refine Wl.gF rfl rfl rfl ?_
                refine Wl.gF rfl rfl rfl ?_
                refine Wl.gF rfl rfl rfl ?_
                refine Wl.gF rfl rfl rfl ?_
                refine Wl.val rfl (V.pickT rfl rfl) ?_
                refine Wl.nil ?_
                refine Wx.then_n ?_
                refine Wc.condT rfl ?_
                refine Wc.seq ?_
                refine Wc.region ?_
                refine Wl.val rfl (V.assign rfl) ?_
                refine Wl.val rfl (V.assign rfl) ?_
                refine Wl.val rfl (V.assign rfl) ?_
                refine Wl.nil ?_
                refine Wx.then_n ?_
                refine Wc.ret ?_
                repeat (first | refine Wx.then_r ?_ | refine Wx.blk_r ?_ | refine Wx.ng_r ?_)
                refine Wx.ret3 rfl rfl rfl rfl rfl ?_
                refine Ent.resC ?_
                rw [readCell_bad (by omega) hd (by clear hL hn; simp only [cellBad, goodSum, *, decide_true, decide_false, not_true, not_false_iff, Bool.true_or, Bool.or_true, Bool.false_or, Bool.or_false, Bool.or_self])]
              · -- t84 is False
                try replace hb84 := of_decide_eq_false hb84
                refine Wl.gT rfl rfl ?_
                refine Wl.val rfl (V.fld _ rfl O_api_Rec_1 rfl) ?_
                refine Wl.gT rfl rfl ?_
                refine Wl.val rfl (V.ld rfl C_Sint64 rfl) ?_
                refine Wl.gT rfl rfl ?_
                refine Wl.val rfl (V.idxW rfl rfl U_Sint64 Z_int64 hvn (by decide) (len1 (by assumption))) ?_
                refine Wl.gT rfl rfl ?_
                refine Wl.val rfl (V.ldW rfl C_int64 hvn (nums0 (by assumption))) ?_
                refine Wl.gT rfl rfl ?_
                refine Wl.val rfl (V.lss rfl rfl) ?_
                refine Wl.val rfl (V.pickF rfl rfl) ?_
                refine Wl.val rfl (V.move rfl) ?_
                refine Wl.bool 91 rfl (fun hb91 => ?_) (fun hb91 => ?_)
                · -- t91 is True
                  try replace hb91 := of_decide_eq_true hb91
                  refine Wl.gF rfl rfl rfl ?_
                  refine Wl.gF rfl rfl rfl ?_
                  refine Wl.gF rfl rfl rfl ?_
                  refine Wl.gF rfl rfl rfl ?_
                  refine Wl.gF rfl rfl rfl ?_
                  refine Wl.val rfl (V.pickT rfl rfl) ?_
                  refine Wl.nil ?_
                  refine Wx.then_n ?_
                  refine Wc.condT rfl ?_
                  refine Wc.seq ?_
                  refine Wc.region ?_
                  refine Wl.val rfl (V.assign rfl) ?_
                  refine Wl.val rfl (V.assign rfl) ?_
                  refine Wl.val rfl (V.assign rfl) ?_
                  refine Wl.nil ?_
                  refine Wx.then_n ?_
                  refine Wc.ret ?_
                  repeat (first | refine Wx.then_r ?_ | refine Wx.blk_r ?_ | refine Wx.ng_r ?_)
                  refine Wx.ret3 rfl rfl rfl rfl rfl ?_
                  refine Ent.resC ?_
                  rw [readCell_bad (by omega) hd (by clear hL hn; simp only [cellBad, goodSum, *, decide_true, decide_false, not_true, not_false_iff, Bool.true_or, Bool.or_true, Bool.false_or, Bool.or_false, Bool.or_self])]
                · -- t91 is False
                  try replace hb91 := of_decide_eq_false hb91
                  refine Wl.gT rfl rfl ?_
                  refine Wl.val rfl (V.fld _ rfl O_api_Rec_1 rfl) ?_
                  refine Wl.gT rfl rfl ?_
                  refine Wl.val rfl (V.ld rfl C_Sint64 rfl) ?_
                  refine Wl.gT rfl rfl ?_
                  refine Wl.val rfl (V.idxW rfl rfl U_Sint64 Z_int64 hvn (by decide) (len1 (by assumption))) ?_
                  refine Wl.gT rfl rfl ?_
                  refine Wl.val rfl (V.ldW rfl C_int64 hvn (nums0 (by assumption))) ?_
                  refine Wl.gT rfl rfl ?_
                  refine Wl.val rfl (V.gtr rfl rfl) ?_
                  refine Wl.val rfl (V.pickF rfl rfl) ?_
                  refine Wl.nil ?_
                  refine Wx.then_n ?_
                  refine Wc.cond rfl (fun hc2 => ?_) (fun hc2 => ?_)
                  · skip
                    try replace hc2 := of_decide_eq_true hc2
                    refine Wc.seq ?_
                    refine Wc.region ?_
                    refine Wl.val rfl (V.assign rfl) ?_
                    refine Wl.val rfl (V.assign rfl) ?_
                    refine Wl.val rfl (V.assign rfl) ?_
                    refine Wl.nil ?_
                    refine Wx.then_n ?_
                    refine Wc.ret ?_
                    repeat (first | refine Wx.then_r ?_ | refine Wx.blk_r ?_ | refine Wx.ng_r ?_)
                    refine Wx.ret3 rfl rfl rfl rfl rfl ?_
                    refine Ent.resC ?_
                    rw [readCell_bad (by omega) hd (by clear hL hn; simp only [cellBad, goodSum, *, decide_true, decide_false, not_true, not_false_iff, Bool.true_or, Bool.or_true, Bool.false_or, Bool.or_false, Bool.or_self])]
                  · skip
                    try replace hc2 := of_decide_eq_false hc2
                    refine Wc.skip ?_
                    refine Wx.then_n ?_
                    refine Wc.seq ?_
                    refine Wc.quiet mixed (by kernel_rfl) ?_
                    refine Wq.val rfl (V.fld _ rfl O_api_Rec_1 rfl) ?_
                    refine Wq.val rfl (V.ld rfl C_Sint64 rfl) ?_
                    refine Wq.val rfl (V.idxW rfl rfl U_Sint64 Z_int64 hvn (by decide) (len1 (by assumption))) ?_
                    refine Wq.val rfl (V.ldW rfl C_int64 hvn (nums0 (by assumption))) ?_
                    refine Wq.val rfl (V.fld _ rfl O_api_Rec_2 rfl) ?_
                    refine Wq.val rfl (V.ld rfl C_Sstring rfl) ?_
                    refine Wq.val rfl (V.idxW rfl rfl U_Sstring Z_string hvt (by decide) (len1 (by assumption))) ?_
                    refine Wq.val rfl (V.ldW rfl C_string hvt (texts0 (by assumption))) ?_
                    refine Wq.val rfl (V.assign rfl) ?_
                    refine Wq.val rfl (V.assign rfl) ?_
                    refine Wq.val rfl (V.assign rfl) ?_
                    refine Wq.nil ?_
                    refine Wx.then_n ?_
                    refine Wc.ret ?_
                    repeat (first | refine Wx.then_r ?_ | refine Wx.blk_r ?_ | refine Wx.ng_r ?_)
                    refine Wx.ret3 rfl rfl rfl rfl rfl ?_
                    refine Ent.resC ?_
                    rw [readCell_good (by omega) hd (by clear hL hn; simp only [cellBad, goodSum, *, decide_true, decide_false, not_true, not_false_iff, Bool.true_or, Bool.or_true, Bool.false_or, Bool.or_false, Bool.or_self])]
abbrev CellB (cp d : Nat) (C : CellM) : HP := row cp T_cell_Cell [ptr d, i64 C.a0, i64 C.a1, i64 C.now, i64 C.gen, str C.text]
theorem s_cell_Slot' (gen : Int) (s : List UInt8) (hg : I64 gen) : Ctr P f_cell_Slot [i64 gen, str s] emp (fun v => ex fun x => pu (v = x) * own T_uint8 1 x (slot gen s).length (bytesV (slot gen s))) := (s_cell_Slot gen s hg).mono fun v => Ent.ex v (Ent.pure rfl)
theorem s_cell_Cell_Get (cp d : Nat) (C : CellM) : Ctr P f_cell_Cell_Get [ptr cp] (CellB cp d C) (fun v => pu (v = str C.text) * CellB cp d C) := by
  refine Ctr.of_body (m := 7) fn_cell_Cell_Get rfl rfl rfl rfl rfl (fun F g => ?_)
  refine Wc.seq ?_
  refine Wc.region ?_
  refine Wl.val rfl (V.assign rfl) ?_
  refine Wl.nil ?_
  refine Wx.then_n ?_
  refine Wc.seq ?_
  refine Wc.region ?_
  refine Wl.val rfl (V.move rfl) ?_
  refine Wl.val rfl (V.nil rfl) ?_
  refine Wl.val rfl (V.fld _ rfl O_cell_Cell_4 rfl) ?_
  refine Wl.val rfl (V.ld rfl C_string rfl) ?_
  refine Wl.val rfl (V.assign rfl) ?_
  refine Wl.nil ?_
  refine Wx.then_n ?_
  refine Wc.ret ?_
  repeat (first | refine Wx.then_r ?_ | refine Wx.blk_r ?_ | refine Wx.ng_r ?_)
  refine Wx.ret1 rfl rfl rfl ?_
  first | exact Ent.resF rfl | exact Ent.resC rfl | exact Ent.refl _ | exact Ent.auto
theorem s_cell_Cell_Put (cp d : Nat) {D : DevM} {C : CellM} (hD : DevOk D) (hC : CellOk D C) (s : List UInt8) :
  Ctr P f_cell_Cell_Put [ptr cp, str s] (CellB cp d C * Dev d D) (fun v => pu (v = i64 (cellPut D C s).2.2) * (CellB cp d (cellPut D C s).2.1 * Dev d (cellPut D C s).1)) := by
  have hg := hC.gen
  refine Ctr.of_body (m := 68) fn_cell_Cell_Put rfl rfl rfl rfl rfl (fun F g => ?_)
  refine Wc.assoc ?_
  refine Wc.seq ?_
  refine Wc.region ?_
  refine Wl.val rfl (V.assign rfl) ?_
  refine Wl.nil ?_
  refine Wx.then_n ?_
  refine Wc.seq ?_
  refine Wc.block ?_
  refine Wc.seq ?_
  refine Wc.region ?_
  refine Wl.val rfl (V.move rfl) ?_
  refine Wl.val rfl (V.lenT rfl U_string) ?_
  refine Wl.val rfl (V.gtr rfl rfl) ?_
  refine Wl.val rfl (V.assign rfl) ?_
  refine Wl.nil ?_
  refine Wx.then_n ?_
  refine Wc.cond rfl (fun hc1 => ?_) (fun hc1 => ?_)
  · skip
    try replace hc1 := of_decide_eq_true hc1
    refine Wc.seq ?_
    refine Wc.region ?_
    refine Wl.val rfl (V.assign rfl) ?_
    refine Wl.nil ?_
    refine Wx.then_n ?_
    refine Wc.ret ?_
    repeat (first | refine Wx.then_r ?_ | refine Wx.blk_r ?_ | refine Wx.ng_r ?_)
    refine Wx.ret1 rfl rfl rfl ?_
    rw [cellPut_long (by omega)]; exact Ent.resC rfl
  · skip
    try replace hc1 := of_decide_eq_false hc1
    refine Wc.seq ?_
    refine Wc.region ?_
    refine Wl.val rfl (V.move rfl) ?_
    refine Wl.val rfl (V.nil rfl) ?_
    refine Wl.val rfl (V.fld _ rfl O_cell_Cell_3 rfl) ?_
    refine Wl.val rfl (V.ld rfl C_int64 rfl) ?_
    refine Wl.val rfl (V.eql rfl rfl) ?_
    refine Wl.val rfl (V.assign rfl) ?_
    refine Wl.nil ?_
    refine Wx.then_n ?_
    refine Wc.cond rfl (fun hc2 => ?_) (fun hc2 => ?_)
    · skip
      try replace hc2 := of_decide_eq_true hc2
      refine Wc.seq ?_
      refine Wc.region ?_
      refine Wl.val rfl (V.assign rfl) ?_
      refine Wl.nil ?_
      refine Wx.then_n ?_
      refine Wc.ret ?_
      repeat (first | refine Wx.then_r ?_ | refine Wx.blk_r ?_ | refine Wx.ng_r ?_)
      refine Wx.ret1 rfl rfl rfl ?_
      rw [cellPut_full (by omega) hc2]; exact Ent.resC rfl
    · skip
      try replace hc2 := of_decide_eq_false hc2
      refine Wc.skip ?_
      refine Wx.blk_n ?_
      refine Wx.then_n ?_
      refine Wc.seq ?_
      refine Wc.region ?_
      refine Wl.val rfl (V.assign rfl) ?_
      refine Wl.nil ?_
      refine Wx.then_n ?_
      refine Wc.cut (CellB cp d C * (Dev d D * F)) ([(0, ptr cp), (1, str s), (5, i64 (cellOther C))]) ?_ ?_
      · skip
        refine Wc.seq ?_
        refine Wc.region ?_
        refine Wl.val rfl (V.move rfl) ?_
        refine Wl.val rfl (V.nil rfl) ?_
        refine Wl.val rfl (V.fld _ rfl O_cell_Cell_2 rfl) ?_
        refine Wl.val rfl (V.ld rfl C_int rfl) ?_
        refine Wl.val rfl (V.eql rfl rfl) ?_
        refine Wl.nil ?_
        refine Wx.then_n ?_
        refine Wc.cond rfl (fun hc3 => ?_) (fun hc3 => ?_)
        · skip
          try replace hc3 := of_decide_eq_true hc3
          refine Wc.region ?_
          refine Wl.val rfl (V.assign rfl) ?_
          refine Wl.nil ?_
          exact Wx.cutn Ent.auto ⟨rfl, rfl, by unfold cellOther; rw [if_pos (by assumption)]; rfl, trivial⟩
        · skip
          try replace hc3 := of_decide_eq_false hc3
          refine Wc.skip ?_
          exact Wx.cutn Ent.auto ⟨rfl, rfl, by unfold cellOther; rw [if_neg (by assumption)]; rfl, trivial⟩
      · skip
        refine Wc.seq ?_
        refine Wc.seq ?_
        refine Wc.draws 17 mixed (by kernel_rfl) (S := _) (M := emp) (Ent.empR _) ?_
        refine Wr.take [0, 1, 2, 3, 4, 5, 6, 7, 8, 9, 10, 11, 12, 13, 14, 15] 1 (by kernel_rfl) (by kernel_rfl) rfl rfl ?_
        refine Wt.val rfl (V.move rfl) ?_
        refine Wt.val rfl (V.nil rfl) ?_
        refine Wt.val rfl (V.fld _ rfl O_cell_Cell_0 rfl) ?_
        refine Wt.val rfl (V.ld rfl C_Psector_Dev rfl) ?_
        refine Wt.val rfl (V.move rfl) ?_
        refine Wt.val rfl (V.move rfl) ?_
        refine Wt.val rfl (V.nil rfl) ?_
        refine Wt.val rfl (V.fld _ rfl O_cell_Cell_1 rfl) ?_
        refine Wt.val rfl (V.idxA rfl rfl U_A2int Z_int (cellOther_01 C).1 (cellOther_01 C).2 rfl) ?_
        refine Wt.val rfl (V.ld (v := i64 (cellSec C)) rfl C_int (by unfold cellOther cellSec; split <;> rfl)) ?_
        refine Wt.val rfl (V.move rfl) ?_
        refine Wt.val rfl (V.nil rfl) ?_
        refine Wt.val rfl (V.fld _ rfl O_cell_Cell_3 rfl) ?_
        refine Wt.val rfl (V.ld rfl C_int64 rfl) ?_
        refine Wt.val rfl (V.addk rfl rfl (wr64 (by omega) (by omega))) ?_
        refine Wt.val rfl (V.move rfl) ?_
        refine Wt.nil ?_
        refine Wr.any [16] 0 (by kernel_rfl) rfl rfl ?_
        refine Wm.callM rfl rfl rfl rfl (s_cell_Slot' (C.gen + 1) s ⟨by omega, by omega⟩) (Take.none _) (fun x39 => ?_) ?_
        · skip
          refine Wr.tail (by kernel_rfl) rfl ?_
          refine Wl.ent (H' := own T_uint8 1 x39 (slot (C.gen + 1) s).length (bytesV (slot (C.gen + 1) s)) * (CellB cp d C * (Dev d D * F))) Ent.auto ?_
          refine Wl.know (fun g w s => Vw.of_own T_uint8 1 _ _ _ g w (s.ent (Ent.left _ _))) (fun hv => ?_)
          first | refine Wl.callE rfl rfl (s_sector_Dev_Write d hD (cellSec C) hv) ?_ | refine Wl.callD rfl rfl (s_sector_Dev_Write d hD (cellSec C) hv) (Take.two (Take.there (Take.there Take.here)) Take.here) ?_
          refine Wl.ent (H' := CellB cp d C * (Dev d (devWrite D (cellSec C) (slot (C.gen + 1) s)).1 * F)) Ent.auto ?_
          refine Wl.val rfl (V.assign rfl) ?_
          refine Wl.nil ?_
          refine Wx.then_n ?_
          refine Wc.seq ?_
          refine Wc.region ?_
          refine Wl.val rfl (V.move rfl) ?_
          refine Wl.val rfl (V.neq rfl rfl) ?_
          refine Wl.nil ?_
          refine Wx.then_n ?_
          refine Wc.cond rfl (fun hc4 => ?_) (fun hc4 => ?_)
          · skip
            try replace hc4 := of_decide_eq_true hc4
            refine Wc.seq ?_
            refine Wc.region ?_
            refine Wl.val rfl (V.move rfl) ?_
            refine Wl.val rfl (V.assign rfl) ?_
            refine Wl.nil ?_
            refine Wx.then_n ?_
            refine Wc.ret ?_
            repeat (first | refine Wx.then_r ?_ | refine Wx.blk_r ?_ | refine Wx.ng_r ?_)
            refine Wx.ret1 rfl rfl rfl ?_
            rw [cellPut_w (by omega) (by assumption) (by simpa using hc4)]; exact Ent.resC rfl
          · skip
            try replace hc4 := of_decide_eq_false hc4
            refine Wc.skip ?_
            refine Wx.then_n ?_
            refine Wc.seq ?_
            refine Wc.seq ?_
            refine Wc.region ?_
            refine Wl.val rfl (V.move rfl) ?_
            refine Wl.val rfl (V.nil rfl) ?_
            refine Wl.val rfl (V.fld _ rfl O_cell_Cell_0 rfl) ?_
            refine Wl.val rfl (V.ld rfl C_Psector_Dev rfl) ?_
            first | refine Wl.callE rfl rfl (s_sector_Dev_Barrier d (hD.write _ _)) ?_ | refine Wl.callD rfl rfl (s_sector_Dev_Barrier d (hD.write _ _)) (by first | exact Take.here | exact Take.there Take.here | exact Take.there (Take.there Take.here) | exact Take.there (Take.there (Take.there Take.here)) | exact Take.none _ | exact TakeC.t | exact Take.there (Take.there (Take.there (Take.there Take.here))) | exact Take.there (Take.there (Take.there (Take.there (Take.there Take.here)))) | exact Take.there (Take.there (Take.there (Take.there (Take.there (Take.there Take.here)))))) ?_
            refine Wl.ent (H' := CellB cp d C * (Dev d (devBarrier (devWrite D (cellSec C) (slot (C.gen + 1) s)).1).1 * F)) Ent.auto ?_
            refine Wl.val rfl (V.assign rfl) ?_
            refine Wl.nil ?_
            refine Wx.then_n ?_
            refine Wc.seq ?_
            refine Wc.region ?_
            refine Wl.val rfl (V.move rfl) ?_
            refine Wl.val rfl (V.neq rfl rfl) ?_
            refine Wl.nil ?_
            refine Wx.then_n ?_
            refine Wc.cond rfl (fun hc5 => ?_) (fun hc5 => ?_)
            · skip
              try replace hc5 := of_decide_eq_true hc5
              refine Wc.seq ?_
              refine Wc.region ?_
              refine Wl.val rfl (V.move rfl) ?_
              refine Wl.val rfl (V.assign rfl) ?_
              refine Wl.nil ?_
              refine Wx.then_n ?_
              refine Wc.ret ?_
              repeat (first | refine Wx.then_r ?_ | refine Wx.blk_r ?_ | refine Wx.ng_r ?_)
              refine Wx.ret1 rfl rfl rfl ?_
              rw [cellPut_b (by omega) (by assumption) (by simpa using hc4) (by simpa using hc5)]; exact Ent.resC rfl
            · skip
              try replace hc5 := of_decide_eq_false hc5
              refine Wc.skip ?_
              refine Wx.then_n ?_
              refine Wc.seq ?_
              refine Wc.region ?_
              refine Wl.val rfl (V.move rfl) ?_
              refine Wl.val rfl (V.move rfl) ?_
              refine Wl.val rfl (V.move rfl) ?_
              refine Wl.val rfl (V.move rfl) ?_
              refine Wl.val rfl (V.move rfl) ?_
              refine Wl.val rfl (V.nil rfl) ?_
              refine Wl.val rfl (V.fld _ rfl O_cell_Cell_3 rfl) ?_
              refine Wl.val rfl (V.ld rfl C_int64 rfl) ?_
              refine Wl.val rfl (V.addk rfl rfl (wr64 (by omega) (by omega))) ?_
              refine Wl.val rfl (V.move rfl) ?_
              refine Wl.val rfl (V.nil rfl) ?_
              refine Wl.val rfl (V.fld _ rfl O_cell_Cell_2 rfl) ?_
              refine Wl.st (Go.Sl.S.put rfl rfl C_int rfl rfl) ?_
              refine Wl.val rfl (V.nil rfl) ?_
              refine Wl.val rfl (V.fld _ rfl O_cell_Cell_3 rfl) ?_
              refine Wl.st (Go.Sl.S.put rfl rfl C_int64 rfl rfl) ?_
              refine Wl.val rfl (V.nil rfl) ?_
              refine Wl.val rfl (V.fld _ rfl O_cell_Cell_4 rfl) ?_
              refine Wl.st (Go.Sl.S.put rfl rfl C_string rfl rfl) ?_
              refine Wl.nil ?_
              refine Wx.then_n ?_
              refine Wc.seq ?_
              refine Wc.region ?_
              refine Wl.val rfl (V.assign rfl) ?_
              refine Wl.nil ?_
              refine Wx.then_n ?_
              refine Wc.ret ?_
              repeat (first | refine Wx.then_r ?_ | refine Wx.blk_r ?_ | refine Wx.ng_r ?_)
              refine Wx.ret1 rfl rfl rfl ?_
              rw [cellPut_ok (by omega) (by assumption) (by simpa using hc4) (by simpa using hc5)]; exact Ent.resC rfl
        exact Wm.nil
end Go.Proofs.YtjfacgmobpbhcaaGreat
/- The walks: a cell is opened. -/
namespace Go.Proofs.YtjfacgmobpbhcaaGreat
open Go.Sl Sei
theorem s_cell_Open (d : Nat) {D : DevM} (hD : DevOk D) (a b : Nat) (hab : a ≠ b) (ha : a < D.l.length) (hb : b < D.l.length) (hal : D.dead = false) :
  Ctr P f_cell_Open [ptr d, i64 (a : Nat), i64 (b : Nat)] (Dev d D) (fun v => ex fun cp => pu (v = .tuple #[ptr cp, i64 0]) * (CellB cp d (cellOpen D a b) * Dev d D)) := by
  have hn := hD.n
  refine Ctr.of_body (m := 90) fn_cell_Open rfl rfl rfl rfl rfl (fun F g => ?_)
  refine Wc.seq ?_
  refine Wc.region ?_
  refine Wl.val rfl (V.assign rfl) ?_
  refine Wl.val rfl (V.assign rfl) ?_
  refine Wl.nil ?_
  refine Wx.then_n ?_
  refine Wc.seq ?_
  refine Wc.block ?_
  refine Wc.seq ?_
  refine Wc.region ?_
  refine Wl.val rfl (V.move rfl) ?_
  refine Wl.val rfl (V.eqPtrNil rfl U_Psector_Dev) ?_
  refine Wl.val rfl (V.move rfl) ?_
  refine Wl.bool 19 rfl (fun hb19 => ?_) (fun hb19 => ?_)
  · -- t19 is True
    try replace hb19 := of_decide_eq_true hb19
    refine Wl.gF rfl rfl rfl ?_
    refine Wl.gF rfl rfl rfl ?_
    refine Wl.gF rfl rfl rfl ?_
    refine Wl.val rfl (V.pickT rfl rfl) ?_
    refine Wl.val rfl (V.move rfl) ?_
    refine Wl.gF rfl rfl rfl ?_
    refine Wl.gF rfl rfl rfl ?_
    refine Wl.gF rfl rfl rfl ?_
    refine Wl.gF rfl rfl rfl ?_
    refine Wl.val rfl (V.pickT rfl rfl) ?_
    refine Wl.val rfl (V.move rfl) ?_
    refine Wl.gF rfl rfl rfl ?_
    refine Wl.gF rfl rfl rfl ?_
    refine Wl.gF rfl rfl rfl ?_
    refine Wl.gF rfl rfl rfl ?_
    refine Wl.gF rfl rfl rfl ?_
    refine Wl.gF rfl rfl rfl ?_
    refine Wl.val rfl (V.pickT rfl rfl) ?_
    refine Wl.val rfl (V.assign rfl) ?_
    refine Wl.nil ?_
    refine Wx.then_n ?_
    refine Wc.condT rfl ?_
    refine Wc.seq ?_
    refine Wc.region ?_
    refine Wl.val rfl (V.assign rfl) ?_
    refine Wl.val rfl (V.assign rfl) ?_
    refine Wl.nil ?_
    refine Wx.then_n ?_
    refine Wc.ret ?_
    repeat (first | refine Wx.then_r ?_ | refine Wx.blk_r ?_ | refine Wx.ng_r ?_)
    refine Wx.ret2 rfl rfl rfl rfl ?_
    exfalso; simp at *
  · -- t19 is False
    try replace hb19 := of_decide_eq_false hb19
    refine Wl.gT rfl rfl ?_
    refine Wl.val rfl (V.move rfl) ?_
    refine Wl.gT rfl rfl ?_
    refine Wl.val rfl (V.move rfl) ?_
    refine Wl.gT rfl rfl ?_
    refine Wl.val rfl (V.eql rfl rfl) ?_
    refine Wl.val rfl (V.pickF rfl rfl) ?_
    refine Wl.val rfl (V.move rfl) ?_
    refine Wl.bool 24 rfl (fun hb24 => ?_) (fun hb24 => ?_)
    · -- t24 is True
      try replace hb24 := of_decide_eq_true hb24
      refine Wl.gF rfl rfl rfl ?_
      refine Wl.gF rfl rfl rfl ?_
      refine Wl.gF rfl rfl rfl ?_
      refine Wl.gF rfl rfl rfl ?_
      refine Wl.val rfl (V.pickT rfl rfl) ?_
      refine Wl.val rfl (V.move rfl) ?_
      refine Wl.gF rfl rfl rfl ?_
      refine Wl.gF rfl rfl rfl ?_
      refine Wl.gF rfl rfl rfl ?_
      refine Wl.gF rfl rfl rfl ?_
      refine Wl.gF rfl rfl rfl ?_
      refine Wl.gF rfl rfl rfl ?_
      refine Wl.val rfl (V.pickT rfl rfl) ?_
      refine Wl.val rfl (V.assign rfl) ?_
      refine Wl.nil ?_
      refine Wx.then_n ?_
      refine Wc.condT rfl ?_
      refine Wc.seq ?_
      refine Wc.region ?_
      refine Wl.val rfl (V.assign rfl) ?_
      refine Wl.val rfl (V.assign rfl) ?_
      refine Wl.nil ?_
      refine Wx.then_n ?_
      refine Wc.ret ?_
      repeat (first | refine Wx.then_r ?_ | refine Wx.blk_r ?_ | refine Wx.ng_r ?_)
      refine Wx.ret2 rfl rfl rfl rfl ?_
      exfalso; omega
    · -- t24 is False
      try replace hb24 := of_decide_eq_false hb24
      refine Wl.gT rfl rfl ?_
      refine Wl.val rfl (V.move rfl) ?_
      refine Wl.gT rfl rfl ?_
      refine Wl.val rfl (V.move rfl) ?_
      refine Wl.gT rfl rfl ?_
      refine Wl.val rfl (V.mn rfl rfl) ?_
      refine Wl.gT rfl rfl ?_
      refine Wl.val rfl (V.lss rfl rfl) ?_
      refine Wl.val rfl (V.pickF rfl rfl) ?_
      refine Wl.val rfl (V.move rfl) ?_
      refine Wl.bool 30 rfl (fun hb30 => ?_) (fun hb30 => ?_)
      · -- t30 is True
        try replace hb30 := of_decide_eq_true hb30
        refine Wl.gF rfl rfl rfl ?_
        refine Wl.gF rfl rfl rfl ?_
        refine Wl.gF rfl rfl rfl ?_
        refine Wl.gF rfl rfl rfl ?_
        refine Wl.gF rfl rfl rfl ?_
        refine Wl.gF rfl rfl rfl ?_
        refine Wl.val rfl (V.pickT rfl rfl) ?_
        refine Wl.val rfl (V.assign rfl) ?_
        refine Wl.nil ?_
        refine Wx.then_n ?_
        refine Wc.condT rfl ?_
        refine Wc.seq ?_
        refine Wc.region ?_
        refine Wl.val rfl (V.assign rfl) ?_
        refine Wl.val rfl (V.assign rfl) ?_
        refine Wl.nil ?_
        refine Wx.then_n ?_
        refine Wc.ret ?_
        repeat (first | refine Wx.then_r ?_ | refine Wx.blk_r ?_ | refine Wx.ng_r ?_)
        refine Wx.ret2 rfl rfl rfl rfl ?_
        exfalso; omega
      · -- t30 is False
        try replace hb30 := of_decide_eq_false hb30
        refine Wl.gT rfl rfl ?_
        refine Wl.val rfl (V.move rfl) ?_
        refine Wl.gT rfl rfl ?_
        refine Wl.val rfl (V.move rfl) ?_
        refine Wl.gT rfl rfl ?_
        refine Wl.val rfl (V.mx rfl rfl) ?_
        refine Wl.gT rfl rfl ?_
        refine Wl.val rfl (V.move rfl) ?_
        refine Wl.gT rfl rfl ?_
        first | refine Wl.callE rfl rfl (s_sector_Dev_Sectors d D) ?_ | refine Wl.callD rfl rfl (s_sector_Dev_Sectors d D) (by first | exact Take.here | exact Take.there Take.here | exact Take.there (Take.there Take.here) | exact Take.there (Take.there (Take.there Take.here)) | exact Take.none _ | exact TakeC.t | exact Take.there (Take.there (Take.there (Take.there Take.here))) | exact Take.there (Take.there (Take.there (Take.there (Take.there Take.here)))) | exact Take.there (Take.there (Take.there (Take.there (Take.there (Take.there Take.here)))))) ?_
        refine Wl.gT rfl rfl ?_
        refine Wl.val rfl (V.geq rfl rfl) ?_
        refine Wl.val rfl (V.pickF rfl rfl) ?_
        refine Wl.val rfl (V.assign rfl) ?_
        refine Wl.nil ?_
        refine Wx.then_n ?_
        refine Wc.cond rfl (fun hc1 => ?_) (fun hc1 => ?_)
        · skip
          try replace hc1 := of_decide_eq_true hc1
          refine Wc.seq ?_
          refine Wc.region ?_
          refine Wl.val rfl (V.assign rfl) ?_
          refine Wl.val rfl (V.assign rfl) ?_
          refine Wl.nil ?_
          refine Wx.then_n ?_
          refine Wc.ret ?_
          repeat (first | refine Wx.then_r ?_ | refine Wx.blk_r ?_ | refine Wx.ng_r ?_)
          refine Wx.ret2 rfl rfl rfl rfl ?_
          exfalso; omega
        · skip
          try replace hc1 := of_decide_eq_false hc1
          refine Wc.seq ?_
          refine Wc.region ?_
          refine Wl.val rfl (V.move rfl) ?_
          first | refine Wl.callE rfl rfl (s_sector_Dev_Dead d D) ?_ | refine Wl.callD rfl rfl (s_sector_Dev_Dead d D) (by first | exact Take.here | exact Take.there Take.here | exact Take.there (Take.there Take.here) | exact Take.there (Take.there (Take.there Take.here)) | exact Take.none _ | exact TakeC.t | exact Take.there (Take.there (Take.there (Take.there Take.here))) | exact Take.there (Take.there (Take.there (Take.there (Take.there Take.here)))) | exact Take.there (Take.there (Take.there (Take.there (Take.there (Take.there Take.here)))))) ?_
          refine Wl.val rfl (V.assign rfl) ?_
          refine Wl.nil ?_
          refine Wx.then_n ?_
          refine Wc.cond rfl (fun hc2 => ?_) (fun hc2 => ?_)
          · skip
            try replace hc2 := of_decide_eq_true hc2
            refine Wc.seq ?_
            refine Wc.region ?_
            refine Wl.val rfl (V.assign rfl) ?_
            refine Wl.val rfl (V.assign rfl) ?_
            refine Wl.nil ?_
            refine Wx.then_n ?_
            refine Wc.ret ?_
            repeat (first | refine Wx.then_r ?_ | refine Wx.blk_r ?_ | refine Wx.ng_r ?_)
            refine Wx.ret2 rfl rfl rfl rfl ?_
            exfalso; simp [hal] at *
          · skip
            try replace hc2 := of_decide_eq_false hc2
            refine Wc.skip ?_
            refine Wx.blk_n ?_
            refine Wx.then_n ?_
            refine Wc.seq ?_
            refine Wc.region ?_
            refine Wl.val rfl (V.move rfl) ?_
            refine Wl.val rfl (V.move rfl) ?_
            refine Wl.val rfl (V.move rfl) ?_
            refine Wl.val rfl (V.buildA U_A2int Z_int N_A2int rfl rfl) ?_
            refine Wl.val rfl (V.build B_cell_Cell rfl rfl) ?_
            refine Wl.al rfl (M.box rfl rfl) (fun r46 => ?_)
            refine Wl.val rfl (V.assign rfl) ?_
            refine Wl.nil ?_
            refine Wx.then_n ?_
            refine Wc.seq ?_
            refine Wc.seq ?_
            refine Wc.region ?_
            refine Wl.val rfl (V.move rfl) ?_
            refine Wl.val rfl (V.nil rfl) ?_
            refine Wl.val rfl (V.fld _ rfl O_cell_Cell_1 rfl) ?_
            refine Wl.val rfl (V.ldA rfl C_A2int rfl) ?_
            refine Wl.val rfl (V.move rfl) ?_
            refine Wl.nil ?_
            refine Wx.then_n ?_
            refine Wc.block ?_
            refine Wc.loop (α := Nat) (fun x => 2 - x) (fun x => pu (x ≤ 2) * (CellB r46 d (cellN D a b x) * (Dev d D * F))) (fun x => [(51, i64 (x : Nat)), (50, .agg #[i64 (a : Nat), i64 (b : Nat)]), (8, ptr r46), (0, ptr d)]) 0 (by exact Ent.pure (Nat.zero_le _)) (by repeat (first | exact trivial | refine ⟨rfl, ?_⟩)) (fun x => ?_)
            refine Wc.pu (fun hx => ?_)
            refine Wc.seq ?_
            refine Wc.region ?_
            refine Wl.val rfl (V.lss rfl rfl) ?_
            refine Wl.nil ?_
            refine Wx.then_n ?_
            refine Wc.seq ?_
            refine Wc.cond rfl (fun hc3 => ?_) (fun hc3 => ?_)
            · skip
              try replace hc3 := of_decide_eq_true hc3
              obtain ⟨sec, hsec, hlt⟩ : ∃ sec : Nat, (if x = 0 then (a : Int) else b) = (sec : Int) ∧ sec < D.l.length := by split <;> exact ⟨_, rfl, by assumption⟩
              refine Wc.skip ?_
              refine Wx.then_n ?_
              refine Wc.seq ?_
              refine Wc.block ?_
              refine Wc.seq ?_
              refine Wc.region ?_
              refine Wl.val rfl (V.move rfl) ?_
              refine Wl.val rfl (V.idxAgg (v := i64 (sec : Nat)) rfl rfl U_A2int C_int (by omega) (by omega) (idx2 (by omega) hsec)) ?_
              refine Wl.val rfl (V.assign rfl) ?_
              refine Wl.val rfl (V.assign rfl) ?_
              refine Wl.nil ?_
              refine Wx.then_n ?_
              refine Wc.seq ?_
              refine Wc.region ?_
              refine Wl.val rfl (V.move rfl) ?_
              refine Wl.val rfl (V.move rfl) ?_
              refine Wl.call rfl rfl (s_sector_Dev_Read d hD (sec : Nat)) (by first | exact Take.here | exact Take.there Take.here | exact Take.there (Take.there Take.here) | exact Take.there (Take.there (Take.there Take.here)) | exact Take.none _ | exact TakeC.t | exact Take.there (Take.there (Take.there (Take.there Take.here))) | exact Take.there (Take.there (Take.there (Take.there (Take.there Take.here)))) | exact Take.there (Take.there (Take.there (Take.there (Take.there (Take.there Take.here)))))) (fun v58 => ?_)
              refine Wl.exm (fun bv => ?_)
              refine Wl.pull (fun hq => ?_)
              subst hq
              have hh := devHas_ok hal hlt
              rw [devRead_ok hh]
              dsimp only
              have hlen : (devSec D sec).length = 144 := by obtain ⟨_, _, _, h, _⟩ := devSec_at hD hh; exact h
              refine Wl.ent (H' := own T_uint8 1 bv (devSec D sec).length (bytesV (devSec D sec)) * (CellB r46 d (cellN D a b x) * (Dev d D * F))) Ent.auto ?_
              refine Wl.know (fun g w s => Vw.of_own T_uint8 1 bv _ _ g w (s.ent (Ent.left _ _))) (fun hv => ?_)
              refine Wl.val rfl (V.move rfl) ?_
              refine Wl.val rfl (V.ext rfl rfl) ?_
              refine Wl.val rfl (V.ext rfl rfl) ?_
              refine Wl.val rfl (V.assign rfl) ?_
              refine Wl.val rfl (V.assign rfl) ?_
              refine Wl.nil ?_
              refine Wx.then_n ?_
              refine Wc.seq ?_
              refine Wc.region ?_
              refine Wl.val rfl (V.move rfl) ?_
              first | refine Wl.callE rfl rfl (s_cell_read hv (by omega)) ?_ | refine Wl.callD rfl rfl (s_cell_read hv (by omega)) (by first | exact Take.here | exact Take.there Take.here | exact Take.there (Take.there Take.here) | exact Take.there (Take.there (Take.there Take.here)) | exact Take.none _ | exact TakeC.t | exact Take.there (Take.there (Take.there (Take.there Take.here))) | exact Take.there (Take.there (Take.there (Take.there (Take.there Take.here)))) | exact Take.there (Take.there (Take.there (Take.there (Take.there (Take.there Take.here)))))) ?_
              refine Wl.val rfl (V.move rfl) ?_
              refine Wl.val rfl (V.ext rfl rfl) ?_
              refine Wl.val rfl (V.ext rfl rfl) ?_
              refine Wl.val rfl (V.ext rfl rfl) ?_
              refine Wl.val rfl (V.assign rfl) ?_
              refine Wl.val rfl (V.assign rfl) ?_
              refine Wl.val rfl (V.assign rfl) ?_
              refine Wl.nil ?_
              refine Wx.then_n ?_
              refine Wc.seq ?_
              refine Wc.region ?_
              refine Wl.val rfl (V.move rfl) ?_
              refine Wl.val rfl (V.move rfl) ?_
              refine Wl.bool 68 rfl (fun hb68 => ?_) (fun hb68 => ?_)
              · -- t68 is True
                try replace hb68 := of_decide_eq_true hb68
                refine Wl.gT rfl rfl ?_
                refine Wl.val rfl (V.move rfl) ?_
                refine Wl.gT rfl rfl ?_
                refine Wl.val rfl (V.move rfl) ?_
                refine Wl.gT rfl rfl ?_
                refine Wl.val rfl (V.nil rfl) ?_
                refine Wl.gT rfl rfl ?_
                refine Wl.val rfl (V.fld _ rfl O_cell_Cell_3 rfl) ?_
                refine Wl.gT rfl rfl ?_
                refine Wl.val rfl (V.ld rfl C_int64 rfl) ?_
                refine Wl.gT rfl rfl ?_
                refine Wl.val rfl (V.gtr rfl rfl) ?_
                refine Wl.val rfl (V.pickT rfl rfl) ?_
                refine Wl.nil ?_
                refine Wx.then_n ?_
                refine Wc.cond rfl (fun hc4 => ?_) (fun hc4 => ?_)
                · skip
                  try replace hc4 := of_decide_eq_true hc4
                  refine Wc.region ?_
                  refine Wl.val rfl (V.move rfl) ?_
                  refine Wl.val rfl (V.move rfl) ?_
                  refine Wl.val rfl (V.move rfl) ?_
                  refine Wl.val rfl (V.move rfl) ?_
                  refine Wl.val rfl (V.move rfl) ?_
                  refine Wl.val rfl (V.move rfl) ?_
                  refine Wl.val rfl (V.nil rfl) ?_
                  refine Wl.val rfl (V.fld _ rfl O_cell_Cell_2 rfl) ?_
                  refine Wl.st (Go.Sl.S.put rfl rfl C_int rfl rfl) ?_
                  refine Wl.val rfl (V.nil rfl) ?_
                  refine Wl.val rfl (V.fld _ rfl O_cell_Cell_3 rfl) ?_
                  refine Wl.st (Go.Sl.S.put rfl rfl C_int64 rfl rfl) ?_
                  refine Wl.val rfl (V.nil rfl) ?_
                  refine Wl.val rfl (V.fld _ rfl O_cell_Cell_4 rfl) ?_
                  refine Wl.st (Go.Sl.S.put rfl rfl C_string rfl rfl) ?_
                  refine Wl.nil ?_
                  refine Wx.blk_n ?_
                  refine Wx.then_n ?_
                  refine Wc.region ?_
                  refine Wl.val rfl (V.addk rfl rfl (wr64 (by omega) (by omega))) ?_
                  refine Wl.val rfl (V.move rfl) ?_
                  refine Wl.nil ?_
                  have e : cellN D a b (x + 1) = { cellN D a b x with now := x, gen := (readCell (devSec D sec)).1, text := (readCell (devSec D sec)).2.1 } := by rw [cellN, hsec, cellStep, if_pos ⟨hb68, hc4⟩]
                  refine Wx.again (x + 1) (by exact (by show 2 - (x + 1) < 2 - x; omega)) (by exact (by show Ent _ (pu (x + 1 ≤ 2) * (CellB r46 d (cellN D a b (x + 1)) * (Dev d D * F))); rw [e]; exact Ent.puC (by omega))) (by repeat (first | exact trivial | refine ⟨rfl, ?_⟩))
                · skip
                  try replace hc4 := of_decide_eq_false hc4
                  refine Wc.skip ?_
                  refine Wx.blk_n ?_
                  refine Wx.then_n ?_
                  refine Wc.region ?_
                  refine Wl.val rfl (V.addk rfl rfl (wr64 (by omega) (by omega))) ?_
                  refine Wl.val rfl (V.move rfl) ?_
                  refine Wl.nil ?_
                  have e : cellN D a b (x + 1) = cellN D a b x := by rw [cellN, hsec, cellStep, if_neg (by simp [*])]
                  refine Wx.again (x + 1) (by exact (by show 2 - (x + 1) < 2 - x; omega)) (by exact (by show Ent _ (pu (x + 1 ≤ 2) * (CellB r46 d (cellN D a b (x + 1)) * (Dev d D * F))); rw [e]; exact Ent.puC (by omega))) (by repeat (first | exact trivial | refine ⟨rfl, ?_⟩))
              · -- t68 is False
                try replace hb68 := of_decide_eq_false hb68
                refine Wl.gF rfl rfl rfl ?_
                refine Wl.gF rfl rfl rfl ?_
                refine Wl.gF rfl rfl rfl ?_
                refine Wl.gF rfl rfl rfl ?_
                refine Wl.gF rfl rfl rfl ?_
                refine Wl.gF rfl rfl rfl ?_
                refine Wl.val rfl (V.pickF rfl rfl) ?_
                refine Wl.nil ?_
                refine Wx.then_n ?_
                refine Wc.condF rfl ?_
                refine Wc.skip ?_
                refine Wx.blk_n ?_
                refine Wx.then_n ?_
                refine Wc.region ?_
                refine Wl.val rfl (V.addk rfl rfl (wr64 (by omega) (by omega))) ?_
                refine Wl.val rfl (V.move rfl) ?_
                refine Wl.nil ?_
                have e : cellN D a b (x + 1) = cellN D a b x := by rw [cellN, hsec, cellStep, if_neg (by simp [*])]
                refine Wx.again (x + 1) (by exact (by show 2 - (x + 1) < 2 - x; omega)) (by exact (by show Ent _ (pu (x + 1 ≤ 2) * (CellB r46 d (cellN D a b (x + 1)) * (Dev d D * F))); rw [e]; exact Ent.puC (by omega))) (by repeat (first | exact trivial | refine ⟨rfl, ?_⟩))
            · skip
              try replace hc3 := of_decide_eq_false hc3
              refine Wc.exit ?_
              refine Wx.then_x ?_
              refine Wx.then_x ?_
              refine Wx.blk_x ?_
              refine Wx.then_n ?_
              refine Wc.seq ?_
              refine Wc.region ?_
              refine Wl.val rfl (V.move rfl) ?_
              refine Wl.val rfl (V.assign rfl) ?_
              refine Wl.val rfl (V.assign rfl) ?_
              refine Wl.nil ?_
              refine Wx.then_n ?_
              refine Wc.ret ?_
              repeat (first | refine Wx.then_r ?_ | refine Wx.blk_r ?_ | refine Wx.ng_r ?_)
              refine Wx.ret2 rfl rfl rfl rfl ?_
              have hx2 : x = 2 := by omega
              subst hx2
              rw [ex_mul]; refine Ent.ex r46 ?_
              show Ent (CellB r46 d (cellOpen D a b) * (Dev d D * F)) _
              exact Ent.resC rfl
end Go.Proofs.YtjfacgmobpbhcaaGreat
/- The walks: logs. -/
namespace Go.Proofs.YtjfacgmobpbhcaaGreat
open Go.Sl Sei
abbrev LogB (lp d cp : Nat) (lv : Value) (L : LogM) : HP := row lp T_log_Log [ptr d, i64 L.first, i64 L.n, ptr cp, i64 L.head, i64 L.time, i64 L.least, lv] * (own T_log_item 2 lv L.items.length (itemsV L.items) * CellB cp d L.cell)
theorem s_log_within (n lo hi : Int) : Ctr P f_log_within [i64 n, i64 lo, i64 hi] emp (fun v => pu (v = .bool (withinB n lo hi)) * emp) := by
  refine Ctr.of_body (m := 15) fn_log_within rfl rfl rfl rfl rfl (fun F g => ?_)
  refine Wc.seq ?_
  refine Wc.region ?_
  refine Wl.val rfl (V.assign rfl) ?_
  refine Wl.nil ?_
  refine Wx.then_n ?_
  refine Wc.seq ?_
  refine Wc.region ?_
  refine Wl.val rfl (V.move rfl) ?_
  refine Wl.val rfl (V.move rfl) ?_
  refine Wl.val rfl (V.geq rfl rfl) ?_
  refine Wl.val rfl (V.move rfl) ?_
  refine Wl.bool 10 rfl (fun hb10 => ?_) (fun hb10 => ?_)
  · -- t10 is True
    try replace hb10 := of_decide_eq_true hb10
    refine Wl.gT rfl rfl ?_
    refine Wl.val rfl (V.move rfl) ?_
    refine Wl.gT rfl rfl ?_
    refine Wl.val rfl (V.move rfl) ?_
    refine Wl.gT rfl rfl ?_
    refine Wl.val rfl (V.leq rfl rfl) ?_
    refine Wl.val rfl (V.pickT rfl rfl) ?_
    refine Wl.val rfl (V.assign rfl) ?_
    refine Wl.nil ?_
    refine Wx.then_n ?_
    refine Wc.ret ?_
    repeat (first | refine Wx.then_r ?_ | refine Wx.blk_r ?_ | refine Wx.ng_r ?_)
    refine Wx.ret1 rfl rfl rfl ?_
    exact Ent.resC (by simp [withinB, *])
  · -- t10 is False
    try replace hb10 := of_decide_eq_false hb10
    refine Wl.gF rfl rfl rfl ?_
    refine Wl.gF rfl rfl rfl ?_
    refine Wl.gF rfl rfl rfl ?_
    refine Wl.val rfl (V.pickF rfl rfl) ?_
    refine Wl.val rfl (V.assign rfl) ?_
    refine Wl.nil ?_
    refine Wx.then_n ?_
    refine Wc.ret ?_
    repeat (first | refine Wx.then_r ?_ | refine Wx.blk_r ?_ | refine Wx.ng_r ?_)
    refine Wx.ret1 rfl rfl rfl ?_
    exact Ent.resC (by simp [withinB, *])
theorem s_log_Log_Head (lp d cp : Nat) (lv : Value) (L : LogM) : Ctr P f_log_Log_Head [ptr lp] (LogB lp d cp lv L) (fun v => pu (v = i64 L.head) * LogB lp d cp lv L) := by
  refine Ctr.of_body (m := 7) fn_log_Log_Head rfl rfl rfl rfl rfl (fun F g => ?_)
  refine Wc.seq ?_
  refine Wc.region ?_
  refine Wl.val rfl (V.assign rfl) ?_
  refine Wl.nil ?_
  refine Wx.then_n ?_
  refine Wc.seq ?_
  refine Wc.region ?_
  refine Wl.val rfl (V.move rfl) ?_
  refine Wl.val rfl (V.nil rfl) ?_
  refine Wl.val rfl (V.fld _ rfl O_log_Log_4 rfl) ?_
  refine Wl.val rfl (V.ld rfl C_int64 rfl) ?_
  refine Wl.val rfl (V.assign rfl) ?_
  refine Wl.nil ?_
  refine Wx.then_n ?_
  refine Wc.ret ?_
  repeat (first | refine Wx.then_r ?_ | refine Wx.blk_r ?_ | refine Wx.ng_r ?_)
  refine Wx.ret1 rfl rfl rfl ?_
  first | exact Ent.resF rfl | exact Ent.resC rfl | exact Ent.refl _ | exact Ent.auto
theorem s_log_Log_Tail (lp d cp : Nat) (lv : Value) (L : LogM) (h1 : 0 ≤ L.head ∧ L.head ≤ 4611686018427389000) (h2 : L.items.length ≤ 1000) : Ctr P f_log_Log_Tail [ptr lp] (LogB lp d cp lv L) (fun v => pu (v = i64 (logTail L)) * LogB lp d cp lv L) := by
  refine Ctr.of_body (m := 13) fn_log_Log_Tail rfl rfl rfl rfl rfl (fun F g => ?_)
  refine Wc.know (fun g w s => Vw.of_own T_log_item 2 lv L.items.length (itemsV L.items) g w (s.ent Ent.auto)) (fun hv => ?_)
  refine Wc.seq ?_
  refine Wc.region ?_
  refine Wl.val rfl (V.assign rfl) ?_
  refine Wl.nil ?_
  refine Wx.then_n ?_
  refine Wc.seq ?_
  refine Wc.quiet mixed (by kernel_rfl) ?_
  refine Wq.val rfl (V.move rfl) ?_
  refine Wq.val rfl (V.nil rfl) ?_
  refine Wq.val rfl (V.fld _ rfl O_log_Log_4 rfl) ?_
  refine Wq.val rfl (V.ld rfl C_int64 rfl) ?_
  refine Wq.val rfl (V.move rfl) ?_
  refine Wq.val rfl (V.nil rfl) ?_
  refine Wq.val rfl (V.fld _ rfl O_log_Log_7 rfl) ?_
  refine Wq.val rfl (V.ld rfl C_Slog_item rfl) ?_
  refine Wq.val rfl (V.lenW rfl U_Slog_item hv) ?_
  refine Wq.val rfl (V.addk rfl rfl (wr64 (by omega) (by omega))) ?_
  refine Wq.val rfl (V.assign rfl) ?_
  refine Wq.nil ?_
  refine Wx.then_n ?_
  refine Wc.ret ?_
  repeat (first | refine Wx.then_r ?_ | refine Wx.blk_r ?_ | refine Wx.ng_r ?_)
  refine Wx.ret1 rfl rfl rfl ?_
  first | exact Ent.resF rfl | exact Ent.resC rfl | exact Ent.refl _ | exact Ent.auto
theorem s_log_Log_Free (lp d cp : Nat) (lv : Value) (L : LogM) (h1 : L.n ≤ 1000) (h2 : L.items.length ≤ 1000) : Ctr P f_log_Log_Free [ptr lp] (LogB lp d cp lv L) (fun v => pu (v = i64 (logFree L)) * LogB lp d cp lv L) := by
  refine Ctr.of_body (m := 13) fn_log_Log_Free rfl rfl rfl rfl rfl (fun F g => ?_)
  refine Wc.know (fun g w s => Vw.of_own T_log_item 2 lv L.items.length (itemsV L.items) g w (s.ent Ent.auto)) (fun hv => ?_)
  refine Wc.seq ?_
  refine Wc.region ?_
  refine Wl.val rfl (V.assign rfl) ?_
  refine Wl.nil ?_
  refine Wx.then_n ?_
  refine Wc.seq ?_
  refine Wc.quiet mixed (by kernel_rfl) ?_
  refine Wq.val rfl (V.move rfl) ?_
  refine Wq.val rfl (V.nil rfl) ?_
  refine Wq.val rfl (V.fld _ rfl O_log_Log_2 rfl) ?_
  refine Wq.val rfl (V.ld rfl C_int rfl) ?_
  refine Wq.val rfl (V.move rfl) ?_
  refine Wq.val rfl (V.nil rfl) ?_
  refine Wq.val rfl (V.fld _ rfl O_log_Log_7 rfl) ?_
  refine Wq.val rfl (V.ld rfl C_Slog_item rfl) ?_
  refine Wq.val rfl (V.lenW rfl U_Slog_item hv) ?_
  refine Wq.val rfl (V.subk rfl rfl (wr64 (by omega) (by omega))) ?_
  refine Wq.val rfl (V.assign rfl) ?_
  refine Wq.nil ?_
  refine Wx.then_n ?_
  refine Wc.ret ?_
  repeat (first | refine Wx.then_r ?_ | refine Wx.blk_r ?_ | refine Wx.ng_r ?_)
  refine Wx.ret1 rfl rfl rfl ?_
  first | exact Ent.resF rfl | exact Ent.resC rfl | exact Ent.refl _ | exact Ent.auto
theorem s_log_Log_place (lp d cp : Nat) (lv : Value) (L : LogM) (k : Int) (h0 : 0 ≤ k ∧ k ≤ 9223372036854775807) (h1 : 0 < L.n ∧ L.n ≤ 1000) (h2 : L.first ≤ 1000) : Ctr P f_log_Log_place [ptr lp, i64 k] (LogB lp d cp lv L) (fun v => pu (v = i64 (L.first + (k.toNat % L.n : Nat) : Nat)) * LogB lp d cp lv L) := by
  have hr : k.tmod (L.n : Int) = ((k.toNat % L.n : Nat) : Int) := by
    obtain ⟨m, rfl⟩ : ∃ m : Nat, k = (m : Int) := ⟨k.toNat, by omega⟩
    rfl
  have hlt : k.toNat % L.n < L.n := Nat.mod_lt _ h1.1
  refine Ctr.of_body (m := 16) fn_log_Log_place rfl rfl rfl rfl rfl (fun F g => ?_)
  refine Wc.seq ?_
  refine Wc.region ?_
  refine Wl.val rfl (V.assign rfl) ?_
  refine Wl.nil ?_
  refine Wx.then_n ?_
  refine Wc.seq ?_
  refine Wc.quiet mixed (by kernel_rfl) ?_
  refine Wq.val rfl (V.move rfl) ?_
  refine Wq.val rfl (V.nil rfl) ?_
  refine Wq.val rfl (V.fld _ rfl O_log_Log_1 rfl) ?_
  refine Wq.val rfl (V.ld rfl C_int rfl) ?_
  refine Wq.val rfl (V.move rfl) ?_
  refine Wq.val rfl (V.move rfl) ?_
  refine Wq.val rfl (V.nil rfl) ?_
  refine Wq.val rfl (V.fld _ rfl O_log_Log_2 rfl) ?_
  refine Wq.val rfl (V.ld rfl C_int rfl) ?_
  refine Wq.val rfl (V.remk rfl rfl (by omega) hr) ?_
  refine Wq.val rfl (V.addk rfl rfl (r := ((L.first + k.toNat % L.n : Nat) : Int)) (by rw [wr64 (by omega) (by omega)]; omega)) ?_
  refine Wq.val rfl (V.assign rfl) ?_
  refine Wq.nil ?_
  refine Wx.then_n ?_
  refine Wc.ret ?_
  repeat (first | refine Wx.then_r ?_ | refine Wx.blk_r ?_ | refine Wx.ng_r ?_)
  refine Wx.ret1 rfl rfl rfl ?_
  first | exact Ent.resF rfl | exact Ent.resC rfl | exact Ent.refl _ | exact Ent.auto
theorem s_log_framed {S : HP} {nv tv : Value} (r : Rec) (ho : ∀ n ∈ r.nums, I64 n) (hn : Vw S nv 1 r.nums.length (numsV r.nums)) (ht : Vw S tv 1 r.texts.length (textsV r.texts)) (hlen : (enc r).1.length ≤ 255) :
  Ctr P f_log_framed [recV r.kind nv tv] S (fun v => own T_uint8 1 v (framed (enc r).1).length (bytesV (framed (enc r).1)) * S) := by
  refine Ctr.of_body (m := 33) fn_log_framed rfl rfl rfl rfl rfl (fun F g => ?_)
  refine Wc.seq ?_
  refine Wc.region ?_
  refine Wl.al rfl (M.box rfl rfl) (fun r1 => ?_)
  refine Wl.val rfl (V.assign rfl) ?_
  refine Wl.nil ?_
  refine Wx.then_n ?_
  refine Wc.seq ?_
  refine Wc.region ?_
  refine Wl.val rfl (V.ldA rfl C_api_Rec rfl) ?_
  refine Wl.call rfl rfl (s_code_Encode r ho hn ht) (by first | exact Take.here | exact Take.there Take.here | exact Take.there (Take.there Take.here) | exact Take.there (Take.there (Take.there Take.here)) | exact Take.none _ | exact TakeC.t | exact Take.there (Take.there (Take.there (Take.there Take.here))) | exact Take.there (Take.there (Take.there (Take.there (Take.there Take.here)))) | exact Take.there (Take.there (Take.there (Take.there (Take.there (Take.there Take.here)))))) (fun v8 => ?_)
  refine Wl.exm (fun b => ?_)
  refine Wl.pull (fun hb => ?_)
  subst hb
  generalize he : (enc r).1 = eb at *
  generalize (enc r).2 = ec
  refine Wl.know (fun g w s => Vw.of_own T_uint8 1 b eb.length (bytesV eb) g w (s.ent Ent.auto)) (fun hv => ?_)
  refine Wl.val rfl (V.move rfl) ?_
  refine Wl.val rfl (V.ext rfl rfl) ?_
  refine Wl.val rfl (V.ext rfl rfl) ?_
  refine Wl.val rfl (V.assign rfl) ?_
  refine Wl.val rfl (V.assign rfl) ?_
  refine Wl.nil ?_
  refine Wx.then_n ?_
  refine Wc.seq ?_
  refine Wc.region ?_
  refine Wl.val rfl (V.move rfl) ?_
  refine Wl.val rfl (V.lenW rfl U_Suint8 hv) ?_
  refine Wl.val rfl (V.conv rfl U_int U_uint8 (r := ((UInt8.ofNat eb.length).toNat : Int)) (by rw [wrap_u8_mod]; simp)) ?_
  refine Wl.al rfl (M.slice (l := [u8 (UInt8.ofNat eb.length)]) U_Suint8 L_Suint8.size N_uint8 rfl (by decide) rfl rfl) (fun r14 => ?_)
  refine Wl.ent (Ent.own_row (n := 1) (cap := 1) (m := 1) (xs := bytesV [UInt8.ofNat eb.length]) _ (by decide) (by decide) rfl rfl) ?_
  refine Wl.val rfl (V.move rfl) ?_
  refine Wl.exo rfl (X.append L_Suint8 rfl rfl Take.here (Src.vw U_Suint8 hv (bytesV_one _)) (by unfold maxLen; omega) (by omega)) (fun v16 => ?_)
  refine Wl.ent (Ent.frame _ (own_to (n' := (lenB eb).length) (xs' := bytesV (lenB eb)) (by simp [lenB]; omega) (by simp [lenB, bytesV]))) ?_
  refine Wl.know (fun g w s => Vw.of_own T_uint8 1 v16 _ _ g w (s.ent (Ent.left _ _))) (fun hv2 => ?_)
  refine Wl.val rfl (V.assign rfl) ?_
  refine Wl.nil ?_
  refine Wx.then_n ?_
  refine Wc.seq ?_
  refine Wc.region ?_
  refine Wl.val rfl (V.move rfl) ?_
  first | refine Wl.callE rfl rfl (s_crc_Sum hv2) ?_ | refine Wl.callD rfl rfl (s_crc_Sum hv2) (by first | exact Take.here | exact Take.there Take.here | exact Take.there (Take.there Take.here) | exact Take.there (Take.there (Take.there Take.here)) | exact Take.none _ | exact TakeC.t | exact Take.there (Take.there (Take.there (Take.there Take.here))) | exact Take.there (Take.there (Take.there (Take.there (Take.there Take.here)))) | exact Take.there (Take.there (Take.there (Take.there (Take.there (Take.there Take.here)))))) ?_
  refine Wl.val rfl (V.assign rfl) ?_
  refine Wl.nil ?_
  refine Wx.then_n ?_
  refine Wc.seq ?_
  refine Wc.region ?_
  refine Wl.val rfl (V.move rfl) ?_
  refine Wl.val rfl (V.shr rfl rfl (by omega) (by exact shr_u32 _ 24 (by omega))) ?_
  refine Wl.val rfl (V.conv rfl U_uint32 U_uint8 (by exact conv_u32_u8 _)) ?_
  refine Wl.val rfl (V.move rfl) ?_
  refine Wl.val rfl (V.shr rfl rfl (by omega) (by exact shr_u32 _ 16 (by omega))) ?_
  refine Wl.val rfl (V.conv rfl U_uint32 U_uint8 (by exact conv_u32_u8 _)) ?_
  refine Wl.val rfl (V.move rfl) ?_
  refine Wl.val rfl (V.shr rfl rfl (by omega) (by exact shr_u32 _ 8 (by omega))) ?_
  refine Wl.val rfl (V.conv rfl U_uint32 U_uint8 (by exact conv_u32_u8 _)) ?_
  refine Wl.val rfl (V.move rfl) ?_
  refine Wl.val rfl (V.conv rfl U_uint32 U_uint8 (by exact conv_u32_u8 _)) ?_
  refine Wl.al rfl (M.slice (l := bytesV (be32 (crcSum (lenB eb)))) U_Suint8 L_Suint8.size N_uint8 rfl (by decide) rfl rfl) (fun r30 => ?_)
  refine Wl.ent (Ent.own_row (n := 4) (cap := 4) (m := 1) (xs := bytesV (be32 (crcSum (lenB eb)))) _ (by decide) (by decide) rfl rfl) ?_
  refine Wl.val rfl (V.move rfl) ?_
  refine Wl.exo rfl (X.append L_Suint8 rfl rfl Take.here (Src.vw U_Suint8 hv2 (bytesV_one _)) (by unfold maxLen; simp [lenB]; omega) (by simp [lenB]; omega)) (fun v32 => ?_)
  refine Wl.val rfl (V.assign rfl) ?_
  refine Wl.nil ?_
  refine Wx.then_n ?_
  refine Wc.ret ?_
  repeat (first | refine Wx.then_r ?_ | refine Wx.blk_r ?_ | refine Wx.ng_r ?_)
  refine Wx.ret1 rfl rfl rfl ?_
  refine Ent.trans ?_ (Ent.of_eq (sep_assoc _ _ _).symm)
  refine (own_to ?_ ?_).mul Ent.auto
  · simp [framed, be32, lenB]; omega
  · simp [framed]
end Go.Proofs.YtjfacgmobpbhcaaGreat
/- The walks: logs, 2. -/
namespace Go.Proofs.YtjfacgmobpbhcaaGreat
open Go.Sl Sei
theorem s_slices_Clone_log_item {S : HP} {v : Value} {n : Nat} {xs : List Value} (hw : Vw S v 2 n xs) (h1 : ∀ x ∈ xs, x.oneCell' = true) (hn : n ≤ 1000000) : Ctr P f_slices_Clone_log_item [v] S (fun r => own T_log_item 2 r n xs * S) := by
  obtain ⟨a, k, cap, rfl⟩ := hw.shape
  refine Ctr.of_body (m := 8) fn_slices_Clone_log_item rfl rfl rfl rfl rfl (fun F g => ?_)
  refine Wc.seq ?_
  refine Wc.region ?_
  refine Wl.val rfl (V.assign rfl) ?_
  refine Wl.nil ?_
  refine Wx.then_n ?_
  refine Wc.seq ?_
  refine Wc.seq ?_
  refine Wc.region ?_
  refine Wl.val rfl (V.move rfl) ?_
  refine Wl.val rfl (V.eqSliceNil rfl U_Slog_item) ?_
  refine Wl.nil ?_
  refine Wx.then_n ?_
  refine Wc.cond rfl (fun hc1 => ?_) (fun hc1 => ?_)
  · skip
    try replace hc1 := of_decide_eq_true hc1
    refine Wc.seq ?_
    refine Wc.region ?_
    refine Wl.val rfl (V.assign rfl) ?_
    refine Wl.nil ?_
    refine Wx.then_n ?_
    refine Wc.ret ?_
    repeat (first | refine Wx.then_r ?_ | refine Wx.blk_r ?_ | refine Wx.ng_r ?_)
    refine Wx.ret1 rfl rfl rfl ?_
    rcases hw with ⟨h1, rfl, h3⟩ | ⟨r, o, cap', h1, _⟩ | ⟨⟨a', h1⟩, _⟩
    · rw [h3, sep_assoc]; exact Ent.own_nil T_log_item 2 (S * F)
    · injection h1 with h1; subst h1; cases hc1
    · injection h1 with h1; subst h1; cases hc1
  · skip
    try replace hc1 := of_decide_eq_false hc1
    refine Wc.skip ?_
    refine Wx.then_n ?_
    refine Wc.seq ?_
    refine Wc.region ?_
    refine Wl.al rfl (M.slice (l := []) U_Slog_item L_Slog_item.size N_log_item rfl (by decide) rfl rfl) (fun r5 => ?_)
    refine Wl.ent (Ent.own_row (n := 0) (cap := 0) (m := 2) (xs := []) _ (Nat.zero_le _) (Nat.zero_le _) rfl rfl) ?_
    refine Wl.val rfl (V.move rfl) ?_
    refine Wl.exo rfl (X.append L_Slog_item rfl rfl Take.here (Src.vw U_Slog_item hw h1) (by unfold maxLen; omega) (by omega)) (fun v7 => ?_)
    refine Wl.val rfl (V.assign rfl) ?_
    refine Wl.nil ?_
    refine Wx.then_n ?_
    refine Wc.ret ?_
    repeat (first | refine Wx.then_r ?_ | refine Wx.blk_r ?_ | refine Wx.ng_r ?_)
    refine Wx.ret1 rfl rfl rfl ?_
    refine (Ent.trans ?_ (Ent.of_eq (sep_assoc _ _ _).symm))
    exact (own_to (by omega) (by simp)).frame _
theorem s_log_read {S : HP} {v : Value} {b : List UInt8} (hw : Vw S v 1 b.length (bytesV b)) (hl : 5 ≤ b.length) : Ctr P f_log_read [v] S (fun r => ex fun (q : Value × Value) => pu (r = .tuple #[recV (logRead b).1.kind q.1 q.2, .bool (logRead b).2]) * (own T_int64 1 q.1 (logRead b).1.nums.length (numsV (logRead b).1.nums) * (own T_string 1 q.2 (logRead b).1.texts.length (textsV (logRead b).1.texts) * S))) := by
  have hn := (b.getD 4 0).toNat_lt
  have hm := hw.le
  have hL : lenOf b = (b.getD 4 0).toNat := rfl
  refine Ctr.of_body (m := 84) fn_log_read rfl rfl rfl rfl rfl (fun F g => ?_)
  refine Wc.seq ?_
  refine Wc.region ?_
  refine Wl.al rfl (M.alloc N_api_Rec) (fun r2 => ?_)
  refine Wl.val rfl (V.assign rfl) ?_
  refine Wl.nil ?_
  refine Wx.then_n ?_
  refine Wc.seq ?_
  refine Wc.region ?_
  refine Wl.val rfl (V.move rfl) ?_
  refine Wl.val rfl (V.idxW rfl rfl U_Suint8 Z_uint8 hw (by decide) (by omega)) ?_
  refine Wl.val rfl (V.ldW (u := u8 (b.getD 4 0)) rfl C_uint8 hw (getD_byte (by omega))) ?_
  refine Wl.val rfl (V.conv rfl U_uint8 U_int (wr64 (by omega) (by omega))) ?_
  refine Wl.val rfl (V.assign rfl) ?_
  refine Wl.nil ?_
  refine Wx.then_n ?_
  refine Wc.seq ?_
  refine Wc.seq ?_
  refine Wc.region ?_
  refine Wl.val rfl (V.move rfl) ?_
  refine Wl.val rfl (V.addk rfl rfl (wr64 (by omega) (by omega))) ?_
  refine Wl.val rfl (V.move rfl) ?_
  refine Wl.val rfl (V.lenW rfl U_Suint8 hw) ?_
  refine Wl.val rfl (V.gtr rfl rfl) ?_
  refine Wl.nil ?_
  refine Wx.then_n ?_
  refine Wc.cond rfl (fun hc1 => ?_) (fun hc1 => ?_)
  · skip
    try replace hc1 := of_decide_eq_true hc1
    refine Wc.seq ?_
    refine Wc.region ?_
    refine Wl.val rfl (V.build B_api_Rec rfl rfl) ?_
    refine Wl.st (Go.Sl.S.putA rfl rfl C_api_Rec rfl rfl rfl rfl) ?_
    refine Wl.val rfl (V.assign rfl) ?_
    refine Wl.nil ?_
    refine Wx.then_n ?_
    refine Wc.ret ?_
    repeat (first | refine Wx.then_r ?_ | refine Wx.blk_r ?_ | refine Wx.ng_r ?_)
    refine Wx.rv2 rfl rfl (RV.cellA rfl C_api_Rec rfl) (RV.tmp rfl) ?_
    rw [logRead_short (by omega), ex_mul]
    refine Ent.ex (.slice none 0 0, .slice none 0 0) ?_
    refine (Ent.right _ _).trans (Ent.trans ?_ (Ent.of_eq (sep_assoc _ _ _).symm))
    refine Ent.trans ?_ (Ent.pure rfl)
    refine Ent.trans ?_ (Ent.of_eq (by rw [sep_assoc, sep_assoc]))
    exact (Ent.own_nil T_string 1 _).trans (Ent.own_nil T_int64 1 _)
  · skip
    try replace hc1 := of_decide_eq_false hc1
    refine Wc.skip ?_
    refine Wx.then_n ?_
    refine Wc.seq ?_
    refine Wc.quiet mixed (by kernel_rfl) ?_
    refine Wq.val rfl (V.move rfl) ?_
    refine Wq.val rfl (V.idxW rfl rfl U_Suint8 Z_uint8 hw (by decide) (by omega)) ?_
    refine Wq.val rfl (V.ldW (u := u8 (b.getD 0 0)) rfl C_uint8 hw (getD_byte (by omega))) ?_
    refine Wq.val rfl (V.conv rfl U_uint8 U_uint32 (by exact conv_u8_u32 _)) ?_
    refine Wq.val rfl (V.shl rfl rfl (by omega) (by exact shl_u32 _ 24 (by omega))) ?_
    refine Wq.val rfl (V.move rfl) ?_
    refine Wq.val rfl (V.idxW rfl rfl U_Suint8 Z_uint8 hw (by decide) (by omega)) ?_
    refine Wq.val rfl (V.ldW (u := u8 (b.getD 1 0)) rfl C_uint8 hw (getD_byte (by omega))) ?_
    refine Wq.val rfl (V.conv rfl U_uint8 U_uint32 (by exact conv_u8_u32 _)) ?_
    refine Wq.val rfl (V.shl rfl rfl (by omega) (by exact shl_u32 _ 16 (by omega))) ?_
    refine Wq.val rfl (V.or rfl rfl (by exact or_u32 _ _)) ?_
    refine Wq.val rfl (V.move rfl) ?_
    refine Wq.val rfl (V.idxW rfl rfl U_Suint8 Z_uint8 hw (by decide) (by omega)) ?_
    refine Wq.val rfl (V.ldW (u := u8 (b.getD 2 0)) rfl C_uint8 hw (getD_byte (by omega))) ?_
    refine Wq.val rfl (V.conv rfl U_uint8 U_uint32 (by exact conv_u8_u32 _)) ?_
    refine Wq.val rfl (V.shl rfl rfl (by omega) (by exact shl_u32 _ 8 (by omega))) ?_
    refine Wq.val rfl (V.or rfl rfl (by exact or_u32 _ _)) ?_
    refine Wq.val rfl (V.move rfl) ?_
    refine Wq.val rfl (V.idxW rfl rfl U_Suint8 Z_uint8 hw (by decide) (by omega)) ?_
    refine Wq.val rfl (V.ldW (u := u8 (b.getD 3 0)) rfl C_uint8 hw (getD_byte (by omega))) ?_
    refine Wq.val rfl (V.conv rfl U_uint8 U_uint32 (by exact conv_u8_u32 _)) ?_
    refine Wq.val rfl (V.or rfl rfl (by exact or_u32 _ _)) ?_
    refine Wq.val rfl (V.assign rfl) ?_
    refine Wq.nil ?_
    refine Wx.then_n ?_
    refine Wc.seq ?_
    refine Wc.region ?_
    refine Wl.val rfl (V.move rfl) ?_
    refine Wl.val rfl (V.move rfl) ?_
    refine Wl.val rfl (V.addk rfl rfl (wr64 (by omega) (by omega))) ?_
    refine Wl.val rfl (V.sliceW (l := 5) (q := 5 + lenOf b) rfl U_Suint8 Z_uint8 rfl rfl hw rfl (by show _ = _; rw [hL]; simp) (by omega) (by omega)) ?_
    refine Wl.call rfl rfl (s_code_Decode (bs := bodyOf b) (Vw.cut hw (l := 5) (q := 5 + lenOf b) (by omega) (by omega) (by simp [bodyOf]) (by simp [bodyOf]; omega))) (by first | exact Take.here | exact Take.there Take.here | exact Take.there (Take.there Take.here) | exact Take.there (Take.there (Take.there Take.here)) | exact Take.none _ | exact TakeC.t | exact Take.there (Take.there (Take.there (Take.there Take.here))) | exact Take.there (Take.there (Take.there (Take.there (Take.there Take.here)))) | exact Take.there (Take.there (Take.there (Take.there (Take.there (Take.there Take.here)))))) (fun v45 => ?_)
    refine Wl.exm (fun q => ?_)
    refine Wl.pull (fun hq => ?_)
    subst hq
    obtain ⟨nv, tv⟩ := q
    dsimp only
    generalize hd : dec (bodyOf b) = de
    obtain ⟨r, ec⟩ := de
    dsimp only
    refine Wl.ent (H' := own T_int64 1 nv r.nums.length (numsV r.nums) * (own T_string 1 tv r.texts.length (textsV r.texts) * (row r2 T_api_Rec [i64 0, .slice none 0 0, .slice none 0 0] * (S * F)))) Ent.auto ?_
    refine Wl.know (fun g w s => Vw.of_own T_int64 1 nv r.nums.length (numsV r.nums) g w (s.ent Ent.auto)) (fun hvn => ?_)
    refine Wl.know (fun g w s => Vw.of_own T_string 1 tv r.texts.length (textsV r.texts) g w (s.ent Ent.auto)) (fun hvt => ?_)
    refine Wl.val rfl (V.move rfl) ?_
    refine Wl.val rfl (V.ext rfl rfl) ?_
    refine Wl.val rfl (V.ext rfl rfl) ?_
    refine Wl.al rfl (M.alloc N_api_Rec) (fun r6 => ?_)
    refine Wl.st (Go.Sl.S.putA rfl rfl C_api_Rec (by simp only [oneCells, hvn.one, hvt.one]; rfl) rfl rfl rfl) ?_
    refine Wl.val rfl (V.assign rfl) ?_
    refine Wl.nil ?_
    refine Wx.then_n ?_
    refine Wc.seq ?_
    refine Wc.draws 37 mixed (by kernel_rfl) (S := own T_int64 1 nv r.nums.length (numsV r.nums) * (own T_string 1 tv r.texts.length (textsV r.texts) * (row r6 T_api_Rec [i64 r.kind, nv, tv] * (S * F)))) (M := row r2 T_api_Rec [i64 0, .slice none 0 0, .slice none 0 0]) (Ent.auto) ?_
    refine Wr.take [0, 1, 2, 3, 4, 5, 6, 7, 8, 9, 10, 11, 12, 13, 14, 15, 16, 17, 18, 19, 20, 21, 22, 23, 24, 25, 26, 27, 28, 29, 30, 31, 32, 33, 34, 35] 1 (by kernel_rfl) (by kernel_rfl) rfl rfl ?_
    refine Wt.val rfl (V.ldA rfl C_api_Rec rfl) ?_
    refine Wt.val rfl (V.move rfl) ?_
    refine Wt.val rfl (V.move rfl) ?_
    refine Wt.val rfl (V.addk rfl rfl (wr64 (by omega) (by omega))) ?_
    refine Wt.val rfl (V.sliceW (l := 4) (q := 5 + lenOf b) rfl U_Suint8 Z_uint8 rfl rfl hw rfl (by show _ = _; rw [hL]; simp) (by omega) (by omega)) ?_
    refine Wt.val rfl (V.move rfl) ?_
    refine Wt.call rfl rfl (s_crc_Check (sumOf b) (Vw.cut hw (l := 4) (q := 5 + lenOf b) (c := (b.drop 4).take (lenOf b + 1)) (by omega) (by omega) (by rw [show 5 + lenOf b - 4 = lenOf b + 1 by omega]) (by simp; omega))) (by first | exact Take.here | exact Take.there Take.here | exact Take.there (Take.there Take.here) | exact Take.there (Take.there (Take.there Take.here)) | exact Take.none _ | exact TakeC.t | exact Take.there (Take.there (Take.there (Take.there Take.here))) | exact Take.there (Take.there (Take.there (Take.there (Take.there Take.here)))) | exact Take.there (Take.there (Take.there (Take.there (Take.there (Take.there Take.here)))))) ?_
    refine Wt.val rfl (V.move rfl) ?_
    refine Wt.bool 55 rfl (fun hb55 => ?_) (fun hb55 => ?_)
    · -- t55 is True
      try replace hb55 := of_decide_eq_true hb55
      refine Wt.gT rfl rfl rfl (V.move rfl) ?_
      refine Wt.gT rfl rfl rfl (V.eql rfl rfl) ?_
      refine Wt.val rfl (V.pickT rfl rfl) ?_
      refine Wt.val rfl (V.move rfl) ?_
      refine Wt.bool 59 rfl (fun hb59 => ?_) (fun hb59 => ?_)
      · -- t59 is True
        try replace hb59 := of_decide_eq_true hb59
        refine Wt.gT rfl rfl rfl (V.fld _ rfl O_api_Rec_0 rfl) ?_
        refine Wt.gT rfl rfl rfl (V.ld rfl C_int rfl) ?_
        refine Wt.gT rfl rfl rfl (V.eql rfl rfl) ?_
        refine Wt.val rfl (V.pickT rfl rfl) ?_
        refine Wt.val rfl (V.move rfl) ?_
        refine Wt.bool 64 rfl (fun hb64 => ?_) (fun hb64 => ?_)
        · -- t64 is True
          try replace hb64 := of_decide_eq_true hb64
          refine Wt.gT rfl rfl rfl (V.fld _ rfl O_api_Rec_1 rfl) ?_
          refine Wt.gT rfl rfl rfl (V.ld rfl C_Sint64 rfl) ?_
          refine Wt.gT rfl rfl rfl (V.lenW rfl U_Sint64 hvn) ?_
          refine Wt.gT rfl rfl rfl (V.eql rfl rfl) ?_
          refine Wt.val rfl (V.pickT rfl rfl) ?_
          refine Wt.val rfl (V.move rfl) ?_
          refine Wt.bool 70 rfl (fun hb70 => ?_) (fun hb70 => ?_)
          · -- t70 is True
            try replace hb70 := of_decide_eq_true hb70
            refine Wt.gT rfl rfl rfl (V.fld _ rfl O_api_Rec_2 rfl) ?_
            refine Wt.gT rfl rfl rfl (V.ld rfl C_Sstring rfl) ?_
            refine Wt.gT rfl rfl rfl (V.lenW rfl U_Sstring hvt) ?_
            refine Wt.gT rfl rfl rfl (V.eql rfl rfl) ?_
            refine Wt.val rfl (V.pickT rfl rfl) ?_
            refine Wt.val rfl (V.move rfl) ?_
            refine Wt.bool 76 rfl (fun hb76 => ?_) (fun hb76 => ?_)
            · -- t76 is True
              try replace hb76 := of_decide_eq_true hb76
              refine Wt.gT rfl rfl rfl (V.fld _ rfl O_api_Rec_2 rfl) ?_
              refine Wt.gT rfl rfl rfl (V.ld rfl C_Sstring rfl) ?_
              refine Wt.gT rfl rfl rfl (V.idxW rfl rfl U_Sstring Z_string hvt (by decide) (by omega)) ?_
              refine Wt.gT rfl rfl rfl (V.ldW rfl C_string hvt (texts0 (by simpa using hb76))) ?_
              refine Wt.gT rfl rfl rfl (V.lenT rfl U_string) ?_
              refine Wt.gT rfl rfl rfl (V.leq rfl rfl) ?_
              refine Wt.val rfl (V.pickT rfl rfl) ?_
              refine Wt.nil ?_
              refine Wr.any [36] 0 (by kernel_rfl) rfl rfl ?_
              refine Wm.st rfl rfl (Go.Sl.S.putA (vs := [i64 r.kind, nv, tv]) rfl rfl C_api_Rec (by simp only [oneCells, hvn.one, hvt.one]; rfl) rfl rfl rfl) rfl ?_ ?_
              · skip
                refine Wr.tail (by kernel_rfl) rfl ?_
                try refine Wl.ent (Ent.unemp _) ?_
                refine Wl.val rfl (V.assign rfl) ?_
                refine Wl.nil ?_
                refine Wx.then_n ?_
                refine Wc.ret ?_
                repeat (first | refine Wx.then_r ?_ | refine Wx.blk_r ?_ | refine Wx.ng_r ?_)
                refine Wx.rv2 rfl rfl (RV.cellA rfl C_api_Rec rfl) (RV.tmp rfl) ?_
                rw [logRead_long (by omega), hd, ex_mul]
                refine Ent.ex (nv, tv) ?_
                exact Ent.resC (by clear hL hn hd; first | (simp only [logGood, goodSum, *, decide_true, decide_false, not_true, not_false_iff, Bool.true_and, Bool.and_true, Bool.false_and, Bool.and_false, Bool.and_self, beq_self_eq_true]; done) | simp [logGood, goodSum, *])
              exact Wm.nil
            · -- t76 is False
              try replace hb76 := of_decide_eq_false hb76
              refine Wt.gF rfl rfl rfl ?_
              refine Wt.gF rfl rfl rfl ?_
              refine Wt.gF rfl rfl rfl ?_
              refine Wt.gF rfl rfl rfl ?_
              refine Wt.gF rfl rfl rfl ?_
              refine Wt.gF rfl rfl rfl ?_
              refine Wt.val rfl (V.pickF rfl rfl) ?_
              refine Wt.nil ?_
              refine Wr.any [36] 0 (by kernel_rfl) rfl rfl ?_
              refine Wm.st rfl rfl (Go.Sl.S.putA (vs := [i64 r.kind, nv, tv]) rfl rfl C_api_Rec (by simp only [oneCells, hvn.one, hvt.one]; rfl) rfl rfl rfl) rfl ?_ ?_
              · skip
                refine Wr.tail (by kernel_rfl) rfl ?_
                try refine Wl.ent (Ent.unemp _) ?_
                refine Wl.val rfl (V.assign rfl) ?_
                refine Wl.nil ?_
                refine Wx.then_n ?_
                refine Wc.ret ?_
                repeat (first | refine Wx.then_r ?_ | refine Wx.blk_r ?_ | refine Wx.ng_r ?_)
                refine Wx.rv2 rfl rfl (RV.cellA rfl C_api_Rec rfl) (RV.tmp rfl) ?_
                rw [logRead_long (by omega), hd, ex_mul]
                refine Ent.ex (nv, tv) ?_
                exact Ent.resC (by clear hL hn hd; first | (simp only [logGood, goodSum, *, decide_true, decide_false, not_true, not_false_iff, Bool.true_and, Bool.and_true, Bool.false_and, Bool.and_false, Bool.and_self, beq_self_eq_true]; done) | simp [logGood, goodSum, *])
              exact Wm.nil
          · -- t70 is False
            try replace hb70 := of_decide_eq_false hb70
            refine Wt.gF rfl rfl rfl ?_
            refine Wt.gF rfl rfl rfl ?_
            refine Wt.gF rfl rfl rfl ?_
            refine Wt.gF rfl rfl rfl ?_
            refine Wt.val rfl (V.pickF rfl rfl) ?_
            refine Wt.val rfl (V.move rfl) ?_
            refine Wt.gF rfl rfl rfl ?_
            refine Wt.gF rfl rfl rfl ?_
            refine Wt.gF rfl rfl rfl ?_
            refine Wt.gF rfl rfl rfl ?_
            refine Wt.gF rfl rfl rfl ?_
            refine Wt.gF rfl rfl rfl ?_
            refine Wt.val rfl (V.pickF rfl rfl) ?_
            refine Wt.nil ?_
            refine Wr.any [36] 0 (by kernel_rfl) rfl rfl ?_
            refine Wm.st rfl rfl (Go.Sl.S.putA (vs := [i64 r.kind, nv, tv]) rfl rfl C_api_Rec (by simp only [oneCells, hvn.one, hvt.one]; rfl) rfl rfl rfl) rfl ?_ ?_
            · skip
              refine Wr.tail (by kernel_rfl) rfl ?_
              try refine Wl.ent (Ent.unemp _) ?_
              refine Wl.val rfl (V.assign rfl) ?_
              refine Wl.nil ?_
              refine Wx.then_n ?_
              refine Wc.ret ?_
              repeat (first | refine Wx.then_r ?_ | refine Wx.blk_r ?_ | refine Wx.ng_r ?_)
              refine Wx.rv2 rfl rfl (RV.cellA rfl C_api_Rec rfl) (RV.tmp rfl) ?_
              rw [logRead_long (by omega), hd, ex_mul]
              refine Ent.ex (nv, tv) ?_
              exact Ent.resC (by clear hL hn hd; first | (simp only [logGood, goodSum, *, decide_true, decide_false, not_true, not_false_iff, Bool.true_and, Bool.and_true, Bool.false_and, Bool.and_false, Bool.and_self, beq_self_eq_true]; done) | simp [logGood, goodSum, *])
            exact Wm.nil
        · -- t64 is False
          try replace hb64 := of_decide_eq_false hb64
          refine Wt.gF rfl rfl rfl ?_
          refine Wt.gF rfl rfl rfl ?_
          refine Wt.gF rfl rfl rfl ?_
          refine Wt.gF rfl rfl rfl ?_
          refine Wt.val rfl (V.pickF rfl rfl) ?_
          refine Wt.val rfl (V.move rfl) ?_
          refine Wt.gF rfl rfl rfl ?_
          refine Wt.gF rfl rfl rfl ?_
          refine Wt.gF rfl rfl rfl ?_
          refine Wt.gF rfl rfl rfl ?_
          refine Wt.val rfl (V.pickF rfl rfl) ?_
          refine Wt.val rfl (V.move rfl) ?_
          refine Wt.gF rfl rfl rfl ?_
          refine Wt.gF rfl rfl rfl ?_
          refine Wt.gF rfl rfl rfl ?_
          refine Wt.gF rfl rfl rfl ?_
          refine Wt.gF rfl rfl rfl ?_
          refine Wt.gF rfl rfl rfl ?_
          refine Wt.val rfl (V.pickF rfl rfl) ?_
          refine Wt.nil ?_
          refine Wr.any [36] 0 (by kernel_rfl) rfl rfl ?_
          refine Wm.st rfl rfl (Go.Sl.S.putA (vs := [i64 r.kind, nv, tv]) rfl rfl C_api_Rec (by simp only [oneCells, hvn.one, hvt.one]; rfl) rfl rfl rfl) rfl ?_ ?_
          · skip
            refine Wr.tail (by kernel_rfl) rfl ?_
            try refine Wl.ent (Ent.unemp _) ?_
            refine Wl.val rfl (V.assign rfl) ?_
            refine Wl.nil ?_
            refine Wx.then_n ?_
            refine Wc.ret ?_
            repeat (first | refine Wx.then_r ?_ | refine Wx.blk_r ?_ | refine Wx.ng_r ?_)
            refine Wx.rv2 rfl rfl (RV.cellA rfl C_api_Rec rfl) (RV.tmp rfl) ?_
            rw [logRead_long (by omega), hd, ex_mul]
            refine Ent.ex (nv, tv) ?_
            exact Ent.resC (by clear hL hn hd; first | (simp only [logGood, goodSum, *, decide_true, decide_false, not_true, not_false_iff, Bool.true_and, Bool.and_true, Bool.false_and, Bool.and_false, Bool.and_self, beq_self_eq_true]; done) | simp [logGood, goodSum, *])
          exact Wm.nil
      · -- t59 is False
        try replace hb59 := of_decide_eq_false hb59
        refine Wt.gF rfl rfl rfl ?_
        refine Wt.gF rfl rfl rfl ?_
        refine Wt.gF rfl rfl rfl ?_
        refine Wt.val rfl (V.pickF rfl rfl) ?_
        refine Wt.val rfl (V.move rfl) ?_
        refine Wt.gF rfl rfl rfl ?_
        refine Wt.gF rfl rfl rfl ?_
        refine Wt.gF rfl rfl rfl ?_
        refine Wt.gF rfl rfl rfl ?_
        refine Wt.val rfl (V.pickF rfl rfl) ?_
        refine Wt.val rfl (V.move rfl) ?_
        refine Wt.gF rfl rfl rfl ?_
        refine Wt.gF rfl rfl rfl ?_
        refine Wt.gF rfl rfl rfl ?_
        refine Wt.gF rfl rfl rfl ?_
        refine Wt.val rfl (V.pickF rfl rfl) ?_
        refine Wt.val rfl (V.move rfl) ?_
        refine Wt.gF rfl rfl rfl ?_
        refine Wt.gF rfl rfl rfl ?_
        refine Wt.gF rfl rfl rfl ?_
        refine Wt.gF rfl rfl rfl ?_
        refine Wt.gF rfl rfl rfl ?_
        refine Wt.gF rfl rfl rfl ?_
        refine Wt.val rfl (V.pickF rfl rfl) ?_
        refine Wt.nil ?_
        refine Wr.any [36] 0 (by kernel_rfl) rfl rfl ?_
        refine Wm.st rfl rfl (Go.Sl.S.putA (vs := [i64 r.kind, nv, tv]) rfl rfl C_api_Rec (by simp only [oneCells, hvn.one, hvt.one]; rfl) rfl rfl rfl) rfl ?_ ?_
        · skip
          refine Wr.tail (by kernel_rfl) rfl ?_
          try refine Wl.ent (Ent.unemp _) ?_
          refine Wl.val rfl (V.assign rfl) ?_
          refine Wl.nil ?_
          refine Wx.then_n ?_
          refine Wc.ret ?_
          repeat (first | refine Wx.then_r ?_ | refine Wx.blk_r ?_ | refine Wx.ng_r ?_)
          refine Wx.rv2 rfl rfl (RV.cellA rfl C_api_Rec rfl) (RV.tmp rfl) ?_
          rw [logRead_long (by omega), hd, ex_mul]
          refine Ent.ex (nv, tv) ?_
          exact Ent.resC (by clear hL hn hd; first | (simp only [logGood, goodSum, *, decide_true, decide_false, not_true, not_false_iff, Bool.true_and, Bool.and_true, Bool.false_and, Bool.and_false, Bool.and_self, beq_self_eq_true]; done) | simp [logGood, goodSum, *])
        exact Wm.nil
    · -- t55 is False
      try replace hb55 := of_decide_eq_false hb55
      refine Wt.gF rfl rfl rfl ?_
      refine Wt.gF rfl rfl rfl ?_
      refine Wt.val rfl (V.pickF rfl rfl) ?_
      refine Wt.val rfl (V.move rfl) ?_
      refine Wt.gF rfl rfl rfl ?_
      refine Wt.gF rfl rfl rfl ?_
      refine Wt.gF rfl rfl rfl ?_
      refine Wt.val rfl (V.pickF rfl rfl) ?_
      refine Wt.val rfl (V.move rfl) ?_
      refine Wt.gF rfl rfl rfl ?_
      refine Wt.gF rfl rfl rfl ?_
      refine Wt.gF rfl rfl rfl ?_
      refine Wt.gF rfl rfl rfl ?_
      refine Wt.val rfl (V.pickF rfl rfl) ?_
      refine Wt.val rfl (V.move rfl) ?_
      refine Wt.gF rfl rfl rfl ?_
      refine Wt.gF rfl rfl rfl ?_
      refine Wt.gF rfl rfl rfl ?_
      refine Wt.gF rfl rfl rfl ?_
      refine Wt.val rfl (V.pickF rfl rfl) ?_
      refine Wt.val rfl (V.move rfl) ?_
      refine Wt.gF rfl rfl rfl ?_
      refine Wt.gF rfl rfl rfl ?_
      refine Wt.gF rfl rfl rfl ?_
      refine Wt.gF rfl rfl rfl ?_
      refine Wt.gF rfl rfl rfl ?_
      refine Wt.gF rfl rfl rfl ?_
      refine Wt.val rfl (V.pickF rfl rfl) ?_
      refine Wt.nil ?_
      refine Wr.any [36] 0 (by kernel_rfl) rfl rfl ?_
      refine Wm.st rfl rfl (Go.Sl.S.putA (vs := [i64 r.kind, nv, tv]) rfl rfl C_api_Rec (by simp only [oneCells, hvn.one, hvt.one]; rfl) rfl rfl rfl) rfl ?_ ?_
      · skip
        refine Wr.tail (by kernel_rfl) rfl ?_
        try refine Wl.ent (Ent.unemp _) ?_
        refine Wl.val rfl (V.assign rfl) ?_
        refine Wl.nil ?_
        refine Wx.then_n ?_
        refine Wc.ret ?_
        repeat (first | refine Wx.then_r ?_ | refine Wx.blk_r ?_ | refine Wx.ng_r ?_)
        refine Wx.rv2 rfl rfl (RV.cellA rfl C_api_Rec rfl) (RV.tmp rfl) ?_
        rw [logRead_long (by omega), hd, ex_mul]
        refine Ent.ex (nv, tv) ?_
        exact Ent.resC (by clear hL hn hd; first | (simp only [logGood, goodSum, *, decide_true, decide_false, not_true, not_false_iff, Bool.true_and, Bool.and_true, Bool.false_and, Bool.and_false, Bool.and_self, beq_self_eq_true]; done) | simp [logGood, goodSum, *])
      exact Wm.nil
end Go.Proofs.YtjfacgmobpbhcaaGreat
/- The walks: logs, 3. -/
namespace Go.Proofs.YtjfacgmobpbhcaaGreat
open Go.Sl Sei
theorem s_log_framed' {S : HP} {nv tv : Value} (r : Rec) (ho : ∀ n ∈ r.nums, I64 n) (hn : Vw S nv 1 r.nums.length (numsV r.nums)) (ht : Vw S tv 1 r.texts.length (textsV r.texts)) (hlen : (enc r).1.length ≤ 255) :
    Ctr P f_log_framed [recV r.kind nv tv] S (fun v => ex fun (x : Value) => pu (v = x) * (own T_uint8 1 x (framed (enc r).1).length (bytesV (framed (enc r).1)) * S)) := (s_log_framed r ho hn ht hlen).mono fun v => Ent.ex v (Ent.pure rfl)
def Log (lp d : Nat) (L : LogM) : HP := ex fun (q : Nat × Value) => LogB lp d q.1 q.2 L
theorem Log.intro (lp d cp : Nat) (lv : Value) (L : LogM) : Ent (LogB lp d cp lv L) (Log lp d L) := Ent.ex (cp, lv) (Ent.refl _)
theorem Wc.log {C : Cx} {lp d : Nat} {L : LogM} {F : HP} {e : Env} {c : Code} {Q : Post} (k : ∀ cp lv, Wc C (LogB lp d cp lv L * F) e c Q) : Wc C (Log lp d L * F) e c Q := Wc.exm fun q => k q.1 q.2
theorem Ent.log {lp d cp : Nat} {lv : Value} {L : LogM} {p : Prop} {S F H : HP} (hp : p) [i : En H (LogB lp d cp lv L * (S * F))] : Ent H (pu p * (Log lp d L * S) * F) :=
  Ent.res hp ((i.e.trans ((Log.intro lp d cp lv L).frame _)).trans (Ent.of_eq (sep_assoc _ _ _).symm))
theorem LogB.own (lp d cp : Nat) (lv : Value) (L : LogM) (g : Gh) (w : World) (s : Sat g w (LogB lp d cp lv L)) : Vw (own T_log_item 2 lv L.items.length (itemsV L.items)) lv 2 L.items.length (itemsV L.items) := Vw.of_own T_log_item 2 lv L.items.length (itemsV L.items) g w (s.ent Ent.auto)
theorem s_log_Log_put (lp d cp : Nat) (lv : Value) {D : DevM} {L : LogM} (hL : LogOk D L) (head least : Int) (h1 : I64 head) (h2 : I64 least) : Ctr P f_log_Log_put [ptr lp, i64 head, i64 least] (LogB lp d cp lv L * Dev d D) (fun v => pu (v = i64 (logPut D L head least).2.2) * (LogB lp d cp lv (logPut D L head least).2.1 * Dev d (logPut D L head least).1)) := by
  have ht := hL.time
  have h3 : ∀ n ∈ [head, L.time, least], I64 n := by intro n hn; simp at hn; rcases hn with rfl | rfl | rfl <;> first | assumption | (unfold I64; omega)
  refine Ctr.of_body (m := 28) fn_log_Log_put rfl rfl rfl rfl rfl (fun F g => ?_)
  refine Wc.seq ?_
  refine Wc.region ?_
  refine Wl.val rfl (V.assign rfl) ?_
  refine Wl.nil ?_
  refine Wx.then_n ?_
  refine Wc.seq ?_
  refine Wc.region ?_
  refine Wl.val rfl (V.move rfl) ?_
  refine Wl.val rfl (V.move rfl) ?_
  refine Wl.val rfl (V.nil rfl) ?_
  refine Wl.val rfl (V.fld _ rfl O_log_Log_5 rfl) ?_
  refine Wl.val rfl (V.ld rfl C_int64 rfl) ?_
  refine Wl.val rfl (V.move rfl) ?_
  refine Wl.al rfl (M.slice (l := [i64 head, i64 L.time, i64 least]) U_Sint64 L_Sint64.size N_int64 rfl (by decide) rfl rfl) (fun r16 => ?_)
  refine Wl.val rfl (V.build B_api_Rec rfl rfl) ?_
  refine Wl.call rfl rfl (s_code_Encode (S := row r16 T_int64 [i64 head, i64 L.time, i64 least]) ⟨3, [head, L.time, least], []⟩ h3 (Vw.row (by decide) (by decide) rfl (fun j x h => by rw [Nat.zero_add]; exact h)) (Vw.nil _ 1)) (by first | exact Take.here | exact Take.there Take.here | exact Take.there (Take.there Take.here) | exact Take.there (Take.there (Take.there Take.here)) | exact Take.none _ | exact TakeC.t | exact Take.there (Take.there (Take.there (Take.there Take.here))) | exact Take.there (Take.there (Take.there (Take.there (Take.there Take.here)))) | exact Take.there (Take.there (Take.there (Take.there (Take.there (Take.there Take.here)))))) (fun v18 => ?_)
  refine Wl.exm (fun b => ?_)
  refine Wl.pull (fun hb => ?_)
  subst hb
  generalize he : (enc ⟨3, [head, L.time, least], []⟩).1 = eb at *
  generalize (enc ⟨3, [head, L.time, least], []⟩).2 = ec
  refine Wl.ent (H' := own T_uint8 1 b eb.length (bytesV eb) * (LogB lp d cp lv L * (Dev d D * F))) Ent.auto ?_
  refine Wl.know (fun g w s => Vw.of_own T_uint8 1 b eb.length (bytesV eb) g w (s.ent (Ent.left _ _))) (fun hv => ?_)
  refine Wl.val rfl (V.move rfl) ?_
  refine Wl.val rfl (V.ext rfl rfl) ?_
  refine Wl.val rfl (V.ext rfl rfl) ?_
  refine Wl.val rfl (V.assign rfl) ?_
  refine Wl.val rfl (V.assign rfl) ?_
  refine Wl.nil ?_
  refine Wx.then_n ?_
  refine Wc.seq ?_
  refine Wc.draws 6 mixed (by kernel_rfl) (S := _) (M := emp) (Ent.empR _) ?_
  refine Wr.take [0, 1, 2, 3, 4, 5] 0 (by kernel_rfl) (by kernel_rfl) rfl rfl ?_
  refine Wt.val rfl (V.move rfl) ?_
  refine Wt.val rfl (V.nil rfl) ?_
  refine Wt.val rfl (V.fld _ rfl O_log_Log_3 rfl) ?_
  refine Wt.val rfl (V.ld rfl C_Pcell_Cell rfl) ?_
  refine Wt.val rfl (V.move rfl) ?_
  refine Wt.val rfl (V.b2sW rfl U_Suint8 U_uint8 U_string hv) ?_
  refine Wt.nil ?_
  refine Wr.tail (by kernel_rfl) rfl ?_
  refine Wl.ent (H' := CellB cp d L.cell * (Dev d D * (row lp T_log_Log [ptr d, i64 L.first, i64 L.n, ptr cp, i64 L.head, i64 L.time, i64 L.least, lv] * (own T_log_item 2 lv L.items.length (itemsV L.items) * F)))) Ent.auto ?_
  first | refine Wl.callE rfl rfl (s_cell_Cell_Put cp d hL.dev hL.cellOk eb) ?_ | refine Wl.callD rfl rfl (s_cell_Cell_Put cp d hL.dev hL.cellOk eb) (Take.two Take.here Take.here) ?_
  refine Wl.val rfl (V.assign rfl) ?_
  refine Wl.nil ?_
  refine Wx.then_n ?_
  refine Wc.ret ?_
  repeat (first | refine Wx.then_r ?_ | refine Wx.blk_r ?_ | refine Wx.ng_r ?_)
  refine Wx.ret1 rfl rfl rfl ?_
  subst he
  show Ent _ (pu (_ = i64 (cellPut D L.cell (enc ⟨3, [head, L.time, least], []⟩).1).2.2) * (LogB lp d cp lv { L with cell := (cellPut D L.cell (enc ⟨3, [head, L.time, least], []⟩).1).2.1 } * Dev d (cellPut D L.cell (enc ⟨3, [head, L.time, least], []⟩).1).1) * F)
  exact Ent.resC rfl
theorem s_log_Log_Sync (lp d : Nat) {D : DevM} (L : LogM) (hD : DevOk D) : Ctr P f_log_Log_Sync [ptr lp] (Log lp d L * Dev d D) (fun v => pu (v = i64 (devBarrier D).2) * (Log lp d L * Dev d (devBarrier D).1)) := by
  refine Ctr.of_body (m := 8) fn_log_Log_Sync rfl rfl rfl rfl rfl (fun F g => ?_)
  refine Wc.assoc (Wc.log (fun cp lv => ?_))
  refine Wc.seq ?_
  refine Wc.region ?_
  refine Wl.val rfl (V.assign rfl) ?_
  refine Wl.nil ?_
  refine Wx.then_n ?_
  refine Wc.seq ?_
  refine Wc.region ?_
  refine Wl.val rfl (V.move rfl) ?_
  refine Wl.val rfl (V.nil rfl) ?_
  refine Wl.val rfl (V.fld _ rfl O_log_Log_0 rfl) ?_
  refine Wl.val rfl (V.ld rfl C_Psector_Dev rfl) ?_
  first | refine Wl.callE rfl rfl (s_sector_Dev_Barrier d hD) ?_ | refine Wl.callD rfl rfl (s_sector_Dev_Barrier d hD) (by first | exact Take.here | exact Take.there Take.here | exact Take.there (Take.there Take.here) | exact Take.there (Take.there (Take.there Take.here)) | exact Take.none _ | exact TakeC.t | exact Take.there (Take.there (Take.there (Take.there Take.here))) | exact Take.there (Take.there (Take.there (Take.there (Take.there Take.here)))) | exact Take.there (Take.there (Take.there (Take.there (Take.there (Take.there Take.here)))))) ?_
  refine Wl.val rfl (V.assign rfl) ?_
  refine Wl.nil ?_
  refine Wx.then_n ?_
  refine Wc.ret ?_
  repeat (first | refine Wx.then_r ?_ | refine Wx.blk_r ?_ | refine Wx.ng_r ?_)
  refine Wx.ret1 rfl rfl rfl ?_
  refine Ent.log (lp := lp) (d := d) (cp := cp) (lv := lv) rfl
theorem s_log_Log_Append (lp d : Nat) {D : DevM} {L : LogM} (hL : LogOk D L) (s : List UInt8) : Ctr P f_log_Log_Append [ptr lp, str s] (Log lp d L * Dev d D) (fun v => pu (v = i64 (logAppend D L s).2.2) * (Log lp d (logAppend D L s).2.1 * Dev d (logAppend D L s).1)) := by
  have hn := hL.n
  have hn' := hL.n'
  have hh := hL.head
  have hh' := hL.head'
  have hi := hL.items'
  have ht := hL.time
  have hf := hL.fits
  have hdn := hL.dev.n
  have hta := hL.tail
  have h2 : ∀ n ∈ [logTail L, L.time], I64 n := by intro n hn; simp at hn; unfold I64; unfold logTail at *; rcases hn with rfl | rfl <;> omega
  refine Ctr.of_body (m := 56) fn_log_Log_Append rfl rfl rfl rfl rfl (fun F g => ?_)
  refine Wc.assoc (Wc.log (fun cp lv => ?_))
  refine Wc.know (fun g w s => LogB.own lp d cp lv L g w (s.ent (Ent.left _ _))) (fun hv => ?_)
  refine Wc.seq ?_
  refine Wc.region ?_
  refine Wl.val rfl (V.assign rfl) ?_
  refine Wl.nil ?_
  refine Wx.then_n ?_
  refine Wc.seq ?_
  refine Wc.block ?_
  refine Wc.seq ?_
  refine Wc.region ?_
  refine Wl.val rfl (V.move rfl) ?_
  refine Wl.val rfl (V.lenT rfl U_string) ?_
  refine Wl.val rfl (V.gtr rfl rfl) ?_
  refine Wl.val rfl (V.assign rfl) ?_
  refine Wl.nil ?_
  refine Wx.then_n ?_
  refine Wc.cond rfl (fun hc1 => ?_) (fun hc1 => ?_)
  · skip
    try replace hc1 := of_decide_eq_true hc1
    refine Wc.seq ?_
    refine Wc.region ?_
    refine Wl.val rfl (V.assign rfl) ?_
    refine Wl.nil ?_
    refine Wx.then_n ?_
    refine Wc.ret ?_
    repeat (first | refine Wx.then_r ?_ | refine Wx.blk_r ?_ | refine Wx.ng_r ?_)
    refine Wx.ret1 rfl rfl rfl ?_
    rw [logAppend, if_pos (by omega)]; exact Ent.log (cp := cp) (lv := lv) rfl
  · skip
    try replace hc1 := of_decide_eq_false hc1
    refine Wc.seq ?_
    refine Wc.region ?_
    refine Wl.val rfl (V.move rfl) ?_
    first | refine Wl.callE rfl rfl (s_log_Log_Free lp d cp lv L (by omega) (by omega)) ?_ | refine Wl.callD rfl rfl (s_log_Log_Free lp d cp lv L (by omega) (by omega)) (by first | exact Take.here | exact Take.there Take.here | exact Take.there (Take.there Take.here) | exact Take.there (Take.there (Take.there Take.here)) | exact Take.none _ | exact TakeC.t | exact Take.there (Take.there (Take.there (Take.there Take.here))) | exact Take.there (Take.there (Take.there (Take.there (Take.there Take.here)))) | exact Take.there (Take.there (Take.there (Take.there (Take.there (Take.there Take.here)))))) ?_
    refine Wl.val rfl (V.eql rfl rfl) ?_
    refine Wl.val rfl (V.assign rfl) ?_
    refine Wl.nil ?_
    refine Wx.then_n ?_
    refine Wc.cond rfl (fun hc2 => ?_) (fun hc2 => ?_)
    · skip
      try replace hc2 := of_decide_eq_true hc2
      refine Wc.seq ?_
      refine Wc.region ?_
      refine Wl.val rfl (V.assign rfl) ?_
      refine Wl.nil ?_
      refine Wx.then_n ?_
      refine Wc.ret ?_
      repeat (first | refine Wx.then_r ?_ | refine Wx.blk_r ?_ | refine Wx.ng_r ?_)
      refine Wx.ret1 rfl rfl rfl ?_
      rw [logAppend, if_neg (by omega), if_pos (by assumption)]; exact Ent.log (cp := cp) (lv := lv) rfl
    · skip
      try replace hc2 := of_decide_eq_false hc2
      refine Wc.seq ?_
      refine Wc.region ?_
      refine Wl.val rfl (V.move rfl) ?_
      first | refine Wl.callE rfl rfl (s_log_Log_Tail lp d cp lv L (by omega) (by omega)) ?_ | refine Wl.callD rfl rfl (s_log_Log_Tail lp d cp lv L (by omega) (by omega)) (by first | exact Take.here | exact Take.there Take.here | exact Take.there (Take.there Take.here) | exact Take.there (Take.there (Take.there Take.here)) | exact Take.none _ | exact TakeC.t | exact Take.there (Take.there (Take.there (Take.there Take.here))) | exact Take.there (Take.there (Take.there (Take.there (Take.there Take.here)))) | exact Take.there (Take.there (Take.there (Take.there (Take.there (Take.there Take.here)))))) ?_
      refine Wl.val rfl (V.geq rfl rfl) ?_
      refine Wl.val rfl (V.assign rfl) ?_
      refine Wl.nil ?_
      refine Wx.then_n ?_
      refine Wc.cond rfl (fun hc3 => ?_) (fun hc3 => ?_)
      · skip
        try replace hc3 := of_decide_eq_true hc3
        refine Wc.seq ?_
        refine Wc.region ?_
        refine Wl.val rfl (V.assign rfl) ?_
        refine Wl.nil ?_
        refine Wx.then_n ?_
        refine Wc.ret ?_
        repeat (first | refine Wx.then_r ?_ | refine Wx.blk_r ?_ | refine Wx.ng_r ?_)
        refine Wx.ret1 rfl rfl rfl ?_
        rw [logAppend, if_neg (by omega), if_neg (by assumption), if_pos (by assumption)]; exact Ent.log (cp := cp) (lv := lv) rfl
      · skip
        try replace hc3 := of_decide_eq_false hc3
        refine Wc.skip ?_
        refine Wx.blk_n ?_
        refine Wx.then_n ?_
        refine Wc.cut (LogB lp d cp lv L * (Dev d (devWrite D (logPlace L (logTail L)) (framed (enc ⟨2, [logTail L, L.time], [s]⟩).1)).1 * F)) ([(0, ptr lp), (1, str s), (5, i64 (devWrite D (logPlace L (logTail L)) (framed (enc ⟨2, [logTail L, L.time], [s]⟩).1)).2)]) ?_ ?_
        · skip
          refine Wc.draws 19 mixed (by kernel_rfl) (S := LogB lp d cp lv L) (M := Dev d D * F) (Ent.auto) ?_
          refine Wr.take [0, 1, 2, 3, 4, 5, 6, 7, 8, 9, 10, 11, 12, 13, 15] 4 (by kernel_rfl) (by kernel_rfl) rfl rfl ?_
          refine Wt.val rfl (V.move rfl) ?_
          refine Wt.val rfl (V.nil rfl) ?_
          refine Wt.val rfl (V.fld _ rfl O_log_Log_0 rfl) ?_
          refine Wt.val rfl (V.ld rfl C_Psector_Dev rfl) ?_
          refine Wt.val rfl (V.move rfl) ?_
          refine Wt.val rfl (V.move rfl) ?_
          refine Wt.call rfl rfl (s_log_Log_Tail lp d cp lv L (by omega) (by omega)) (by first | exact Take.here | exact Take.there Take.here | exact Take.there (Take.there Take.here) | exact Take.there (Take.there (Take.there Take.here)) | exact Take.none _ | exact TakeC.t | exact Take.there (Take.there (Take.there (Take.there Take.here))) | exact Take.there (Take.there (Take.there (Take.there (Take.there Take.here)))) | exact Take.there (Take.there (Take.there (Take.there (Take.there (Take.there Take.here)))))) ?_
          refine Wt.call rfl rfl (s_log_Log_place lp d cp lv L (logTail L) (by unfold logTail at *; omega) (by omega) (by omega)) (by first | exact Take.here | exact Take.there Take.here | exact Take.there (Take.there Take.here) | exact Take.there (Take.there (Take.there Take.here)) | exact Take.none _ | exact TakeC.t | exact Take.there (Take.there (Take.there (Take.there Take.here))) | exact Take.there (Take.there (Take.there (Take.there (Take.there Take.here)))) | exact Take.there (Take.there (Take.there (Take.there (Take.there (Take.there Take.here)))))) ?_
          refine Wt.val rfl (V.move rfl) ?_
          refine Wt.call rfl rfl (s_log_Log_Tail lp d cp lv L (by omega) (by omega)) (by first | exact Take.here | exact Take.there Take.here | exact Take.there (Take.there Take.here) | exact Take.there (Take.there (Take.there Take.here)) | exact Take.none _ | exact TakeC.t | exact Take.there (Take.there (Take.there (Take.there Take.here))) | exact Take.there (Take.there (Take.there (Take.there (Take.there Take.here)))) | exact Take.there (Take.there (Take.there (Take.there (Take.there (Take.there Take.here)))))) ?_
          refine Wt.val rfl (V.move rfl) ?_
          refine Wt.val rfl (V.nil rfl) ?_
          refine Wt.val rfl (V.fld _ rfl O_log_Log_5 rfl) ?_
          refine Wt.val rfl (V.ld rfl C_int64 rfl) ?_
          refine Wt.val rfl (V.move rfl) ?_
          refine Wt.nil ?_
          refine Wr.any [14, 16] 3 (by kernel_rfl) rfl rfl ?_
          refine Wm.al rfl rfl rfl (M.slice U_Sint64 L_Sint64.size N_int64 rfl (by decide) rfl rfl) (fun r32 => ?_) ?_
          · skip
            refine Wr.any [16] 2 (by kernel_rfl) rfl rfl ?_
            refine Wm.al rfl rfl rfl (M.slice U_Sstring L_Sstring.size N_string rfl (by decide) rfl rfl) (fun r34 => ?_) ?_
            · skip
              refine Wr.take [17] 1 (by kernel_rfl) (by kernel_rfl) rfl rfl ?_
              refine Wt.val rfl (V.build B_api_Rec rfl rfl) ?_
              refine Wt.nil ?_
              refine Wr.any [18] 0 (by kernel_rfl) rfl rfl ?_
              refine Wm.callM rfl rfl rfl rfl (s_log_framed' (S := row r32 T_int64 [i64 (logTail L), i64 L.time] * row r34 T_string [str s]) ⟨2, [logTail L, L.time], [s]⟩ h2 (Vw.lift (S := row r32 T_int64 [i64 (logTail L), i64 L.time]) (Vw.row (by decide) (by decide) rfl (fun j x h => by rw [Nat.zero_add]; exact h))) (Vw.lift (S := row r34 T_string [str s]) (Vw.row (by decide) (by decide) rfl (fun j x h => by rw [Nat.zero_add]; exact h))) (by have := enc_item_len (a := logTail L) (b := L.time) (s := s) (by omega); omega)) (by first | exact Take.two Take.here Take.here | exact Take.two (Take.there Take.here) Take.here) (fun x36 => ?_) ?_
              · skip
                refine Wr.tail (by kernel_rfl) rfl ?_
                refine Wl.ent (H' := own T_uint8 1 x36 (framed (enc ⟨2, [logTail L, L.time], [s]⟩).1).length (bytesV (framed (enc ⟨2, [logTail L, L.time], [s]⟩).1)) * (LogB lp d cp lv L * (Dev d D * F))) Ent.auto ?_
                refine Wl.know (fun g w s => Vw.of_own T_uint8 1 _ _ _ g w (s.ent (Ent.left _ _))) (fun hvf => ?_)
                first | refine Wl.callE rfl rfl (s_sector_Dev_Write d hL.dev (logPlace L (logTail L)) hvf) ?_ | refine Wl.callD rfl rfl (s_sector_Dev_Write d hL.dev (logPlace L (logTail L)) hvf) (Take.two (Take.there (Take.there Take.here)) Take.here) ?_
                refine Wl.val rfl (V.assign rfl) ?_
                refine Wl.nil ?_
                exact Wx.cutn Ent.auto (by repeat (first | exact trivial | refine ⟨rfl, ?_⟩))
              exact Wm.nil
            exact Wm.nil
          refine Wm.al rfl rfl rfl (M.slice U_Sstring L_Sstring.size N_string rfl (by decide) rfl rfl) (fun r34 => ?_) ?_
          · skip
            refine Wr.any [14] 2 (by kernel_rfl) rfl rfl ?_
            refine Wm.al rfl rfl rfl (M.slice U_Sint64 L_Sint64.size N_int64 rfl (by decide) rfl rfl) (fun r32 => ?_) ?_
            · skip
              refine Wr.take [17] 1 (by kernel_rfl) (by kernel_rfl) rfl rfl ?_
              refine Wt.val rfl (V.build B_api_Rec rfl rfl) ?_
              refine Wt.nil ?_
              refine Wr.any [18] 0 (by kernel_rfl) rfl rfl ?_
              refine Wm.callM rfl rfl rfl rfl (s_log_framed' (S := row r32 T_int64 [i64 (logTail L), i64 L.time] * row r34 T_string [str s]) ⟨2, [logTail L, L.time], [s]⟩ h2 (Vw.lift (S := row r32 T_int64 [i64 (logTail L), i64 L.time]) (Vw.row (by decide) (by decide) rfl (fun j x h => by rw [Nat.zero_add]; exact h))) (Vw.lift (S := row r34 T_string [str s]) (Vw.row (by decide) (by decide) rfl (fun j x h => by rw [Nat.zero_add]; exact h))) (by have := enc_item_len (a := logTail L) (b := L.time) (s := s) (by omega); omega)) (by first | exact Take.two Take.here Take.here | exact Take.two (Take.there Take.here) Take.here) (fun x36 => ?_) ?_
              · skip
                refine Wr.tail (by kernel_rfl) rfl ?_
                refine Wl.ent (H' := own T_uint8 1 x36 (framed (enc ⟨2, [logTail L, L.time], [s]⟩).1).length (bytesV (framed (enc ⟨2, [logTail L, L.time], [s]⟩).1)) * (LogB lp d cp lv L * (Dev d D * F))) Ent.auto ?_
                refine Wl.know (fun g w s => Vw.of_own T_uint8 1 _ _ _ g w (s.ent (Ent.left _ _))) (fun hvf => ?_)
                first | refine Wl.callE rfl rfl (s_sector_Dev_Write d hL.dev (logPlace L (logTail L)) hvf) ?_ | refine Wl.callD rfl rfl (s_sector_Dev_Write d hL.dev (logPlace L (logTail L)) hvf) (Take.two (Take.there (Take.there Take.here)) Take.here) ?_
                refine Wl.val rfl (V.assign rfl) ?_
                refine Wl.nil ?_
                exact Wx.cutn Ent.auto (by repeat (first | exact trivial | refine ⟨rfl, ?_⟩))
              exact Wm.nil
            exact Wm.nil
          exact Wm.nil
        · skip
          generalize hq : devWrite D (logPlace L (logTail L)) (framed (enc ⟨2, [logTail L, L.time], [s]⟩).1) = q
          obtain ⟨D', e'⟩ := q
          have hap := logAppend_w (by omega) (by assumption) (by assumption) hq
          refine Wc.seq ?_
          refine Wc.seq ?_
          refine Wc.region ?_
          refine Wl.val rfl (V.move rfl) ?_
          refine Wl.val rfl (V.eql rfl rfl) ?_
          refine Wl.nil ?_
          refine Wx.then_n ?_
          refine Wc.cond rfl (fun hc4 => ?_) (fun hc4 => ?_)
          · skip
            try replace hc4 := of_decide_eq_true hc4
            refine Wc.draws 13 mixed (by kernel_rfl) (S := row lp T_log_Log [ptr d, i64 L.first, i64 L.n, ptr cp, i64 L.head, i64 L.time, i64 L.least, lv] * (CellB cp d L.cell * (Dev d D' * F))) (M := own T_log_item 2 lv L.items.length (itemsV L.items) * emp) (Ent.auto) ?_
            refine Wr.take [0, 1, 2, 3, 4, 5, 6, 7, 8, 9, 10] 2 (by kernel_rfl) (by kernel_rfl) rfl rfl ?_
            refine Wt.val rfl (V.move rfl) ?_
            refine Wt.val rfl (V.move rfl) ?_
            refine Wt.val rfl (V.nil rfl) ?_
            refine Wt.val rfl (V.fld _ rfl O_log_Log_7 rfl) ?_
            refine Wt.val rfl (V.ld rfl C_Slog_item rfl) ?_
            refine Wt.val rfl (V.move rfl) ?_
            refine Wt.val rfl (V.move rfl) ?_
            refine Wt.val rfl (V.nil rfl) ?_
            refine Wt.val rfl (V.fld _ rfl O_log_Log_5 rfl) ?_
            refine Wt.val rfl (V.ld rfl C_int64 rfl) ?_
            refine Wt.val rfl (V.build B_log_item rfl rfl) ?_
            refine Wt.nil ?_
            refine Wr.any [11] 1 (by kernel_rfl) rfl rfl ?_
            refine Wm.al rfl rfl rfl (M.slice U_Slog_item L_Slog_item.size N_log_item rfl (by decide) rfl rfl) (fun r51 => ?_) ?_
            · skip
              refine Wr.any [12] 0 (by kernel_rfl) rfl rfl ?_
              refine Wm.app rfl rfl rfl (X.append L_Slog_item rfl rfl (Take.there (Take.there Take.here)) (Src.row U_Slog_item rfl rfl) (by unfold maxLen; omega) (by omega)) (fun v52 => ?_) ?_
              · skip
                refine Wr.tail (by kernel_rfl) rfl ?_
                refine Wl.ent (H' := own T_log_item 2 v52 (L.items.length + 1) (itemsV L.items ++ [str s, i64 L.time]) * (row lp T_log_Log [ptr d, i64 L.first, i64 L.n, ptr cp, i64 L.head, i64 L.time, i64 L.least, lv] * (CellB cp d L.cell * (Dev d D' * F)))) Ent.auto ?_
                refine Wl.know (fun g w s => own_one s) (fun hone => ?_)
                refine Wl.val rfl (V.nil rfl) ?_
                refine Wl.val rfl (V.fld _ rfl O_log_Log_7 rfl) ?_
                refine Wl.st (Go.Sl.S.put rfl rfl C_Slog_item hone rfl) ?_
                refine Wl.nil ?_
                refine Wx.then_n ?_
                refine Wc.seq ?_
                refine Wc.region ?_
                refine Wl.val rfl (V.move rfl) ?_
                refine Wl.val rfl (V.assign rfl) ?_
                refine Wl.nil ?_
                refine Wx.then_n ?_
                refine Wc.ret ?_
                repeat (first | refine Wx.then_r ?_ | refine Wx.blk_r ?_ | refine Wx.ng_r ?_)
                refine Wx.ret1 rfl rfl rfl ?_
                rw [hap, if_pos hc4]
                rw [show (D', e').2 = 0 from hc4]
                refine Ent.trans ((own_to (n' := (L.items ++ [(s, L.time)]).length) (xs' := itemsV (L.items ++ [(s, L.time)])) (by simp) (by simp [itemsV])).frame _) ?_
                exact Ent.log (cp := cp) (lv := v52) rfl
              exact Wm.nil
            exact Wm.nil
          · skip
            try replace hc4 := of_decide_eq_false hc4
            refine Wc.skip ?_
            refine Wx.then_n ?_
            refine Wc.seq ?_
            refine Wc.region ?_
            refine Wl.val rfl (V.move rfl) ?_
            refine Wl.val rfl (V.assign rfl) ?_
            refine Wl.nil ?_
            refine Wx.then_n ?_
            refine Wc.ret ?_
            repeat (first | refine Wx.then_r ?_ | refine Wx.blk_r ?_ | refine Wx.ng_r ?_)
            refine Wx.ret1 rfl rfl rfl ?_
            rw [hap, if_neg hc4]
            exact Ent.log (cp := cp) (lv := lv) rfl
theorem Ctr.exPre {P : Program} {α : Type} {f : FuncId} {args : List Value} {A : α → HP} {Φ : Value → HP} (hf : ∀ vs w, (callFunc f vs).run P w = .ok (.enter f vs) w) (h : ∀ x, Ctr P f args (A x) Φ) : Ctr P f args (ex A) Φ where
  enters := hf
  calls := fun F g w s => by
    rw [ex_mul] at s
    obtain ⟨x, s⟩ := s.exE
    exact (h x).calls F g w s
theorem s_log_Log_SyncB (lp d cp : Nat) (lv : Value) {D : DevM} (L : LogM) (hD : DevOk D) : Ctr P f_log_Log_Sync [ptr lp] (LogB lp d cp lv L * Dev d D) (fun v => pu (v = i64 (devBarrier D).2) * (LogB lp d cp lv L * Dev d (devBarrier D).1)) := by
  refine Ctr.of_body (m := 8) fn_log_Log_Sync rfl rfl rfl rfl rfl (fun F g => ?_)
  refine Wc.seq ?_
  refine Wc.region ?_
  refine Wl.val rfl (V.assign rfl) ?_
  refine Wl.nil ?_
  refine Wx.then_n ?_
  refine Wc.seq ?_
  refine Wc.region ?_
  refine Wl.val rfl (V.move rfl) ?_
  refine Wl.val rfl (V.nil rfl) ?_
  refine Wl.val rfl (V.fld _ rfl O_log_Log_0 rfl) ?_
  refine Wl.val rfl (V.ld rfl C_Psector_Dev rfl) ?_
  first | refine Wl.callE rfl rfl (s_sector_Dev_Barrier d hD) ?_ | refine Wl.callD rfl rfl (s_sector_Dev_Barrier d hD) (by first | exact Take.here | exact Take.there Take.here | exact Take.there (Take.there Take.here) | exact Take.there (Take.there (Take.there Take.here)) | exact Take.none _ | exact TakeC.t | exact Take.there (Take.there (Take.there (Take.there Take.here))) | exact Take.there (Take.there (Take.there (Take.there (Take.there Take.here)))) | exact Take.there (Take.there (Take.there (Take.there (Take.there (Take.there Take.here)))))) ?_
  refine Wl.val rfl (V.assign rfl) ?_
  refine Wl.nil ?_
  refine Wx.then_n ?_
  refine Wc.ret ?_
  repeat (first | refine Wx.then_r ?_ | refine Wx.blk_r ?_ | refine Wx.ng_r ?_)
  refine Wx.ret1 rfl rfl rfl ?_
  first | exact Ent.resF rfl | exact Ent.resC rfl | exact Ent.refl _ | exact Ent.auto
theorem s_slices_Clone_log_item' {S : HP} {v : Value} {n : Nat} {xs : List Value} (hw : Vw S v 2 n xs) (h1 : ∀ x ∈ xs, x.oneCell' = true) (hn : n ≤ 1000000) : Ctr P f_slices_Clone_log_item [v] S (fun r => ex fun (x : Value) => pu (r = x) * (own T_log_item 2 x n xs * S)) := (s_slices_Clone_log_item hw h1 hn).mono fun v => Ent.ex v (Ent.pure rfl)
theorem itemsV_sub (l : List (List UInt8 × Int)) (k : Nat) (h : k ≤ l.length) : ((itemsV l).drop (k * 2)).take ((l.length - k) * 2) = itemsV (l.drop k) := by
  rw [itemsV_drop, List.take_of_length_le]
  rw [itemsV_length]; simp
theorem s_log_Log_Trim (lp d : Nat) {D : DevM} {L : LogM} (hL : LogOk D L) (k : Int) (hk : I64 k) : Ctr P f_log_Log_Trim [ptr lp, i64 k] (Log lp d L * Dev d D) (fun v => pu (v = i64 (logTrim D L k).2.2) * (Log lp d (logTrim D L k).2.1 * Dev d (logTrim D L k).1)) := by
  have hn := hL.n
  have hn' := hL.n'
  have hh := hL.head
  have hh' := hL.head'
  have hi := hL.items'
  have hta := hL.tail
  have hle := hL.least
  refine Ctr.of_body (m := 76) fn_log_Log_Trim rfl rfl rfl rfl rfl (fun F g => ?_)
  refine Wc.assoc (Wc.log (fun cp lv => ?_))
  refine Wc.know (fun g w s => LogB.own lp d cp lv L g w (s.ent (Ent.left _ _))) (fun hv => ?_)
  refine Wc.seq ?_
  refine Wc.region ?_
  refine Wl.val rfl (V.assign rfl) ?_
  refine Wl.nil ?_
  refine Wx.then_n ?_
  refine Wc.seq ?_
  refine Wc.seq ?_
  refine Wc.quiet mixed (by kernel_rfl) ?_
  refine Wq.val rfl (V.move rfl) ?_
  refine Wq.val rfl (V.move rfl) ?_
  refine Wq.val rfl (V.nil rfl) ?_
  refine Wq.val rfl (V.fld _ rfl O_log_Log_4 rfl) ?_
  refine Wq.val rfl (V.ld rfl C_int64 rfl) ?_
  refine Wq.val rfl (V.move rfl) ?_
  refine Wq.call rfl rfl (s_log_Log_Tail lp d cp lv L (by omega) (by omega)) (by first | exact Take.here | exact Take.there Take.here | exact Take.there (Take.there Take.here) | exact Take.there (Take.there (Take.there Take.here)) | exact Take.none _ | exact TakeC.t | exact Take.there (Take.there (Take.there (Take.there Take.here))) | exact Take.there (Take.there (Take.there (Take.there (Take.there Take.here)))) | exact Take.there (Take.there (Take.there (Take.there (Take.there (Take.there Take.here)))))) ?_
  refine Wq.call rfl rfl (s_log_within k L.head (logTail L)) (by first | exact Take.here | exact Take.there Take.here | exact Take.there (Take.there Take.here) | exact Take.there (Take.there (Take.there Take.here)) | exact Take.none _ | exact TakeC.t | exact Take.there (Take.there (Take.there (Take.there Take.here))) | exact Take.there (Take.there (Take.there (Take.there (Take.there Take.here)))) | exact Take.there (Take.there (Take.there (Take.there (Take.there (Take.there Take.here)))))) ?_
  refine Wq.val rfl (V.not rfl) ?_
  refine Wq.nil ?_
  refine Wx.then_n ?_
  refine Wc.cond rfl (fun hc1 => ?_) (fun hc1 => ?_)
  · skip
    try replace hc1 := of_decide_eq_true hc1
    refine Wc.seq ?_
    refine Wc.region ?_
    refine Wl.val rfl (V.assign rfl) ?_
    refine Wl.nil ?_
    refine Wx.then_n ?_
    refine Wc.ret ?_
    repeat (first | refine Wx.then_r ?_ | refine Wx.blk_r ?_ | refine Wx.ng_r ?_)
    refine Wx.ret1 rfl rfl rfl ?_
    rw [logTrim, if_pos (by assumption)]; exact Ent.log (cp := cp) (lv := lv) rfl
  · skip
    try replace hc1 := of_decide_eq_false hc1
    have hw : L.head ≤ k ∧ k ≤ logTail L := withinB_iff.1 (by simpa using hc1)
    have hlt : logTail L = L.head + L.items.length := rfl
    refine Wc.skip ?_
    refine Wx.then_n ?_
    refine Wc.seq ?_
    refine Wc.seq ?_
    refine Wc.region ?_
    refine Wl.val rfl (V.move rfl) ?_
    first | refine Wl.callE rfl rfl (s_log_Log_SyncB lp d cp lv L hL.dev) ?_ | refine Wl.callD rfl rfl (s_log_Log_SyncB lp d cp lv L hL.dev) (by first | exact Take.here | exact Take.there Take.here | exact Take.there (Take.there Take.here) | exact Take.there (Take.there (Take.there Take.here)) | exact Take.none _ | exact TakeC.t | exact Take.there (Take.there (Take.there (Take.there Take.here))) | exact Take.there (Take.there (Take.there (Take.there (Take.there Take.here)))) | exact Take.there (Take.there (Take.there (Take.there (Take.there (Take.there Take.here)))))) ?_
    refine Wl.val rfl (V.assign rfl) ?_
    refine Wl.nil ?_
    refine Wx.then_n ?_
    refine Wc.seq ?_
    refine Wc.region ?_
    refine Wl.val rfl (V.move rfl) ?_
    refine Wl.val rfl (V.neq rfl rfl) ?_
    refine Wl.nil ?_
    refine Wx.then_n ?_
    refine Wc.cond rfl (fun hc2 => ?_) (fun hc2 => ?_)
    · skip
      try replace hc2 := of_decide_eq_true hc2
      refine Wc.seq ?_
      refine Wc.region ?_
      refine Wl.val rfl (V.move rfl) ?_
      refine Wl.val rfl (V.assign rfl) ?_
      refine Wl.nil ?_
      refine Wx.then_n ?_
      refine Wc.ret ?_
      repeat (first | refine Wx.then_r ?_ | refine Wx.blk_r ?_ | refine Wx.ng_r ?_)
      refine Wx.ret1 rfl rfl rfl ?_
      rw [logTrim, if_neg (by simp [hc1]), if_pos (by simpa using hc2)]; exact Ent.log (cp := cp) (lv := lv) rfl
    · skip
      try replace hc2 := of_decide_eq_false hc2
      have hb : (devBarrier D).2 = 0 := by simpa using hc2
      refine Wc.skip ?_
      refine Wx.then_n ?_
      refine Wc.seq ?_
      refine Wc.region ?_
      refine Wl.val rfl (V.move rfl) ?_
      refine Wl.val rfl (V.nil rfl) ?_
      refine Wl.val rfl (V.fld _ rfl O_log_Log_6 rfl) ?_
      refine Wl.val rfl (V.ld rfl C_int64 rfl) ?_
      refine Wl.val rfl (V.assign rfl) ?_
      refine Wl.nil ?_
      refine Wx.then_n ?_
      refine Wc.cut (LogB lp d cp lv L * (Dev d (devBarrier D).1 * F)) ([(0, ptr lp), (1, i64 k), (6, i64 (trimLeast L k))]) ?_ ?_
      · skip
        refine Wc.seq ?_
        refine Wc.region ?_
        refine Wl.val rfl (V.move rfl) ?_
        refine Wl.val rfl (V.move rfl) ?_
        refine Wl.val rfl (V.nil rfl) ?_
        refine Wl.val rfl (V.fld _ rfl O_log_Log_4 rfl) ?_
        refine Wl.val rfl (V.ld rfl C_int64 rfl) ?_
        refine Wl.val rfl (V.gtr rfl rfl) ?_
        refine Wl.nil ?_
        refine Wx.then_n ?_
        refine Wc.cond rfl (fun hc3 => ?_) (fun hc3 => ?_)
        · skip
          try replace hc3 := of_decide_eq_true hc3
          obtain ⟨p, hp⟩ : ∃ p, L.items[(k - L.head - 1).toNat]? = some p := ⟨_, List.getElem?_eq_getElem (by omega)⟩
          have htl : trimLeast L k = p.2 := by unfold trimLeast; rw [if_pos hc3, List.getD_eq_getElem?_getD, hp]; rfl
          refine Wc.quiet mixed (by kernel_rfl) ?_
          refine Wq.val rfl (V.move rfl) ?_
          refine Wq.val rfl (V.nil rfl) ?_
          refine Wq.val rfl (V.fld _ rfl O_log_Log_7 rfl) ?_
          refine Wq.val rfl (V.ld rfl C_Slog_item rfl) ?_
          refine Wq.val rfl (V.move rfl) ?_
          refine Wq.val rfl (V.move rfl) ?_
          refine Wq.val rfl (V.nil rfl) ?_
          refine Wq.val rfl (V.fld _ rfl O_log_Log_4 rfl) ?_
          refine Wq.val rfl (V.ld rfl C_int64 rfl) ?_
          refine Wq.val rfl (V.subk rfl rfl (wr64 (by omega) (by omega))) ?_
          refine Wq.val rfl (V.subk rfl rfl (wr64 (by omega) (by omega))) ?_
          refine Wq.val rfl (V.idxW rfl rfl U_Slog_item Z_log_item hv (by omega) (by omega)) ?_
          refine Wq.val rfl (V.fldW ((k - L.head - 1).toNat * 2 + 1) rfl O_log_item_1 hv (by omega) rfl) ?_
          refine Wq.val rfl (V.ldW (u := i64 p.2) rfl C_int64 hv (itemsV_get1 hp)) ?_
          refine Wq.val rfl (V.assign rfl) ?_
          refine Wq.nil ?_
          exact Wx.cutn Ent.auto ⟨rfl, rfl, by rw [htl]; rfl, trivial⟩
        · skip
          try replace hc3 := of_decide_eq_false hc3
          refine Wc.skip ?_
          have htl : trimLeast L k = L.least := by unfold trimLeast; rw [if_neg hc3]
          exact Wx.cutn Ent.auto ⟨rfl, rfl, by rw [htl]; rfl, trivial⟩
      · skip
        have hb : (devBarrier D).2 = 0 := by simpa using hc2
        have hlB := hL.barrier
        generalize hq : logPut (devBarrier D).1 L k (trimLeast L k) = q
        obtain ⟨D', L', e'⟩ := q
        have hgo := logTrim_go hw hb hq
        obtain ⟨C', rfl⟩ : ∃ C', L' = { L with cell := C' } := ⟨_, logPut_keeps hq⟩
        refine Wc.seq ?_
        refine Wc.region ?_
        refine Wl.val rfl (V.move rfl) ?_
        refine Wl.val rfl (V.move rfl) ?_
        refine Wl.val rfl (V.move rfl) ?_
        first | refine Wl.callE rfl rfl (s_log_Log_put lp d cp lv hlB k (trimLeast L k) hk (trimLeast_I64 hL k)) ?_ | refine Wl.callD rfl rfl (s_log_Log_put lp d cp lv hlB k (trimLeast L k) hk (trimLeast_I64 hL k)) (by first | exact Take.here | exact Take.there Take.here | exact Take.there (Take.there Take.here) | exact Take.there (Take.there (Take.there Take.here)) | exact Take.none _ | exact TakeC.t | exact Take.there (Take.there (Take.there (Take.there Take.here))) | exact Take.there (Take.there (Take.there (Take.there (Take.there Take.here)))) | exact Take.there (Take.there (Take.there (Take.there (Take.there (Take.there Take.here)))))) ?_
        rw [hq]
        dsimp only
        refine Wl.val rfl (V.assign rfl) ?_
        refine Wl.nil ?_
        refine Wx.then_n ?_
        refine Wc.seq ?_
        refine Wc.seq ?_
        refine Wc.region ?_
        refine Wl.val rfl (V.move rfl) ?_
        refine Wl.val rfl (V.eql rfl rfl) ?_
        refine Wl.nil ?_
        refine Wx.then_n ?_
        refine Wc.cond rfl (fun hc4 => ?_) (fun hc4 => ?_)
        · skip
          try replace hc4 := of_decide_eq_true hc4
          refine Wc.seq ?_
          refine Wc.draws 15 mixed (by kernel_rfl) (S := row lp T_log_Log [ptr d, i64 L.first, i64 L.n, ptr cp, i64 L.head, i64 L.time, i64 L.least, lv] * (own T_log_item 2 lv L.items.length (itemsV L.items) * (CellB cp d C' * (Dev d D' * F)))) (M := emp) (Ent.auto) ?_
          refine Wr.take [0, 1, 2, 3, 4, 5, 6, 7, 8, 9, 10, 11] 3 (by kernel_rfl) (by kernel_rfl) rfl rfl ?_
          refine Wt.val rfl (V.move rfl) ?_
          refine Wt.val rfl (V.move rfl) ?_
          refine Wt.val rfl (V.nil rfl) ?_
          refine Wt.val rfl (V.fld _ rfl O_log_Log_7 rfl) ?_
          refine Wt.val rfl (V.ld rfl C_Slog_item rfl) ?_
          refine Wt.val rfl (V.move rfl) ?_
          refine Wt.val rfl (V.move rfl) ?_
          refine Wt.val rfl (V.nil rfl) ?_
          refine Wt.val rfl (V.fld _ rfl O_log_Log_4 rfl) ?_
          refine Wt.val rfl (V.ld rfl C_int64 rfl) ?_
          refine Wt.val rfl (V.subk rfl rfl (wr64 (by omega) (by omega))) ?_
          refine Wt.val rfl (V.sliceW (l := (k - L.head).toNat) (q := L.items.length) rfl U_Slog_item Z_log_item rfl rfl hv (by show _ = _; omega) rfl (by omega) (by omega)) ?_
          refine Wt.nil ?_
          refine Wr.any [12] 2 (by kernel_rfl) rfl rfl ?_
          refine Wm.callS rfl rfl rfl rfl (s_slices_Clone_log_item' (S := own T_log_item 2 lv L.items.length (itemsV L.items)) (hv.sub (l := (k - L.head).toNat) (q := L.items.length) (by omega) (by omega)) (fun x hx => itemsV_one L.items x (List.mem_of_mem_drop (List.mem_of_mem_take hx))) (by omega)) (by first | exact Take.here | exact Take.there Take.here | exact Take.there (Take.there Take.here) | exact Take.there (Take.there (Take.there Take.here)) | exact Take.none _ | exact TakeC.t | exact Take.there (Take.there (Take.there (Take.there Take.here))) | exact Take.there (Take.there (Take.there (Take.there (Take.there Take.here)))) | exact Take.there (Take.there (Take.there (Take.there (Take.there (Take.there Take.here)))))) (fun x64 => ?_) ?_
          · skip
            refine Wr.take [13, 14] 0 (by kernel_rfl) (by kernel_rfl) rfl rfl ?_
            refine Wt.val rfl (V.nil rfl) ?_
            refine Wt.val rfl (V.fld _ rfl O_log_Log_7 rfl) ?_
            refine Wt.nil ?_
            refine Wr.tail (by kernel_rfl) rfl ?_
            refine Wl.ent (H' := own T_log_item 2 x64 (L.items.length - (k - L.head).toNat) (((itemsV L.items).drop ((k - L.head).toNat * 2)).take ((L.items.length - (k - L.head).toNat) * 2)) * (row lp T_log_Log [ptr d, i64 L.first, i64 L.n, ptr cp, i64 L.head, i64 L.time, i64 L.least, lv] * (CellB cp d C' * (Dev d D' * F)))) Ent.auto ?_
            refine Wl.know (fun g w s => own_one s) (fun hone => ?_)
            refine Wl.st (Go.Sl.S.put rfl rfl C_Slog_item hone rfl) ?_
            refine Wl.nil ?_
            refine Wx.then_n ?_
            refine Wc.region ?_
            refine Wl.val rfl (V.move rfl) ?_
            refine Wl.val rfl (V.move rfl) ?_
            refine Wl.val rfl (V.move rfl) ?_
            refine Wl.val rfl (V.move rfl) ?_
            refine Wl.val rfl (V.nil rfl) ?_
            refine Wl.val rfl (V.fld _ rfl O_log_Log_4 rfl) ?_
            refine Wl.st (Go.Sl.S.put rfl rfl C_int64 rfl rfl) ?_
            refine Wl.val rfl (V.nil rfl) ?_
            refine Wl.val rfl (V.fld _ rfl O_log_Log_6 rfl) ?_
            refine Wl.st (Go.Sl.S.put rfl rfl C_int64 rfl rfl) ?_
            refine Wl.nil ?_
            refine Wx.then_n ?_
            refine Wc.seq ?_
            refine Wc.region ?_
            refine Wl.val rfl (V.move rfl) ?_
            refine Wl.val rfl (V.assign rfl) ?_
            refine Wl.nil ?_
            refine Wx.then_n ?_
            refine Wc.ret ?_
            repeat (first | refine Wx.then_r ?_ | refine Wx.blk_r ?_ | refine Wx.ng_r ?_)
            refine Wx.ret1 rfl rfl rfl ?_
            rw [hgo, if_pos hc4, show (e' : Int) = 0 from hc4]
            refine Ent.trans ((own_to (n' := (L.items.drop (k - L.head).toNat).length) (xs' := itemsV (L.items.drop (k - L.head).toNat)) (by simp) (itemsV_sub _ _ (by omega))).frame _) ?_
            exact Ent.log (cp := cp) (lv := x64) rfl
          exact Wm.nil
        · skip
          try replace hc4 := of_decide_eq_false hc4
          refine Wc.skip ?_
          refine Wx.then_n ?_
          refine Wc.seq ?_
          refine Wc.region ?_
          refine Wl.val rfl (V.move rfl) ?_
          refine Wl.val rfl (V.assign rfl) ?_
          refine Wl.nil ?_
          refine Wx.then_n ?_
          refine Wc.ret ?_
          repeat (first | refine Wx.then_r ?_ | refine Wx.blk_r ?_ | refine Wx.ng_r ?_)
          refine Wx.ret1 rfl rfl rfl ?_
          rw [hgo, if_neg hc4]
          exact Ent.log (cp := cp) (lv := lv) rfl
end Go.Proofs.YtjfacgmobpbhcaaGreat
/- The walks: logs, 4. -/
namespace Go.Proofs.YtjfacgmobpbhcaaGreat
open Go.Sl Sei
theorem s_log_Log_scan (lp d : Nat) {D : DevM} {L : LogM} (hL : LogOk D L) (hal : D.dead = false) (h0 : L.items = []) (hh : L.head ≤ 4611686018427388000) : Ctr P f_log_Log_scan [ptr lp] (Log lp d L * Dev d D) (fun v => pu (v = .tuple #[]) * (Log lp d (logScan D L) * Dev d D)) := by
  have hn := hL.n'
  refine Ctr.of_body (m := 79) fn_log_Log_scan rfl rfl rfl rfl rfl (fun F g => ?_)
  refine Wc.assoc (Wc.log (fun cp lv => ?_))
  refine Wc.scope ?_
  refine Wc.seq ?_
  refine Wc.region ?_
  refine Wl.val rfl (V.move rfl) ?_
  refine Wl.val rfl (V.nil rfl) ?_
  refine Wl.val rfl (V.fld _ rfl O_log_Log_6 rfl) ?_
  refine Wl.val rfl (V.ld rfl C_int64 rfl) ?_
  refine Wl.val rfl (V.assign rfl) ?_
  refine Wl.nil ?_
  refine Wx.then_n ?_
  refine Wc.seq ?_
  refine Wc.label ?_
  refine Wx.then_n ?_
  refine Wc.seq ?_
  refine Wc.region ?_
  refine Wl.val rfl (V.move rfl) ?_
  refine Wl.val rfl (V.nil rfl) ?_
  refine Wl.val rfl (V.fld _ rfl O_log_Log_2 rfl) ?_
  refine Wl.val rfl (V.ld rfl C_int rfl) ?_
  refine Wl.val rfl (V.move rfl) ?_
  refine Wl.nil ?_
  refine Wx.then_n ?_
  refine Wc.block ?_
  refine Wc.loop (α := Nat × LogM × Int × Value) (fun x => L.n - x.1) (fun x => pu ((x.1 ≤ L.n ∧ x.2.1.n = L.n ∧ x.2.1.head = L.head ∧ x.2.1.items.length = x.1) ∧ scanGo D (L.n - x.1) x.2.1 x.2.2.1 = logScan D L ∧ LogOk D x.2.1) * (LogB lp d cp x.2.2.2 x.2.1 * (Dev d D * F))) (fun x => [(0, ptr lp), (2, i64 x.2.2.1), (14, i64 (L.n : Nat)), (15, i64 (x.1 : Nat))]) (0, L, L.least, lv) (by exact Ent.pure ⟨⟨Nat.zero_le _, rfl, rfl, by rw [h0]; rfl⟩, rfl, hL⟩) (by repeat (first | exact trivial | refine ⟨rfl, ?_⟩)) (fun x => ?_)
  obtain ⟨k, L', t, lv⟩ := x
  refine Wc.pu (fun hI => ?_)
  obtain ⟨⟨hk, e1, e2, e3⟩, hI, hL'⟩ := hI
  dsimp only at hk e1 e2 e3 hI hL'
  have hta := hL'.tail
  have hlt : logTail L' = L'.head + L'.items.length := rfl
  have hf := hL'.fits
  have hdn := hL'.dev.n
  have hh1 := hL'.head
  have htm := hL'.time
  refine Wc.seq ?_
  refine Wc.region ?_
  refine Wl.val rfl (V.lss rfl rfl) ?_
  refine Wl.nil ?_
  refine Wx.then_n ?_
  refine Wc.seq ?_
  refine Wc.cond rfl (fun hc1 => ?_) (fun hc1 => ?_)
  · skip
    try replace hc1 := of_decide_eq_true hc1
    refine Wc.skip ?_
    refine Wx.then_n ?_
    refine Wc.seq ?_
    refine Wc.block ?_
    refine Wc.seq ?_
    refine Wc.draws 13 mixed (by kernel_rfl) (S := LogB lp d cp lv L') (M := Dev d D * F) (Ent.auto) ?_
    refine Wr.take [0, 1, 2, 3, 4, 5, 6, 7] 5 (by kernel_rfl) (by kernel_rfl) rfl rfl ?_
    refine Wt.val rfl (V.move rfl) ?_
    refine Wt.val rfl (V.nil rfl) ?_
    refine Wt.val rfl (V.fld _ rfl O_log_Log_0 rfl) ?_
    refine Wt.val rfl (V.ld rfl C_Psector_Dev rfl) ?_
    refine Wt.val rfl (V.move rfl) ?_
    refine Wt.val rfl (V.move rfl) ?_
    refine Wt.call rfl rfl (s_log_Log_Tail lp d cp lv L' (by omega) (by omega)) (by first | exact Take.here | exact Take.there Take.here | exact Take.there (Take.there Take.here) | exact Take.there (Take.there (Take.there Take.here)) | exact Take.none _ | exact TakeC.t | exact Take.there (Take.there (Take.there (Take.there Take.here))) | exact Take.there (Take.there (Take.there (Take.there (Take.there Take.here)))) | exact Take.there (Take.there (Take.there (Take.there (Take.there (Take.there Take.here)))))) ?_
    refine Wt.call rfl rfl (s_log_Log_place lp d cp lv L' (logTail L') (by omega) (by omega) (by omega)) (by first | exact Take.here | exact Take.there Take.here | exact Take.there (Take.there Take.here) | exact Take.there (Take.there (Take.there Take.here)) | exact Take.none _ | exact TakeC.t | exact Take.there (Take.there (Take.there (Take.there Take.here))) | exact Take.there (Take.there (Take.there (Take.there (Take.there Take.here)))) | exact Take.there (Take.there (Take.there (Take.there (Take.there (Take.there Take.here)))))) ?_
    refine Wt.nil ?_
    refine Wr.any [8] 4 (by kernel_rfl) rfl rfl ?_
    refine Wm.callM rfl rfl rfl rfl (s_sector_Dev_Read d hL'.dev (logPlace L' (logTail L'))) (by first | exact Take.here | exact Take.there Take.here | exact Take.there (Take.there Take.here) | exact Take.there (Take.there (Take.there Take.here)) | exact Take.none _ | exact TakeC.t | exact Take.there (Take.there (Take.there (Take.there Take.here))) | exact Take.there (Take.there (Take.there (Take.there (Take.there Take.here)))) | exact Take.there (Take.there (Take.there (Take.there (Take.there (Take.there Take.here)))))) (fun x26 => ?_) ?_
    · skip
      refine Wr.take [9, 10, 11, 12] 0 (by kernel_rfl) (by kernel_rfl) rfl rfl ?_
      refine Wt.val rfl (V.move rfl) ?_
      refine Wt.val rfl (V.ext rfl rfl) ?_
      refine Wt.val rfl (V.ext rfl rfl) ?_
      refine Wt.val rfl (V.assign rfl) ?_
      refine Wt.nil ?_
      refine Wr.tail (by kernel_rfl) rfl ?_
      obtain ⟨hh, hsl⟩ := devSec_len hL' hal (logTail L')
      rw [devRead_ok hh]
      dsimp only
      refine Wl.ent (H' := own T_uint8 1 x26 (devSec D (logPlace L' (logTail L'))).length (bytesV (devSec D (logPlace L' (logTail L')))) * (LogB lp d cp lv L' * (Dev d D * F))) Ent.auto ?_
      refine Wl.know (fun g w s => Vw.of_own T_uint8 1 _ _ _ g w (s.ent (Ent.left _ _))) (fun hvb => ?_)
      refine Wl.val rfl (V.assign rfl) ?_
      refine Wl.nil ?_
      refine Wx.then_n ?_
      refine Wc.seq ?_
      refine Wc.region ?_
      refine Wl.val rfl (V.move rfl) ?_
      refine Wl.call rfl rfl (s_log_read hvb (by omega)) (by first | exact Take.here | exact Take.there Take.here | exact Take.there (Take.there Take.here) | exact Take.there (Take.there (Take.there Take.here)) | exact Take.none _ | exact TakeC.t | exact Take.there (Take.there (Take.there (Take.there Take.here))) | exact Take.there (Take.there (Take.there (Take.there (Take.there Take.here)))) | exact Take.there (Take.there (Take.there (Take.there (Take.there (Take.there Take.here)))))) (fun v31 => ?_)
      refine Wl.exm (fun q => ?_)
      refine Wl.pull (fun hq => ?_)
      subst hq
      obtain ⟨nv, tv⟩ := q
      dsimp only
      have hgood := logRead_good (b := devSec D (logPlace L' (logTail L')))
      generalize hr : logRead (devSec D (logPlace L' (logTail L'))) = ro at *
      obtain ⟨r, ok⟩ := ro
      have hstop := logStop_bad (t := t) hr
      have hitem := logItem_of hr
      dsimp only
      refine Wl.ent (H' := own T_int64 1 nv r.nums.length (numsV r.nums) * (own T_string 1 tv r.texts.length (textsV r.texts) * (LogB lp d cp lv L' * (Dev d D * F)))) Ent.auto ?_
      refine Wl.know (fun g w s => Vw.of_own T_int64 1 nv r.nums.length (numsV r.nums) g w (s.ent Ent.auto)) (fun hvn => ?_)
      refine Wl.know (fun g w s => Vw.of_own T_string 1 tv r.texts.length (textsV r.texts) g w (s.ent Ent.auto)) (fun hvt => ?_)
      refine Wl.val rfl (V.move rfl) ?_
      refine Wl.val rfl (V.ext rfl rfl) ?_
      refine Wl.val rfl (V.ext rfl rfl) ?_
      refine Wl.al rfl (M.alloc N_api_Rec) (fun r5 => ?_)
      refine Wl.st (Go.Sl.S.putA (vs := [i64 r.kind, nv, tv]) rfl rfl C_api_Rec (by simp only [oneCells, hvn.one, hvt.one]; rfl) rfl rfl rfl) ?_
      refine Wl.val rfl (V.assign rfl) ?_
      refine Wl.nil ?_
      refine Wx.then_n ?_
      refine Wc.seq ?_
      refine Wc.block ?_
      refine Wc.seq ?_
      refine Wc.quiet mixed (by kernel_rfl) ?_
      refine Wq.val rfl (V.move rfl) ?_
      refine Wq.val rfl (V.not rfl) ?_
      refine Wq.val rfl (V.move rfl) ?_
      refine Wq.bool 37 rfl (fun hb37 => ?_) (fun hb37 => ?_)
      · -- t37 is True
        try replace hb37 := of_decide_eq_true hb37
        refine Wq.gF rfl rfl rfl ?_
        refine Wq.gF rfl rfl rfl ?_
        refine Wq.gF rfl rfl rfl ?_
        refine Wq.gF rfl rfl rfl ?_
        refine Wq.gF rfl rfl rfl ?_
        refine Wq.gF rfl rfl rfl ?_
        refine Wq.gF rfl rfl rfl ?_
        refine Wq.val rfl (V.pickT rfl rfl) ?_
        refine Wq.val rfl (V.move rfl) ?_
        refine Wq.gF rfl rfl rfl ?_
        refine Wq.gF rfl rfl rfl ?_
        refine Wq.gF rfl rfl rfl ?_
        refine Wq.gF rfl rfl rfl ?_
        refine Wq.gF rfl rfl rfl ?_
        refine Wq.gF rfl rfl rfl ?_
        refine Wq.gF rfl rfl rfl ?_
        refine Wq.gF rfl rfl rfl ?_
        refine Wq.gF rfl rfl rfl ?_
        refine Wq.gF rfl rfl rfl ?_
        refine Wq.gF rfl rfl rfl ?_
        refine Wq.val rfl (V.pickT rfl rfl) ?_
        refine Wq.val rfl (V.assign rfl) ?_
        refine Wq.nil ?_
        refine Wx.then_n ?_
        refine Wc.condT rfl ?_
        refine Wc.exit ?_
        refine Wx.blk_o rfl ?_
        refine Wx.then_x ?_
        refine Wx.blk_o rfl ?_
        refine Wx.then_x ?_
        refine Wx.then_x ?_
        refine Wx.blk_x ?_
        refine Wx.ng_n ?_
        refine Wx.end0 rfl rfl ?_
        rw [← hI, scanGo_stop _ (by rw [hstop]; simp_all)]; exact Ent.log (cp := cp) (lv := lv) rfl
      · -- t37 is False
        try replace hb37 := of_decide_eq_false hb37
        refine Wq.gT rfl rfl rfl (V.fld _ rfl O_api_Rec_1 rfl) ?_
        refine Wq.gT rfl rfl rfl (V.ld rfl C_Sint64 rfl) ?_
        refine Wq.gT rfl rfl rfl (V.idxW rfl rfl U_Sint64 Z_int64 hvn (by decide) (by have := (hgood (by simpa using hb37)).1; dsimp only at this; omega)) ?_
        refine Wq.gT rfl rfl rfl (V.ldW rfl C_int64 hvn (nums_at (j := 0) (by have := (hgood (by simpa using hb37)).1; dsimp only at this; omega))) ?_
        refine Wq.gT rfl rfl rfl (V.move rfl) ?_
        refine Wq.gTcall rfl rfl rfl rfl (s_log_Log_Tail lp d cp lv L' (by omega) (by omega)) (by first | exact Take.here | exact Take.there Take.here | exact Take.there (Take.there Take.here) | exact Take.there (Take.there (Take.there Take.here)) | exact Take.none _ | exact TakeC.t | exact Take.there (Take.there (Take.there (Take.there Take.here))) | exact Take.there (Take.there (Take.there (Take.there (Take.there Take.here)))) | exact Take.there (Take.there (Take.there (Take.there (Take.there (Take.there Take.here)))))) ?_
        refine Wq.gT rfl rfl rfl (V.neq rfl rfl) ?_
        refine Wq.val rfl (V.pickF rfl rfl) ?_
        refine Wq.val rfl (V.move rfl) ?_
        refine Wq.bool 46 rfl (fun hb46 => ?_) (fun hb46 => ?_)
        · -- t46 is True
          try replace hb46 := of_decide_eq_true hb46
          refine Wq.gF rfl rfl rfl ?_
          refine Wq.gF rfl rfl rfl ?_
          refine Wq.gF rfl rfl rfl ?_
          refine Wq.gF rfl rfl rfl ?_
          refine Wq.gF rfl rfl rfl ?_
          refine Wq.gF rfl rfl rfl ?_
          refine Wq.gF rfl rfl rfl ?_
          refine Wq.gF rfl rfl rfl ?_
          refine Wq.gF rfl rfl rfl ?_
          refine Wq.gF rfl rfl rfl ?_
          refine Wq.gF rfl rfl rfl ?_
          refine Wq.val rfl (V.pickT rfl rfl) ?_
          refine Wq.val rfl (V.assign rfl) ?_
          refine Wq.nil ?_
          refine Wx.then_n ?_
          refine Wc.condT rfl ?_
          refine Wc.exit ?_
          refine Wx.blk_o rfl ?_
          refine Wx.then_x ?_
          refine Wx.blk_o rfl ?_
          refine Wx.then_x ?_
          refine Wx.then_x ?_
          refine Wx.blk_x ?_
          refine Wx.ng_n ?_
          refine Wx.end0 rfl rfl ?_
          rw [← hI, scanGo_stop _ (by rw [hstop]; simp_all)]; exact Ent.log (cp := cp) (lv := lv) rfl
        · -- t46 is False
          try replace hb46 := of_decide_eq_false hb46
          refine Wq.gT rfl rfl rfl (V.fld _ rfl O_api_Rec_1 rfl) ?_
          refine Wq.gT rfl rfl rfl (V.ld rfl C_Sint64 rfl) ?_
          refine Wq.gT rfl rfl rfl (V.idxW rfl rfl U_Sint64 Z_int64 hvn (by decide) (by have := (hgood (by simpa using hb37)).1; dsimp only at this; omega)) ?_
          refine Wq.gT rfl rfl rfl (V.ldW rfl C_int64 hvn (nums_at (j := 1) (by have := (hgood (by simpa using hb37)).1; dsimp only at this; omega))) ?_
          refine Wq.gT rfl rfl rfl (V.move rfl) ?_
          refine Wq.gT rfl rfl rfl (V.move rfl) ?_
          refine Wq.gT rfl rfl rfl (V.nil rfl) ?_
          refine Wq.gT rfl rfl rfl (V.fld _ rfl O_log_Log_5 rfl) ?_
          refine Wq.gT rfl rfl rfl (V.ld rfl C_int64 rfl) ?_
          refine Wq.gTcall rfl rfl rfl rfl (s_log_within (r.nums.getD 1 0) t L'.time) (by first | exact Take.here | exact Take.there Take.here | exact Take.there (Take.there Take.here) | exact Take.there (Take.there (Take.there Take.here)) | exact Take.none _ | exact TakeC.t | exact Take.there (Take.there (Take.there (Take.there Take.here))) | exact Take.there (Take.there (Take.there (Take.there (Take.there Take.here)))) | exact Take.there (Take.there (Take.there (Take.there (Take.there (Take.there Take.here)))))) ?_
          refine Wq.gT rfl rfl rfl (V.not rfl) ?_
          refine Wq.val rfl (V.pickF rfl rfl) ?_
          refine Wq.val rfl (V.assign rfl) ?_
          refine Wq.nil ?_
          refine Wx.then_n ?_
          refine Wc.cond rfl (fun hc2 => ?_) (fun hc2 => ?_)
          · skip
            try replace hc2 := of_decide_eq_true hc2
            refine Wc.exit ?_
            refine Wx.blk_o rfl ?_
            refine Wx.then_x ?_
            refine Wx.blk_o rfl ?_
            refine Wx.then_x ?_
            refine Wx.then_x ?_
            refine Wx.blk_x ?_
            refine Wx.ng_n ?_
            refine Wx.end0 rfl rfl ?_
            rw [← hI, scanGo_stop _ (by rw [hstop]; simp_all)]; exact Ent.log (cp := cp) (lv := lv) rfl
          · skip
            try replace hc2 := of_decide_eq_false hc2
            refine Wc.skip ?_
            refine Wx.blk_n ?_
            refine Wx.then_n ?_
            refine Wc.seq ?_
            refine Wc.region ?_
            refine Wl.val rfl (V.fld _ rfl O_api_Rec_1 rfl) ?_
            refine Wl.val rfl (V.ld rfl C_Sint64 rfl) ?_
            refine Wl.val rfl (V.idxW rfl rfl U_Sint64 Z_int64 hvn (by decide) (by have := (hgood (by simpa using hb37)).1; dsimp only at this; omega)) ?_
            refine Wl.val rfl (V.ldW rfl C_int64 hvn (nums_at (j := 1) (by have := (hgood (by simpa using hb37)).1; dsimp only at this; omega))) ?_
            refine Wl.val rfl (V.assign rfl) ?_
            refine Wl.nil ?_
            refine Wx.then_n ?_
            refine Wc.draws 13 mixed (by kernel_rfl) (S := row lp T_log_Log [ptr d, i64 L'.first, i64 L'.n, ptr cp, i64 L'.head, i64 L'.time, i64 L'.least, lv] * (CellB cp d L'.cell * (row r5 T_api_Rec [i64 r.kind, nv, tv] * (own T_int64 1 nv r.nums.length (numsV r.nums) * (own T_string 1 tv r.texts.length (textsV r.texts) * (Dev d D * F)))))) (M := own T_log_item 2 lv L'.items.length (itemsV L'.items) * emp) (Ent.auto) ?_
            refine Wr.take [0, 1, 2, 3, 4, 5, 6, 7, 8, 9, 10] 2 (by kernel_rfl) (by kernel_rfl) rfl rfl ?_
            refine Wt.val rfl (V.move rfl) ?_
            refine Wt.val rfl (V.move rfl) ?_
            refine Wt.val rfl (V.nil rfl) ?_
            refine Wt.val rfl (V.fld _ rfl O_log_Log_7 rfl) ?_
            refine Wt.val rfl (V.ld rfl C_Slog_item rfl) ?_
            refine Wt.val rfl (V.fld _ rfl O_api_Rec_2 rfl) ?_
            refine Wt.val rfl (V.ld rfl C_Sstring rfl) ?_
            refine Wt.val rfl (V.idxW rfl rfl U_Sstring Z_string hvt (by decide) (by have := (hgood (by simpa using hb37)).2.1; dsimp only at this; omega)) ?_
            refine Wt.val rfl (V.ldW rfl C_string hvt (texts_at (j := 0) (by have := (hgood (by simpa using hb37)).2.1; dsimp only at this; omega))) ?_
            refine Wt.val rfl (V.move rfl) ?_
            refine Wt.val rfl (V.build B_log_item rfl rfl) ?_
            refine Wt.nil ?_
            refine Wr.any [11] 1 (by kernel_rfl) rfl rfl ?_
            refine Wm.al rfl rfl rfl (M.slice U_Slog_item L_Slog_item.size N_log_item rfl (by decide) rfl rfl) (fun r74 => ?_) ?_
            · skip
              refine Wr.any [12] 0 (by kernel_rfl) rfl rfl ?_
              refine Wm.app rfl rfl rfl (X.append L_Slog_item rfl rfl (Take.there (Take.there Take.here)) (Src.row U_Slog_item rfl rfl) (by unfold maxLen; omega) (by omega)) (fun v75 => ?_) ?_
              · skip
                refine Wr.tail (by kernel_rfl) rfl ?_
                refine Wl.ent (H' := own T_log_item 2 v75 (L'.items.length + 1) (itemsV L'.items ++ [str (r.texts.getD 0 []), i64 (r.nums.getD 1 0)]) * (row lp T_log_Log [ptr d, i64 L'.first, i64 L'.n, ptr cp, i64 L'.head, i64 L'.time, i64 L'.least, lv] * (CellB cp d L'.cell * (Dev d D * F)))) Ent.auto ?_
                refine Wl.know (fun g w s => own_one s) (fun hone => ?_)
                refine Wl.val rfl (V.nil rfl) ?_
                refine Wl.val rfl (V.fld _ rfl O_log_Log_7 rfl) ?_
                refine Wl.st (Go.Sl.S.put rfl rfl C_Slog_item hone rfl) ?_
                refine Wl.nil ?_
                refine Wx.blk_n ?_
                refine Wx.then_n ?_
                refine Wc.region ?_
                refine Wl.val rfl (V.addk rfl rfl (wr64 (by omega) (by omega))) ?_
                refine Wl.val rfl (V.move rfl) ?_
                refine Wl.nil ?_
                have hns : logStop D L' t = false := by rw [hstop]; simp_all
                have hst : scanGo D (L.n - (k + 1)) { L' with items := L'.items ++ [(r.texts.getD 0 [], r.nums.getD 1 0)] } (r.nums.getD 1 0) = logScan D L := by
                  rw [← hI, scanGo_step (f := L.n - k) (g := L.n - (k + 1)) (by omega) hns, hitem]
                have hok2 := hL'.more (hgood (by simpa using hb37)) (by omega) (by omega)
                refine Wx.again (k + 1, { L' with items := L'.items ++ [(r.texts.getD 0 [], r.nums.getD 1 0)] }, r.nums.getD 1 0, v75) (by exact (by show L.n - (k + 1) < L.n - k; omega)) (by exact (by refine Ent.trans ((own_to (n' := (L'.items ++ [(r.texts.getD 0 [], r.nums.getD 1 0)]).length) (xs' := itemsV (L'.items ++ [(r.texts.getD 0 [], r.nums.getD 1 0)])) (by simp) (by simp [itemsV])).frame _) ?_; exact Ent.puC ⟨⟨by omega, e1, e2, by simp; omega⟩, hst, hok2⟩)) (by repeat (first | exact trivial | refine ⟨rfl, ?_⟩))
              exact Wm.nil
            exact Wm.nil
    exact Wm.nil
  · skip
    try replace hc1 := of_decide_eq_false hc1
    refine Wc.exit ?_
    refine Wx.then_x ?_
    refine Wx.then_x ?_
    refine Wx.blk_x ?_
    refine Wx.ng_n ?_
    refine Wx.end0 rfl rfl ?_
    show Ent (LogB lp d cp lv L' * (Dev d D * F)) _
    rw [← hI, show L.n - k = 0 by (have hc : ¬ (k : Int) < (L.n : Int) := hc1); omega, show scanGo D 0 L' t = L' from rfl]; exact Ent.log (cp := cp) (lv := lv) rfl
end Go.Proofs.YtjfacgmobpbhcaaGreat
/- The walks: logs, 5. -/
namespace Go.Proofs.YtjfacgmobpbhcaaGreat
open Go.Sl Sei
def optP : Option Nat → Value
  | none => .pointer none
  | some r => ptr r
def optH (A : Nat → HP) : Option Nat → HP
  | none => emp
  | some r => A r
theorem Log.fresh (lp d cp : Nat) (L : LogM) (h : L.items = []) (F : HP) : Ent (row lp T_log_Log [ptr d, i64 L.first, i64 L.n, ptr cp, i64 L.head, i64 L.time, i64 L.least, .slice none 0 0] * (CellB cp d L.cell * F)) (Log lp d L * F) := by
  refine (Ent.own_nil T_log_item 2 _).trans ?_
  refine ((own_to (n' := L.items.length) (xs' := itemsV L.items) (by rw [h]; rfl) (by rw [h]; rfl)).frame _).trans ?_
  exact Ent.trans (Ent.auto (G := LogB lp d cp (.slice none 0 0) L * F)) ((Log.intro lp d cp (.slice none 0 0) L).frame F)
theorem s_log_Log_Records (lp d : Nat) {D : DevM} {L : LogM} (hL : LogOk D L) : Ctr P f_log_Log_Records [ptr lp] (Log lp d L) (fun v => own T_string 1 v (L.items.map (·.1)).length (textsV (L.items.map (·.1))) * Log lp d L) := by
  have hi := hL.items'
  refine Ctr.of_body (m := 22) fn_log_Log_Records rfl rfl rfl rfl rfl (fun F g => ?_)
  refine Wc.log (fun cp lv => ?_)
  refine Wc.know (fun g w s => LogB.own lp d cp lv L g w (s.ent (Ent.left _ _))) (fun hv => ?_)
  refine Wc.seq ?_
  refine Wc.region ?_
  refine Wl.val rfl (V.assign rfl) ?_
  refine Wl.nil ?_
  refine Wx.then_n ?_
  refine Wc.seq ?_
  refine Wc.region ?_
  refine Wl.val rfl (V.assign rfl) ?_
  refine Wl.nil ?_
  refine Wx.then_n ?_
  refine Wc.seq ?_
  refine Wc.seq ?_
  refine Wc.region ?_
  refine Wl.val rfl (V.move rfl) ?_
  refine Wl.val rfl (V.nil rfl) ?_
  refine Wl.val rfl (V.fld _ rfl O_log_Log_7 rfl) ?_
  refine Wl.val rfl (V.ld rfl C_Slog_item rfl) ?_
  refine Wl.val rfl (V.lenW rfl U_Slog_item hv) ?_
  refine Wl.val rfl (V.move rfl) ?_
  refine Wl.nil ?_
  refine Wx.then_n ?_
  refine Wc.block ?_
  refine Wc.loop (α := Nat × Value) (fun x => L.items.length - x.1) (fun x => pu (x.1 ≤ L.items.length) * (own T_string 1 x.2 ((L.items.take x.1).map (·.1)).length (textsV ((L.items.take x.1).map (·.1))) * (LogB lp d cp lv L * F))) (fun x => [(3, x.2), (9, lv), (10, i64 (L.items.length : Nat)), (11, i64 (x.1 : Nat))]) (0, .slice none 0 0) (by exact (by exact (Ent.own_nil T_string 1 _).trans (Ent.pure (Nat.zero_le _)))) (by repeat (first | exact trivial | refine ⟨rfl, ?_⟩)) (fun x => ?_)
  obtain ⟨k, ov⟩ := x
  refine Wc.pu (fun hk => ?_)
  dsimp only at hk
  refine Wc.seq ?_
  refine Wc.region ?_
  refine Wl.val rfl (V.lss rfl rfl) ?_
  refine Wl.nil ?_
  refine Wx.then_n ?_
  refine Wc.seq ?_
  refine Wc.cond rfl (fun hc1 => ?_) (fun hc1 => ?_)
  · skip
    try replace hc1 := of_decide_eq_true hc1
    obtain ⟨p, hp⟩ : ∃ p, L.items[k]? = some p := ⟨_, List.getElem?_eq_getElem (by omega)⟩
    refine Wc.skip ?_
    refine Wx.then_n ?_
    refine Wc.seq ?_
    refine Wc.block ?_
    refine Wc.seq ?_
    refine Wc.region ?_
    refine Wl.val rfl (V.idxW rfl rfl U_Slog_item Z_log_item hv (by omega) (by omega)) ?_
    refine Wl.val rfl (V.ldAW (vs := [str p.1, i64 p.2]) rfl C_log_item hv (by omega) (by simp only [getN, Int.toNat_natCast, itemsV_get0 hp, itemsV_get1 hp])) ?_
    refine Wl.al rfl (M.alloc N_log_item) (fun r5 => ?_)
    refine Wl.st (Go.Sl.S.putA rfl rfl C_log_item rfl rfl rfl rfl) ?_
    refine Wl.nil ?_
    refine Wx.then_n ?_
    refine Wc.region ?_
    refine Wl.val rfl (V.move rfl) ?_
    refine Wl.val rfl (V.fld _ rfl O_log_item_0 rfl) ?_
    refine Wl.val rfl (V.ld rfl C_string rfl) ?_
    refine Wl.al rfl (M.slice U_Sstring L_Sstring.size N_string rfl (by decide) rfl rfl) (fun r18 => ?_)
    refine Wl.exo rfl (X.append L_Sstring rfl rfl (Take.there (Take.there Take.here)) (Src.row U_Sstring rfl rfl) (by unfold maxLen; simp; omega) (by simp; omega)) (fun v19 => ?_)
    refine Wl.val rfl (V.assign rfl) ?_
    refine Wl.nil ?_
    refine Wx.blk_n ?_
    refine Wx.then_n ?_
    refine Wc.region ?_
    refine Wl.val rfl (V.addk rfl rfl (wr64 (by omega) (by omega))) ?_
    refine Wl.val rfl (V.move rfl) ?_
    refine Wl.nil ?_
    skip
    refine Wx.again (k + 1, v19) (by exact (by show L.items.length - (k + 1) < L.items.length - k; omega)) (by exact (by refine Ent.trans ((own_to (n' := ((L.items.take (k + 1)).map (·.1)).length) (xs' := textsV ((L.items.take (k + 1)).map (·.1))) (by simp; omega) (by simp [List.take_add_one, hp, textsV])).frame _) ?_; exact Ent.puC (by omega))) (by repeat (first | exact trivial | refine ⟨rfl, ?_⟩))
  · skip
    try replace hc1 := of_decide_eq_false hc1
    refine Wc.exit ?_
    refine Wx.then_x ?_
    refine Wx.then_x ?_
    refine Wx.blk_x ?_
    refine Wx.then_n ?_
    refine Wc.seq ?_
    refine Wc.region ?_
    refine Wl.val rfl (V.move rfl) ?_
    refine Wl.val rfl (V.assign rfl) ?_
    refine Wl.nil ?_
    refine Wx.then_n ?_
    refine Wc.ret ?_
    repeat (first | refine Wx.then_r ?_ | refine Wx.blk_r ?_ | refine Wx.ng_r ?_)
    refine Wx.ret1 rfl rfl rfl ?_
    have hkn : L.items.take k = L.items := List.take_of_length_le (by omega)
    show Ent (own T_string 1 ov ((L.items.take k).map (·.1)).length (textsV ((L.items.take k).map (·.1))) * (LogB lp d cp lv L * F)) _
    rw [hkn]
    exact (((Log.intro lp d cp lv L).frame F).framel _).trans (Ent.of_eq (sep_assoc _ _ _).symm)
theorem s_log_Open (d : Nat) {D : DevM} (hD : DevOk D) (hal : D.dead = false) (first n a b : Nat) (hn : 2 ≤ n) (hf : first + n ≤ D.l.length) (hab : a ≠ b) (ha : a < D.l.length) (hb : b < D.l.length) (hra : a < first ∨ first + n ≤ a) (hrb : b < first ∨ first + n ≤ b) :
  Ctr P f_log_Open [ptr d, i64 (first : Nat), i64 (n : Nat), i64 (a : Nat), i64 (b : Nat)] (Dev d D) (fun v => ex fun (o : Option Nat) => pu (v = .tuple #[optP o, i64 (logOpen D first n a b).2.2] ∧ (o.isSome = true ↔ (logOpen D first n a b).2.2 = 0)) * (optH (fun lp => Log lp d (logOpen D first n a b).2.1) o * Dev d (logOpen D first n a b).1)) := by
  have hdn := hD.n
  refine Ctr.of_body (m := 175) fn_log_Open rfl rfl rfl rfl rfl (fun F g => ?_)
  refine Wc.seq ?_
  refine Wc.region ?_
  refine Wl.val rfl (V.assign rfl) ?_
  refine Wl.val rfl (V.assign rfl) ?_
  refine Wl.nil ?_
  refine Wx.then_n ?_
  refine Wc.seq ?_
  refine Wc.seq ?_
  refine Wc.region ?_
  refine Wl.val rfl (V.move rfl) ?_
  refine Wl.val rfl (V.eqPtrNil rfl U_Psector_Dev) ?_
  refine Wl.val rfl (V.move rfl) ?_
  refine Wl.bool 22 rfl (fun hb22 => ?_) (fun hb22 => ?_)
  · -- t22 is True
    try replace hb22 := of_decide_eq_true hb22
    refine Wl.gF rfl rfl rfl ?_
    refine Wl.gF rfl rfl rfl ?_
    refine Wl.val rfl (V.pickT rfl rfl) ?_
    refine Wl.val rfl (V.move rfl) ?_
    refine Wl.gF rfl rfl rfl ?_
    refine Wl.gF rfl rfl rfl ?_
    refine Wl.val rfl (V.pickT rfl rfl) ?_
    refine Wl.val rfl (V.move rfl) ?_
    refine Wl.gF rfl rfl rfl ?_
    refine Wl.gF rfl rfl rfl ?_
    refine Wl.gF rfl rfl rfl ?_
    refine Wl.gF rfl rfl rfl ?_
    refine Wl.val rfl (V.pickT rfl rfl) ?_
    refine Wl.val rfl (V.move rfl) ?_
    refine Wl.gF rfl rfl rfl ?_
    refine Wl.gF rfl rfl rfl ?_
    refine Wl.gF rfl rfl rfl ?_
    refine Wl.gF rfl rfl rfl ?_
    refine Wl.gF rfl rfl rfl ?_
    refine Wl.gF rfl rfl rfl ?_
    refine Wl.val rfl (V.pickT rfl rfl) ?_
    refine Wl.nil ?_
    refine Wx.then_n ?_
    refine Wc.condT rfl ?_
    refine Wc.seq ?_
    refine Wc.region ?_
    refine Wl.val rfl (V.assign rfl) ?_
    refine Wl.val rfl (V.assign rfl) ?_
    refine Wl.nil ?_
    refine Wx.then_n ?_
    refine Wc.ret ?_
    repeat (first | refine Wx.then_r ?_ | refine Wx.blk_r ?_ | refine Wx.ng_r ?_)
    refine Wx.ret2 rfl rfl rfl rfl ?_
    exfalso; cases hb22
  · -- t22 is False
    try replace hb22 := of_decide_eq_false hb22
    refine Wl.gT rfl rfl ?_
    refine Wl.val rfl (V.move rfl) ?_
    refine Wl.gT rfl rfl ?_
    refine Wl.val rfl (V.lss rfl rfl) ?_
    refine Wl.val rfl (V.pickF rfl rfl) ?_
    refine Wl.val rfl (V.move rfl) ?_
    refine Wl.bool 26 rfl (fun hb26 => ?_) (fun hb26 => ?_)
    · -- t26 is True
      try replace hb26 := of_decide_eq_true hb26
      refine Wl.gF rfl rfl rfl ?_
      refine Wl.gF rfl rfl rfl ?_
      refine Wl.val rfl (V.pickT rfl rfl) ?_
      refine Wl.val rfl (V.move rfl) ?_
      refine Wl.gF rfl rfl rfl ?_
      refine Wl.gF rfl rfl rfl ?_
      refine Wl.gF rfl rfl rfl ?_
      refine Wl.gF rfl rfl rfl ?_
      refine Wl.val rfl (V.pickT rfl rfl) ?_
      refine Wl.val rfl (V.move rfl) ?_
      refine Wl.gF rfl rfl rfl ?_
      refine Wl.gF rfl rfl rfl ?_
      refine Wl.gF rfl rfl rfl ?_
      refine Wl.gF rfl rfl rfl ?_
      refine Wl.gF rfl rfl rfl ?_
      refine Wl.gF rfl rfl rfl ?_
      refine Wl.val rfl (V.pickT rfl rfl) ?_
      refine Wl.nil ?_
      refine Wx.then_n ?_
      refine Wc.condT rfl ?_
      refine Wc.seq ?_
      refine Wc.region ?_
      refine Wl.val rfl (V.assign rfl) ?_
      refine Wl.val rfl (V.assign rfl) ?_
      refine Wl.nil ?_
      refine Wx.then_n ?_
      refine Wc.ret ?_
      repeat (first | refine Wx.then_r ?_ | refine Wx.blk_r ?_ | refine Wx.ng_r ?_)
      refine Wx.ret2 rfl rfl rfl rfl ?_
      exfalso; omega
    · -- t26 is False
      try replace hb26 := of_decide_eq_false hb26
      refine Wl.gT rfl rfl ?_
      refine Wl.val rfl (V.move rfl) ?_
      refine Wl.gT rfl rfl ?_
      refine Wl.val rfl (V.lss rfl rfl) ?_
      refine Wl.val rfl (V.pickF rfl rfl) ?_
      refine Wl.val rfl (V.move rfl) ?_
      refine Wl.bool 30 rfl (fun hb30 => ?_) (fun hb30 => ?_)
      · -- t30 is True
        try replace hb30 := of_decide_eq_true hb30
        refine Wl.gF rfl rfl rfl ?_
        refine Wl.gF rfl rfl rfl ?_
        refine Wl.gF rfl rfl rfl ?_
        refine Wl.gF rfl rfl rfl ?_
        refine Wl.val rfl (V.pickT rfl rfl) ?_
        refine Wl.val rfl (V.move rfl) ?_
        refine Wl.gF rfl rfl rfl ?_
        refine Wl.gF rfl rfl rfl ?_
        refine Wl.gF rfl rfl rfl ?_
        refine Wl.gF rfl rfl rfl ?_
        refine Wl.gF rfl rfl rfl ?_
        refine Wl.gF rfl rfl rfl ?_
        refine Wl.val rfl (V.pickT rfl rfl) ?_
        refine Wl.nil ?_
        refine Wx.then_n ?_
        refine Wc.condT rfl ?_
        refine Wc.seq ?_
        refine Wc.region ?_
        refine Wl.val rfl (V.assign rfl) ?_
        refine Wl.val rfl (V.assign rfl) ?_
        refine Wl.nil ?_
        refine Wx.then_n ?_
        refine Wc.ret ?_
        repeat (first | refine Wx.then_r ?_ | refine Wx.blk_r ?_ | refine Wx.ng_r ?_)
        refine Wx.ret2 rfl rfl rfl rfl ?_
        exfalso; omega
      · -- t30 is False
        try replace hb30 := of_decide_eq_false hb30
        refine Wl.gT rfl rfl ?_
        refine Wl.val rfl (V.move rfl) ?_
        refine Wl.gT rfl rfl ?_
        refine Wl.val rfl (V.move rfl) ?_
        refine Wl.gT rfl rfl ?_
        first | refine Wl.callE rfl rfl (s_sector_Dev_Sectors d D) ?_ | refine Wl.callD rfl rfl (s_sector_Dev_Sectors d D) (by first | exact Take.here | exact Take.there Take.here | exact Take.there (Take.there Take.here) | exact Take.there (Take.there (Take.there Take.here)) | exact Take.none _ | exact TakeC.t | exact Take.there (Take.there (Take.there (Take.there Take.here))) | exact Take.there (Take.there (Take.there (Take.there (Take.there Take.here)))) | exact Take.there (Take.there (Take.there (Take.there (Take.there (Take.there Take.here)))))) ?_
        refine Wl.gT rfl rfl ?_
        refine Wl.val rfl (V.gtr rfl rfl) ?_
        refine Wl.val rfl (V.pickF rfl rfl) ?_
        refine Wl.val rfl (V.move rfl) ?_
        refine Wl.bool 36 rfl (fun hb36 => ?_) (fun hb36 => ?_)
        · -- t36 is True
          try replace hb36 := of_decide_eq_true hb36
          refine Wl.gF rfl rfl rfl ?_
          refine Wl.gF rfl rfl rfl ?_
          refine Wl.gF rfl rfl rfl ?_
          refine Wl.gF rfl rfl rfl ?_
          refine Wl.gF rfl rfl rfl ?_
          refine Wl.gF rfl rfl rfl ?_
          refine Wl.val rfl (V.pickT rfl rfl) ?_
          refine Wl.nil ?_
          refine Wx.then_n ?_
          refine Wc.condT rfl ?_
          refine Wc.seq ?_
          refine Wc.region ?_
          refine Wl.val rfl (V.assign rfl) ?_
          refine Wl.val rfl (V.assign rfl) ?_
          refine Wl.nil ?_
          refine Wx.then_n ?_
          refine Wc.ret ?_
          repeat (first | refine Wx.then_r ?_ | refine Wx.blk_r ?_ | refine Wx.ng_r ?_)
          refine Wx.ret2 rfl rfl rfl rfl ?_
          exfalso; omega
        · -- t36 is False
          try replace hb36 := of_decide_eq_false hb36
          refine Wl.gT rfl rfl ?_
          refine Wl.val rfl (V.move rfl) ?_
          refine Wl.gT rfl rfl ?_
          refine Wl.val rfl (V.move rfl) ?_
          refine Wl.gT rfl rfl ?_
          first | refine Wl.callE rfl rfl (s_sector_Dev_Sectors d D) ?_ | refine Wl.callD rfl rfl (s_sector_Dev_Sectors d D) (by first | exact Take.here | exact Take.there Take.here | exact Take.there (Take.there Take.here) | exact Take.there (Take.there (Take.there Take.here)) | exact Take.none _ | exact TakeC.t | exact Take.there (Take.there (Take.there (Take.there Take.here))) | exact Take.there (Take.there (Take.there (Take.there (Take.there Take.here)))) | exact Take.there (Take.there (Take.there (Take.there (Take.there (Take.there Take.here)))))) ?_
          refine Wl.gT rfl rfl ?_
          refine Wl.val rfl (V.move rfl) ?_
          refine Wl.gT rfl rfl ?_
          refine Wl.val rfl (V.subk rfl rfl (wr64 (by omega) (by omega))) ?_
          refine Wl.gT rfl rfl ?_
          refine Wl.val rfl (V.gtr rfl rfl) ?_
          refine Wl.val rfl (V.pickF rfl rfl) ?_
          refine Wl.nil ?_
          refine Wx.then_n ?_
          refine Wc.cond rfl (fun hc1 => ?_) (fun hc1 => ?_)
          · skip
            try replace hc1 := of_decide_eq_true hc1
            refine Wc.seq ?_
            refine Wc.region ?_
            refine Wl.val rfl (V.assign rfl) ?_
            refine Wl.val rfl (V.assign rfl) ?_
            refine Wl.nil ?_
            refine Wx.then_n ?_
            refine Wc.ret ?_
            repeat (first | refine Wx.then_r ?_ | refine Wx.blk_r ?_ | refine Wx.ng_r ?_)
            refine Wx.ret2 rfl rfl rfl rfl ?_
            exfalso; omega
          · skip
            try replace hc1 := of_decide_eq_false hc1
            refine Wc.skip ?_
            refine Wx.then_n ?_
            refine Wc.seq ?_
            refine Wc.seq ?_
            refine Wc.region ?_
            refine Wl.val rfl (V.move rfl) ?_
            refine Wl.val rfl (V.move rfl) ?_
            refine Wl.al rfl (M.slice U_Sint L_Sint.size N_int rfl (by decide) rfl rfl) (fun r46 => ?_)
            refine Wl.val rfl (V.lenS rfl U_Sint) ?_
            refine Wl.val rfl (V.move rfl) ?_
            refine Wl.nil ?_
            refine Wx.then_n ?_
            refine Wc.block ?_
            refine Wc.loop (α := Nat) (fun x => 2 - x) (fun x => pu (x ≤ 2) * (row r46 T_int [i64 (a : Nat), i64 (b : Nat)] * (Dev d D * F))) (fun x => [(0, ptr d), (1, i64 (first : Nat)), (2, i64 (n : Nat)), (3, i64 (a : Nat)), (4, i64 (b : Nat)), (46, .slice (some ⟨r46, 0, none⟩) 2 2), (47, i64 2), (48, i64 (x : Nat))]) 0 (by exact (by exact Ent.pure (Nat.zero_le _))) (by repeat (first | exact trivial | refine ⟨rfl, ?_⟩)) (fun x => ?_)
            refine Wc.pu (fun hx => ?_)
            refine Wc.seq ?_
            refine Wc.region ?_
            refine Wl.val rfl (V.lss rfl rfl) ?_
            refine Wl.nil ?_
            refine Wx.then_n ?_
            refine Wc.seq ?_
            refine Wc.cond rfl (fun hc2 => ?_) (fun hc2 => ?_)
            · skip
              try replace hc2 := of_decide_eq_true hc2
              obtain ⟨sec, hsec, hout⟩ : ∃ sec : Nat, (if x = 0 then (a : Int) else b) = (sec : Int) ∧ (sec < first ∨ first + n ≤ sec) ∧ sec < D.l.length := by split <;> exact ⟨_, rfl, by assumption, by assumption⟩
              refine Wc.skip ?_
              refine Wx.then_n ?_
              refine Wc.seq ?_
              refine Wc.block ?_
              refine Wc.seq ?_
              refine Wc.region ?_
              refine Wl.val rfl (V.idx rfl rfl U_Sint Z_int (by omega) (by omega) rfl) ?_
              refine Wl.val rfl (V.ld (v := i64 (sec : Nat)) rfl C_int (by rw [show 0 + (x : Int).toNat * 1 = (x : Int).toNat by omega]; exact idx2 (by omega) hsec)) ?_
              refine Wl.val rfl (V.assign rfl) ?_
              refine Wl.nil ?_
              refine Wx.then_n ?_
              refine Wc.seq ?_
              refine Wc.region ?_
              refine Wl.val rfl (V.move rfl) ?_
              refine Wl.val rfl (V.move rfl) ?_
              refine Wl.val rfl (V.geq rfl rfl) ?_
              refine Wl.val rfl (V.move rfl) ?_
              refine Wl.bool 55 rfl (fun hb55 => ?_) (fun hb55 => ?_)
              · -- t55 is True
                try replace hb55 := of_decide_eq_true hb55
                refine Wl.gT rfl rfl ?_
                refine Wl.val rfl (V.move rfl) ?_
                refine Wl.gT rfl rfl ?_
                refine Wl.val rfl (V.move rfl) ?_
                refine Wl.gT rfl rfl ?_
                refine Wl.val rfl (V.subk rfl rfl (wr64 (by omega) (by omega))) ?_
                refine Wl.gT rfl rfl ?_
                refine Wl.val rfl (V.move rfl) ?_
                refine Wl.gT rfl rfl ?_
                refine Wl.val rfl (V.lss rfl rfl) ?_
                refine Wl.val rfl (V.pickT rfl rfl) ?_
                refine Wl.nil ?_
                refine Wx.then_n ?_
                refine Wc.cond rfl (fun hc3 => ?_) (fun hc3 => ?_)
                · skip
                  try replace hc3 := of_decide_eq_true hc3
                  refine Wc.seq ?_
                  refine Wc.region ?_
                  refine Wl.val rfl (V.assign rfl) ?_
                  refine Wl.val rfl (V.assign rfl) ?_
                  refine Wl.nil ?_
                  refine Wx.then_n ?_
                  refine Wc.ret ?_
                  repeat (first | refine Wx.then_r ?_ | refine Wx.blk_r ?_ | refine Wx.ng_r ?_)
                  refine Wx.ret2 rfl rfl rfl rfl ?_
                  exfalso; omega
                · skip
                  try replace hc3 := of_decide_eq_false hc3
                  refine Wc.skip ?_
                  refine Wx.blk_n ?_
                  refine Wx.then_n ?_
                  refine Wc.region ?_
                  refine Wl.val rfl (V.addk rfl rfl (wr64 (by omega) (by omega))) ?_
                  refine Wl.val rfl (V.move rfl) ?_
                  refine Wl.nil ?_
                  refine Wx.again (x + 1) (by exact (by show 2 - (x + 1) < 2 - x; omega)) (by exact Ent.pure (by omega)) (by repeat (first | exact trivial | refine ⟨rfl, ?_⟩))
              · -- t55 is False
                try replace hb55 := of_decide_eq_false hb55
                refine Wl.gF rfl rfl rfl ?_
                refine Wl.gF rfl rfl rfl ?_
                refine Wl.gF rfl rfl rfl ?_
                refine Wl.gF rfl rfl rfl ?_
                refine Wl.gF rfl rfl rfl ?_
                refine Wl.val rfl (V.pickF rfl rfl) ?_
                refine Wl.nil ?_
                refine Wx.then_n ?_
                refine Wc.condF rfl ?_
                refine Wc.skip ?_
                refine Wx.blk_n ?_
                refine Wx.then_n ?_
                refine Wc.region ?_
                refine Wl.val rfl (V.addk rfl rfl (wr64 (by omega) (by omega))) ?_
                refine Wl.val rfl (V.move rfl) ?_
                refine Wl.nil ?_
                refine Wx.again (x + 1) (by exact (by show 2 - (x + 1) < 2 - x; omega)) (by exact Ent.pure (by omega)) (by repeat (first | exact trivial | refine ⟨rfl, ?_⟩))
            · skip
              try replace hc2 := of_decide_eq_false hc2
              refine Wc.exit ?_
              refine Wx.then_x ?_
              refine Wx.then_x ?_
              refine Wx.blk_x ?_
              refine Wx.then_n ?_
              refine Wc.seq ?_
              refine Wc.region ?_
              refine Wl.val rfl (V.move rfl) ?_
              refine Wl.val rfl (V.move rfl) ?_
              refine Wl.val rfl (V.move rfl) ?_
              refine Wl.call rfl rfl (s_cell_Open d hD a b hab ha hb hal) (by first | exact Take.here | exact Take.there Take.here | exact Take.there (Take.there Take.here) | exact Take.there (Take.there (Take.there Take.here)) | exact Take.none _ | exact TakeC.t | exact Take.there (Take.there (Take.there (Take.there Take.here))) | exact Take.there (Take.there (Take.there (Take.there (Take.there Take.here)))) | exact Take.there (Take.there (Take.there (Take.there (Take.there (Take.there Take.here)))))) (fun v67 => ?_)
              refine Wl.exm (fun cp => ?_)
              refine Wl.pull (fun hq => ?_)
              subst hq
              have hCt : (cellOpen D a b).text.length ≤ 100 := cellOpen_text D a b 2
              obtain ⟨hL0, hL1, hL2, hL3, hL4⟩ := logFirst_ok hD a b first n hn hf
              have hLo := logOpen_spec (D := D) (first := first) (n := n) (a := a) (b := b) rfl
              generalize hC : cellOpen D a b = C at *
              refine Wl.val rfl (V.move rfl) ?_
              refine Wl.val rfl (V.ext rfl rfl) ?_
              refine Wl.val rfl (V.ext rfl rfl) ?_
              refine Wl.val rfl (V.assign rfl) ?_
              refine Wl.val rfl (V.assign rfl) ?_
              refine Wl.nil ?_
              refine Wx.then_n ?_
              refine Wc.seq ?_
              refine Wc.seq ?_
              refine Wc.region ?_
              refine Wl.val rfl (V.move rfl) ?_
              refine Wl.val rfl (V.neq rfl rfl) ?_
              refine Wl.nil ?_
              refine Wx.then_n ?_
              refine Wc.cond rfl (fun hc4 => ?_) (fun hc4 => ?_)
              · skip
                try replace hc4 := of_decide_eq_true hc4
                refine Wc.seq ?_
                refine Wc.region ?_
                refine Wl.val rfl (V.move rfl) ?_
                refine Wl.val rfl (V.assign rfl) ?_
                refine Wl.val rfl (V.assign rfl) ?_
                refine Wl.nil ?_
                refine Wx.then_n ?_
                refine Wc.ret ?_
                repeat (first | refine Wx.then_r ?_ | refine Wx.blk_r ?_ | refine Wx.ng_r ?_)
                refine Wx.ret2 rfl rfl rfl rfl ?_
                exfalso; cases hc4
              · skip
                try replace hc4 := of_decide_eq_false hc4
                refine Wc.skip ?_
                refine Wx.then_n ?_
                refine Wc.seq ?_
                refine Wc.region ?_
                refine Wl.val rfl (V.move rfl) ?_
                refine Wl.val rfl (V.move rfl) ?_
                refine Wl.val rfl (V.move rfl) ?_
                refine Wl.val rfl (V.move rfl) ?_
                refine Wl.val rfl (V.build B_log_Log rfl rfl) ?_
                refine Wl.al rfl (M.box (l := [ptr d, i64 (first : Nat), i64 (n : Nat), ptr cp, i64 1, i64 0, i64 0, .slice none 0 0]) rfl rfl) (fun r78 => ?_)
                refine Wl.val rfl (V.assign rfl) ?_
                refine Wl.nil ?_
                refine Wx.then_n ?_
                refine Wc.cut (row r78 T_log_Log [ptr d, i64 (logFirst C first n).first, i64 (logFirst C first n).n, ptr cp, i64 (logFirst C first n).head, i64 (logFirst C first n).time, i64 (logFirst C first n).least, .slice none 0 0] * (CellB cp d (logFirst C first n).cell * (Dev d D * F))) ([(0, ptr d), (16, ptr r78)]) ?_ ?_
                · skip
                  refine Wc.seq ?_
                  refine Wc.region ?_
                  refine Wl.val rfl (V.move rfl) ?_
                  first | refine Wl.callE rfl rfl (s_cell_Cell_Get cp d C) ?_ | refine Wl.callD rfl rfl (s_cell_Cell_Get cp d C) (by first | exact Take.here | exact Take.there Take.here | exact Take.there (Take.there Take.here) | exact Take.there (Take.there (Take.there Take.here)) | exact Take.none _ | exact TakeC.t | exact Take.there (Take.there (Take.there (Take.there Take.here))) | exact Take.there (Take.there (Take.there (Take.there (Take.there Take.here)))) | exact Take.there (Take.there (Take.there (Take.there (Take.there (Take.there Take.here)))))) ?_
                  refine Wl.al rfl (M.s2bW rfl U_string U_Suint8 U_uint8 (by have := hCt; unfold maxLen; omega)) (fun r82 => ?_)
                  refine Wl.ent (H' := pu (C.text.length ≤ r82.2 ∧ r82.2 ≤ maxLen) * (sB T_uint8 r82 C.text * (row r78 T_log_Log [ptr d, i64 (first : Nat), i64 (n : Nat), ptr cp, i64 1, i64 0, i64 0, .slice none 0 0] * (CellB cp d C * (Dev d D * F))))) Ent.auto ?_
                  refine Wl.pu (fun hsz => ?_)
                  refine Wl.call rfl rfl (s_code_Decode (Vw.sB hsz)) (by first | exact Take.here | exact Take.there Take.here | exact Take.there (Take.there Take.here) | exact Take.there (Take.there (Take.there Take.here)) | exact Take.none _ | exact TakeC.t | exact Take.there (Take.there (Take.there (Take.there Take.here))) | exact Take.there (Take.there (Take.there (Take.there (Take.there Take.here)))) | exact Take.there (Take.there (Take.there (Take.there (Take.there (Take.there Take.here)))))) (fun v83 => ?_)
                  refine Wl.exm (fun q => ?_)
                  refine Wl.pull (fun hq => ?_)
                  subst hq
                  obtain ⟨nv, tv⟩ := q
                  dsimp only
                  generalize hd : dec C.text = de
                  obtain ⟨r, ec⟩ := de
                  have hLf := logFirst_of (first := first) (n := n) hd
                  rw [headD_getD] at hLf
                  dsimp only
                  refine Wl.ent (H' := own T_int64 1 nv r.nums.length (numsV r.nums) * (own T_string 1 tv r.texts.length (textsV r.texts) * (row r78 T_log_Log [ptr d, i64 (first : Nat), i64 (n : Nat), ptr cp, i64 1, i64 0, i64 0, .slice none 0 0] * (CellB cp d C * (Dev d D * F))))) Ent.auto ?_
                  refine Wl.know (fun g w s => Vw.of_own T_int64 1 nv r.nums.length (numsV r.nums) g w (s.ent Ent.auto)) (fun hvn => ?_)
                  refine Wl.know (fun g w s => Vw.of_own T_string 1 tv r.texts.length (textsV r.texts) g w (s.ent Ent.auto)) (fun hvt => ?_)
                  refine Wl.val rfl (V.move rfl) ?_
                  refine Wl.val rfl (V.ext rfl rfl) ?_
                  refine Wl.val rfl (V.ext rfl rfl) ?_
                  refine Wl.al rfl (M.alloc N_api_Rec) (fun r17 => ?_)
                  refine Wl.st (Go.Sl.S.putA (vs := [i64 r.kind, nv, tv]) rfl rfl C_api_Rec (by simp only [oneCells, hvn.one, hvt.one]; rfl) rfl rfl rfl) ?_
                  refine Wl.val rfl (V.assign rfl) ?_
                  refine Wl.nil ?_
                  refine Wx.then_n ?_
                  refine Wc.seq ?_
                  refine Wc.region ?_
                  refine Wl.val rfl (V.move rfl) ?_
                  refine Wl.val rfl (V.eql rfl rfl) ?_
                  refine Wl.val rfl (V.move rfl) ?_
                  refine Wl.bool 88 rfl (fun hb88 => ?_) (fun hb88 => ?_)
                  · -- t88 is True
                    try replace hb88 := of_decide_eq_true hb88
                    refine Wl.gT rfl rfl ?_
                    refine Wl.val rfl (V.fld _ rfl O_api_Rec_0 rfl) ?_
                    refine Wl.gT rfl rfl ?_
                    refine Wl.val rfl (V.ld rfl C_int rfl) ?_
                    refine Wl.gT rfl rfl ?_
                    refine Wl.val rfl (V.eql rfl rfl) ?_
                    refine Wl.val rfl (V.pickT rfl rfl) ?_
                    refine Wl.val rfl (V.move rfl) ?_
                    refine Wl.bool 93 rfl (fun hb93 => ?_) (fun hb93 => ?_)
                    · -- t93 is True
                      try replace hb93 := of_decide_eq_true hb93
                      refine Wl.gT rfl rfl ?_
                      refine Wl.val rfl (V.fld _ rfl O_api_Rec_1 rfl) ?_
                      refine Wl.gT rfl rfl ?_
                      refine Wl.val rfl (V.ld rfl C_Sint64 rfl) ?_
                      refine Wl.gT rfl rfl ?_
                      refine Wl.val rfl (V.lenW rfl U_Sint64 hvn) ?_
                      refine Wl.gT rfl rfl ?_
                      refine Wl.val rfl (V.eql rfl rfl) ?_
                      refine Wl.val rfl (V.pickT rfl rfl) ?_
                      refine Wl.val rfl (V.move rfl) ?_
                      refine Wl.bool 99 rfl (fun hb99 => ?_) (fun hb99 => ?_)
                      · -- t99 is True
                        try replace hb99 := of_decide_eq_true hb99
                        refine Wl.gT rfl rfl ?_
                        refine Wl.val rfl (V.fld _ rfl O_api_Rec_2 rfl) ?_
                        refine Wl.gT rfl rfl ?_
                        refine Wl.val rfl (V.ld rfl C_Sstring rfl) ?_
                        refine Wl.gT rfl rfl ?_
                        refine Wl.val rfl (V.lenW rfl U_Sstring hvt) ?_
                        refine Wl.gT rfl rfl ?_
                        refine Wl.val rfl (V.eql rfl rfl) ?_
                        refine Wl.val rfl (V.pickT rfl rfl) ?_
                        refine Wl.val rfl (V.move rfl) ?_
                        refine Wl.bool 105 rfl (fun hb105 => ?_) (fun hb105 => ?_)
                        · -- t105 is True
                          try replace hb105 := of_decide_eq_true hb105
                          refine Wl.gT rfl rfl ?_
                          refine Wl.val rfl (V.fld _ rfl O_api_Rec_1 rfl) ?_
                          refine Wl.gT rfl rfl ?_
                          refine Wl.val rfl (V.ld rfl C_Sint64 rfl) ?_
                          refine Wl.gT rfl rfl ?_
                          refine Wl.val rfl (V.idxW rfl rfl U_Sint64 Z_int64 hvn (by decide) (by omega)) ?_
                          refine Wl.gT rfl rfl ?_
                          refine Wl.val rfl (V.ldW rfl C_int64 hvn (nums_at (j := 0) (by omega))) ?_
                          refine Wl.gT rfl rfl ?_
                          first | refine Wl.callE rfl rfl (s_log_within (r.nums.getD 0 0) 1 4611686018427387904) ?_ | refine Wl.callD rfl rfl (s_log_within (r.nums.getD 0 0) 1 4611686018427387904) (by first | exact Take.here | exact Take.there Take.here | exact Take.there (Take.there Take.here) | exact Take.there (Take.there (Take.there Take.here)) | exact Take.none _ | exact TakeC.t | exact Take.there (Take.there (Take.there (Take.there Take.here))) | exact Take.there (Take.there (Take.there (Take.there (Take.there Take.here)))) | exact Take.there (Take.there (Take.there (Take.there (Take.there (Take.there Take.here)))))) ?_
                          refine Wl.val rfl (V.pickT rfl rfl) ?_
                          refine Wl.val rfl (V.move rfl) ?_
                          refine Wl.bool 112 rfl (fun hb112 => ?_) (fun hb112 => ?_)
                          · -- t112 is True
                            try replace hb112 := of_decide_eq_true hb112
                            refine Wl.gT rfl rfl ?_
                            refine Wl.val rfl (V.fld _ rfl O_api_Rec_1 rfl) ?_
                            refine Wl.gT rfl rfl ?_
                            refine Wl.val rfl (V.ld rfl C_Sint64 rfl) ?_
                            refine Wl.gT rfl rfl ?_
                            refine Wl.val rfl (V.idxW rfl rfl U_Sint64 Z_int64 hvn (by decide) (by omega)) ?_
                            refine Wl.gT rfl rfl ?_
                            refine Wl.val rfl (V.ldW rfl C_int64 hvn (nums_at (j := 1) (by omega))) ?_
                            refine Wl.gT rfl rfl ?_
                            first | refine Wl.callE rfl rfl (s_log_within (r.nums.getD 1 0) 0 4611686018427387904) ?_ | refine Wl.callD rfl rfl (s_log_within (r.nums.getD 1 0) 0 4611686018427387904) (by first | exact Take.here | exact Take.there Take.here | exact Take.there (Take.there Take.here) | exact Take.there (Take.there (Take.there Take.here)) | exact Take.none _ | exact TakeC.t | exact Take.there (Take.there (Take.there (Take.there Take.here))) | exact Take.there (Take.there (Take.there (Take.there (Take.there Take.here)))) | exact Take.there (Take.there (Take.there (Take.there (Take.there (Take.there Take.here)))))) ?_
                            refine Wl.val rfl (V.pickT rfl rfl) ?_
                            refine Wl.val rfl (V.move rfl) ?_
                            refine Wl.bool 119 rfl (fun hb119 => ?_) (fun hb119 => ?_)
                            · -- t119 is True
                              try replace hb119 := of_decide_eq_true hb119
                              refine Wl.gT rfl rfl ?_
                              refine Wl.val rfl (V.fld _ rfl O_api_Rec_1 rfl) ?_
                              refine Wl.gT rfl rfl ?_
                              refine Wl.val rfl (V.ld rfl C_Sint64 rfl) ?_
                              refine Wl.gT rfl rfl ?_
                              refine Wl.val rfl (V.idxW rfl rfl U_Sint64 Z_int64 hvn (by decide) (by omega)) ?_
                              refine Wl.gT rfl rfl ?_
                              refine Wl.val rfl (V.ldW rfl C_int64 hvn (nums_at (j := 2) (by omega))) ?_
                              refine Wl.gT rfl rfl ?_
                              first | refine Wl.callE rfl rfl (s_log_within (r.nums.getD 2 0) 0 4611686018427387904) ?_ | refine Wl.callD rfl rfl (s_log_within (r.nums.getD 2 0) 0 4611686018427387904) (by first | exact Take.here | exact Take.there Take.here | exact Take.there (Take.there Take.here) | exact Take.there (Take.there (Take.there Take.here)) | exact Take.none _ | exact TakeC.t | exact Take.there (Take.there (Take.there (Take.there Take.here))) | exact Take.there (Take.there (Take.there (Take.there (Take.there Take.here)))) | exact Take.there (Take.there (Take.there (Take.there (Take.there (Take.there Take.here)))))) ?_
                              refine Wl.val rfl (V.pickT rfl rfl) ?_
                              refine Wl.nil ?_
                              refine Wx.then_n ?_
                              refine Wc.cond rfl (fun hc5 => ?_) (fun hc5 => ?_)
                              · skip
                                try replace hc5 := of_decide_eq_true hc5
                                refine Wc.draws 21 mixed (by kernel_rfl) (S := row r17 T_api_Rec [i64 r.kind, nv, tv] * (own T_int64 1 nv r.nums.length (numsV r.nums) * (own T_string 1 tv r.texts.length (textsV r.texts) * (CellB cp d C * (Dev d D * F))))) (M := row r78 T_log_Log [ptr d, i64 (first : Nat), i64 (n : Nat), ptr cp, i64 1, i64 0, i64 0, .slice none 0 0]) (Ent.auto) ?_
                                refine Wr.take [0, 1, 2, 3, 4, 5, 6, 7, 8, 9, 10, 11, 12, 13, 14, 15, 16] 4 (by kernel_rfl) (by kernel_rfl) rfl rfl ?_
                                refine Wt.val rfl (V.move rfl) ?_
                                refine Wt.val rfl (V.move rfl) ?_
                                refine Wt.val rfl (V.move rfl) ?_
                                refine Wt.val rfl (V.fld _ rfl O_api_Rec_1 rfl) ?_
                                refine Wt.val rfl (V.ld rfl C_Sint64 rfl) ?_
                                refine Wt.val rfl (V.idxW rfl rfl U_Sint64 Z_int64 hvn (by decide) (by omega)) ?_
                                refine Wt.val rfl (V.ldW rfl C_int64 hvn (nums_at (j := 0) (by omega))) ?_
                                refine Wt.val rfl (V.fld _ rfl O_api_Rec_1 rfl) ?_
                                refine Wt.val rfl (V.ld rfl C_Sint64 rfl) ?_
                                refine Wt.val rfl (V.idxW rfl rfl U_Sint64 Z_int64 hvn (by decide) (by omega)) ?_
                                refine Wt.val rfl (V.ldW rfl C_int64 hvn (nums_at (j := 1) (by omega))) ?_
                                refine Wt.val rfl (V.fld _ rfl O_api_Rec_1 rfl) ?_
                                refine Wt.val rfl (V.ld rfl C_Sint64 rfl) ?_
                                refine Wt.val rfl (V.idxW rfl rfl U_Sint64 Z_int64 hvn (by decide) (by omega)) ?_
                                refine Wt.val rfl (V.ldW rfl C_int64 hvn (nums_at (j := 2) (by omega))) ?_
                                refine Wt.val rfl (V.nil rfl) ?_
                                refine Wt.val rfl (V.fld _ rfl O_log_Log_4 rfl) ?_
                                refine Wt.nil ?_
                                refine Wr.any [17] 3 (by kernel_rfl) rfl rfl ?_
                                refine Wm.st rfl rfl (Go.Sl.S.put rfl rfl C_int64 rfl rfl) rfl ?_ ?_
                                · skip
                                  refine Wr.take [18, 19] 1 (by kernel_rfl) (by kernel_rfl) rfl rfl ?_
                                  refine Wt.val rfl (V.nil rfl) ?_
                                  refine Wt.val rfl (V.fld _ rfl O_log_Log_5 rfl) ?_
                                  refine Wt.nil ?_
                                  refine Wr.any [20] 0 (by kernel_rfl) rfl rfl ?_
                                  refine Wm.st rfl rfl (Go.Sl.S.put rfl rfl C_int64 rfl rfl) rfl ?_ ?_
                                  · skip
                                    refine Wr.tail (by kernel_rfl) rfl ?_
                                    try refine Wl.ent (Ent.unemp _) ?_
                                    refine Wl.val rfl (V.nil rfl) ?_
                                    refine Wl.val rfl (V.fld _ rfl O_log_Log_6 rfl) ?_
                                    refine Wl.st (Go.Sl.S.put rfl rfl C_int64 rfl rfl) ?_
                                    refine Wl.nil ?_
                                    have hh : headOk r ec = true := by rw [headOk_eq]; clear hLo hLf; simp only [*, decide_true, Bool.true_and, Bool.and_self]
                                    rw [hLf, if_pos hh]
                                    dsimp only
                                    exact Wx.cutn Ent.auto ⟨rfl, rfl, trivial⟩
                                  exact Wm.nil
                                exact Wm.nil
                              · skip
                                try replace hc5 := of_decide_eq_false hc5
                                refine Wc.skip ?_
                                have hh : headOk r ec = false := by rw [headOk_eq]; clear hLo hLf hL0 hL1 hL2 hL3 hL4; simp only [*, decide_true, decide_false, Bool.true_and, Bool.false_and, Bool.and_false]
                                rw [hLf, if_neg (by rw [hh]; decide)]
                                dsimp only
                                exact Wx.cutn Ent.auto ⟨rfl, rfl, trivial⟩
                            · -- t119 is False
                              try replace hb119 := of_decide_eq_false hb119
                              refine Wl.gF rfl rfl rfl ?_
                              refine Wl.gF rfl rfl rfl ?_
                              refine Wl.gF rfl rfl rfl ?_
                              refine Wl.gF rfl rfl rfl ?_
                              refine Wl.gF rfl rfl rfl ?_
                              refine Wl.val rfl (V.pickF rfl rfl) ?_
                              refine Wl.nil ?_
                              refine Wx.then_n ?_
                              refine Wc.condF rfl ?_
                              refine Wc.skip ?_
                              have hh : headOk r ec = false := by rw [headOk_eq]; clear hLo hLf hL0 hL1 hL2 hL3 hL4; simp only [*, decide_true, decide_false, Bool.true_and, Bool.false_and, Bool.and_false]
                              rw [hLf, if_neg (by rw [hh]; decide)]
                              dsimp only
                              exact Wx.cutn Ent.auto ⟨rfl, rfl, trivial⟩
                          · -- t112 is False
                            try replace hb112 := of_decide_eq_false hb112
                            refine Wl.gF rfl rfl rfl ?_
                            refine Wl.gF rfl rfl rfl ?_
                            refine Wl.gF rfl rfl rfl ?_
                            refine Wl.gF rfl rfl rfl ?_
                            refine Wl.gF rfl rfl rfl ?_
                            refine Wl.val rfl (V.pickF rfl rfl) ?_
                            refine Wl.val rfl (V.move rfl) ?_
                            refine Wl.gF rfl rfl rfl ?_
                            refine Wl.gF rfl rfl rfl ?_
                            refine Wl.gF rfl rfl rfl ?_
                            refine Wl.gF rfl rfl rfl ?_
                            refine Wl.gF rfl rfl rfl ?_
                            refine Wl.val rfl (V.pickF rfl rfl) ?_
                            refine Wl.nil ?_
                            refine Wx.then_n ?_
                            refine Wc.condF rfl ?_
                            refine Wc.skip ?_
                            have hh : headOk r ec = false := by rw [headOk_eq]; clear hLo hLf hL0 hL1 hL2 hL3 hL4; simp only [*, decide_true, decide_false, Bool.true_and, Bool.false_and, Bool.and_false]
                            rw [hLf, if_neg (by rw [hh]; decide)]
                            dsimp only
                            exact Wx.cutn Ent.auto ⟨rfl, rfl, trivial⟩
                        · -- t105 is False
                          try replace hb105 := of_decide_eq_false hb105
                          refine Wl.gF rfl rfl rfl ?_
                          refine Wl.gF rfl rfl rfl ?_
                          refine Wl.gF rfl rfl rfl ?_
                          refine Wl.gF rfl rfl rfl ?_
                          refine Wl.gF rfl rfl rfl ?_
                          refine Wl.val rfl (V.pickF rfl rfl) ?_
                          refine Wl.val rfl (V.move rfl) ?_
                          refine Wl.gF rfl rfl rfl ?_
                          refine Wl.gF rfl rfl rfl ?_
                          refine Wl.gF rfl rfl rfl ?_
                          refine Wl.gF rfl rfl rfl ?_
                          refine Wl.gF rfl rfl rfl ?_
                          refine Wl.val rfl (V.pickF rfl rfl) ?_
                          refine Wl.val rfl (V.move rfl) ?_
                          refine Wl.gF rfl rfl rfl ?_
                          refine Wl.gF rfl rfl rfl ?_
                          refine Wl.gF rfl rfl rfl ?_
                          refine Wl.gF rfl rfl rfl ?_
                          refine Wl.gF rfl rfl rfl ?_
                          refine Wl.val rfl (V.pickF rfl rfl) ?_
                          refine Wl.nil ?_
                          refine Wx.then_n ?_
                          refine Wc.condF rfl ?_
                          refine Wc.skip ?_
                          have hh : headOk r ec = false := by rw [headOk_eq]; clear hLo hLf hL0 hL1 hL2 hL3 hL4; simp only [*, decide_true, decide_false, Bool.true_and, Bool.false_and, Bool.and_false]
                          rw [hLf, if_neg (by rw [hh]; decide)]
                          dsimp only
                          exact Wx.cutn Ent.auto ⟨rfl, rfl, trivial⟩
                      · -- t99 is False
                        try replace hb99 := of_decide_eq_false hb99
                        refine Wl.gF rfl rfl rfl ?_
                        refine Wl.gF rfl rfl rfl ?_
                        refine Wl.gF rfl rfl rfl ?_
                        refine Wl.gF rfl rfl rfl ?_
                        refine Wl.val rfl (V.pickF rfl rfl) ?_
                        refine Wl.val rfl (V.move rfl) ?_
                        refine Wl.gF rfl rfl rfl ?_
                        refine Wl.gF rfl rfl rfl ?_
                        refine Wl.gF rfl rfl rfl ?_
                        refine Wl.gF rfl rfl rfl ?_
                        refine Wl.gF rfl rfl rfl ?_
                        refine Wl.val rfl (V.pickF rfl rfl) ?_
                        refine Wl.val rfl (V.move rfl) ?_
                        refine Wl.gF rfl rfl rfl ?_
                        refine Wl.gF rfl rfl rfl ?_
                        refine Wl.gF rfl rfl rfl ?_
                        refine Wl.gF rfl rfl rfl ?_
                        refine Wl.gF rfl rfl rfl ?_
                        refine Wl.val rfl (V.pickF rfl rfl) ?_
                        refine Wl.val rfl (V.move rfl) ?_
                        refine Wl.gF rfl rfl rfl ?_
                        refine Wl.gF rfl rfl rfl ?_
                        refine Wl.gF rfl rfl rfl ?_
                        refine Wl.gF rfl rfl rfl ?_
                        refine Wl.gF rfl rfl rfl ?_
                        refine Wl.val rfl (V.pickF rfl rfl) ?_
                        refine Wl.nil ?_
                        refine Wx.then_n ?_
                        refine Wc.condF rfl ?_
                        refine Wc.skip ?_
                        have hh : headOk r ec = false := by rw [headOk_eq]; clear hLo hLf hL0 hL1 hL2 hL3 hL4; simp only [*, decide_true, decide_false, Bool.true_and, Bool.false_and, Bool.and_false]
                        rw [hLf, if_neg (by rw [hh]; decide)]
                        dsimp only
                        exact Wx.cutn Ent.auto ⟨rfl, rfl, trivial⟩
                    · -- t93 is False
                      try replace hb93 := of_decide_eq_false hb93
                      refine Wl.gF rfl rfl rfl ?_
                      refine Wl.gF rfl rfl rfl ?_
                      refine Wl.gF rfl rfl rfl ?_
                      refine Wl.gF rfl rfl rfl ?_
                      refine Wl.val rfl (V.pickF rfl rfl) ?_
                      refine Wl.val rfl (V.move rfl) ?_
                      refine Wl.gF rfl rfl rfl ?_
                      refine Wl.gF rfl rfl rfl ?_
                      refine Wl.gF rfl rfl rfl ?_
                      refine Wl.gF rfl rfl rfl ?_
                      refine Wl.val rfl (V.pickF rfl rfl) ?_
                      refine Wl.val rfl (V.move rfl) ?_
                      refine Wl.gF rfl rfl rfl ?_
                      refine Wl.gF rfl rfl rfl ?_
                      refine Wl.gF rfl rfl rfl ?_
                      refine Wl.gF rfl rfl rfl ?_
                      refine Wl.gF rfl rfl rfl ?_
                      refine Wl.val rfl (V.pickF rfl rfl) ?_
                      refine Wl.val rfl (V.move rfl) ?_
                      refine Wl.gF rfl rfl rfl ?_
                      refine Wl.gF rfl rfl rfl ?_
                      refine Wl.gF rfl rfl rfl ?_
                      refine Wl.gF rfl rfl rfl ?_
                      refine Wl.gF rfl rfl rfl ?_
                      refine Wl.val rfl (V.pickF rfl rfl) ?_
                      refine Wl.val rfl (V.move rfl) ?_
                      refine Wl.gF rfl rfl rfl ?_
                      refine Wl.gF rfl rfl rfl ?_
                      refine Wl.gF rfl rfl rfl ?_
                      refine Wl.gF rfl rfl rfl ?_
                      refine Wl.gF rfl rfl rfl ?_
                      refine Wl.val rfl (V.pickF rfl rfl) ?_
                      refine Wl.nil ?_
                      refine Wx.then_n ?_
                      refine Wc.condF rfl ?_
                      refine Wc.skip ?_
                      have hh : headOk r ec = false := by rw [headOk_eq]; clear hLo hLf hL0 hL1 hL2 hL3 hL4; simp only [*, decide_true, decide_false, Bool.true_and, Bool.false_and, Bool.and_false]
                      rw [hLf, if_neg (by rw [hh]; decide)]
                      dsimp only
                      exact Wx.cutn Ent.auto ⟨rfl, rfl, trivial⟩
                  · -- t88 is False
                    try replace hb88 := of_decide_eq_false hb88
                    refine Wl.gF rfl rfl rfl ?_
                    refine Wl.gF rfl rfl rfl ?_
                    refine Wl.gF rfl rfl rfl ?_
                    refine Wl.val rfl (V.pickF rfl rfl) ?_
                    refine Wl.val rfl (V.move rfl) ?_
                    refine Wl.gF rfl rfl rfl ?_
                    refine Wl.gF rfl rfl rfl ?_
                    refine Wl.gF rfl rfl rfl ?_
                    refine Wl.gF rfl rfl rfl ?_
                    refine Wl.val rfl (V.pickF rfl rfl) ?_
                    refine Wl.val rfl (V.move rfl) ?_
                    refine Wl.gF rfl rfl rfl ?_
                    refine Wl.gF rfl rfl rfl ?_
                    refine Wl.gF rfl rfl rfl ?_
                    refine Wl.gF rfl rfl rfl ?_
                    refine Wl.val rfl (V.pickF rfl rfl) ?_
                    refine Wl.val rfl (V.move rfl) ?_
                    refine Wl.gF rfl rfl rfl ?_
                    refine Wl.gF rfl rfl rfl ?_
                    refine Wl.gF rfl rfl rfl ?_
                    refine Wl.gF rfl rfl rfl ?_
                    refine Wl.gF rfl rfl rfl ?_
                    refine Wl.val rfl (V.pickF rfl rfl) ?_
                    refine Wl.val rfl (V.move rfl) ?_
                    refine Wl.gF rfl rfl rfl ?_
                    refine Wl.gF rfl rfl rfl ?_
                    refine Wl.gF rfl rfl rfl ?_
                    refine Wl.gF rfl rfl rfl ?_
                    refine Wl.gF rfl rfl rfl ?_
                    refine Wl.val rfl (V.pickF rfl rfl) ?_
                    refine Wl.val rfl (V.move rfl) ?_
                    refine Wl.gF rfl rfl rfl ?_
                    refine Wl.gF rfl rfl rfl ?_
                    refine Wl.gF rfl rfl rfl ?_
                    refine Wl.gF rfl rfl rfl ?_
                    refine Wl.gF rfl rfl rfl ?_
                    refine Wl.val rfl (V.pickF rfl rfl) ?_
                    refine Wl.nil ?_
                    refine Wx.then_n ?_
                    refine Wc.condF rfl ?_
                    refine Wc.skip ?_
                    have hh : headOk r ec = false := by rw [headOk_eq]; clear hLo hLf hL0 hL1 hL2 hL3 hL4; simp only [*, decide_true, decide_false, Bool.true_and, Bool.false_and, Bool.and_false]
                    rw [hLf, if_neg (by rw [hh]; decide)]
                    dsimp only
                    exact Wx.cutn Ent.auto ⟨rfl, rfl, trivial⟩
                · skip
                  generalize logFirst C first n = L0 at *
                  refine Wc.seq ?_
                  refine Wc.seq ?_
                  refine Wc.region ?_
                  refine Wl.val rfl (V.move rfl) ?_
                  refine Wl.val rfl (V.nil rfl) ?_
                  refine Wl.val rfl (V.fld _ rfl O_log_Log_5 rfl) ?_
                  refine Wl.val rfl (V.ld rfl C_int64 rfl) ?_
                  refine Wl.val rfl (V.eql rfl rfl) ?_
                  refine Wl.nil ?_
                  refine Wx.then_n ?_
                  refine Wc.cond rfl (fun hc6 => ?_) (fun hc6 => ?_)
                  · skip
                    try replace hc6 := of_decide_eq_true hc6
                    refine Wc.seq ?_
                    refine Wc.region ?_
                    refine Wl.val rfl (V.assign rfl) ?_
                    refine Wl.val rfl (V.assign rfl) ?_
                    refine Wl.nil ?_
                    refine Wx.then_n ?_
                    refine Wc.ret ?_
                    repeat (first | refine Wx.then_r ?_ | refine Wx.blk_r ?_ | refine Wx.ng_r ?_)
                    refine Wx.ret2 rfl rfl rfl rfl ?_
                    rw [ex_mul]; refine Ent.ex none ?_
                    rw [hLo, if_pos (by assumption)]
                    show Ent _ (pu _ * (emp * Dev d D) * F)
                    exact Ent.resC ⟨rfl, by simp⟩
                  · skip
                    try replace hc6 := of_decide_eq_false hc6
                    refine Wc.skip ?_
                    refine Wx.then_n ?_
                    refine Wc.seq ?_
                    refine Wc.region ?_
                    refine Wl.val rfl (V.move rfl) ?_
                    refine Wl.ent (Log.fresh r78 d cp L0 hL1 _) ?_
                    refine Wl.callD rfl rfl (s_log_Log_scan r78 d hL0 hal hL1 (by omega)) (Take.two Take.here Take.here) ?_
                    obtain ⟨hs0, hs1, hs2, hs3⟩ := hL0.scan hL1 hL2
                    have hst := hs0.time
                    have hsh := hs0.head
                    have hsl := hs0.least
                    have htick := hs0.tick (by rw [hs2]; assumption)
                    rw [if_neg (by assumption)] at hLo
                    generalize logScan D L0 = L1 at *
                    refine Wl.ent (H' := Log r78 d L1 * (Dev d D * F)) Ent.auto ?_
                    refine Wl.exm (fun q => ?_)
                    obtain ⟨cp', lv'⟩ := q
                    dsimp only
                    refine Wl.nil ?_
                    refine Wx.then_n ?_
                    refine Wc.seq ?_
                    refine Wc.region ?_
                    refine Wl.val rfl (V.move rfl) ?_
                    refine Wl.val rfl (V.nil rfl) ?_
                    refine Wl.val rfl (V.fld _ rfl O_log_Log_5 rfl) ?_
                    refine Wl.val rfl (V.ld rfl C_int64 rfl) ?_
                    refine Wl.val rfl (V.addk rfl rfl (wr64 (by omega) (by omega))) ?_
                    refine Wl.val rfl (V.nil rfl) ?_
                    refine Wl.val rfl (V.fld _ rfl O_log_Log_5 rfl) ?_
                    refine Wl.st (Go.Sl.S.put rfl rfl C_int64 rfl rfl) ?_
                    refine Wl.nil ?_
                    refine Wx.then_n ?_
                    refine Wc.seq ?_
                    refine Wc.seq ?_
                    refine Wc.draws 9 mixed (by kernel_rfl) (S := _) (M := emp) (Ent.empR _) ?_
                    refine Wr.take [0, 1, 2, 3, 4, 5, 6, 7, 8] 0 (by kernel_rfl) (by kernel_rfl) rfl rfl ?_
                    refine Wt.val rfl (V.move rfl) ?_
                    refine Wt.val rfl (V.move rfl) ?_
                    refine Wt.val rfl (V.nil rfl) ?_
                    refine Wt.val rfl (V.fld _ rfl O_log_Log_4 rfl) ?_
                    refine Wt.val rfl (V.ld rfl C_int64 rfl) ?_
                    refine Wt.val rfl (V.move rfl) ?_
                    refine Wt.val rfl (V.nil rfl) ?_
                    refine Wt.val rfl (V.fld _ rfl O_log_Log_6 rfl) ?_
                    refine Wt.val rfl (V.ld rfl C_int64 rfl) ?_
                    refine Wt.nil ?_
                    refine Wr.tail (by kernel_rfl) rfl ?_
                    refine Wl.ent (H' := LogB r78 d cp' lv' { L1 with time := L1.time + 1 } * (Dev d D * F)) Ent.auto ?_
                    first | refine Wl.callE rfl rfl (s_log_Log_put r78 d cp' lv' htick L1.head L1.least (by unfold I64; omega) hsl) ?_ | refine Wl.callD rfl rfl (s_log_Log_put r78 d cp' lv' htick L1.head L1.least (by unfold I64; omega) hsl) (Take.two Take.here Take.here) ?_
                    refine Wl.val rfl (V.assign rfl) ?_
                    refine Wl.nil ?_
                    refine Wx.then_n ?_
                    refine Wc.seq ?_
                    refine Wc.region ?_
                    refine Wl.val rfl (V.move rfl) ?_
                    refine Wl.val rfl (V.neq rfl rfl) ?_
                    refine Wl.nil ?_
                    refine Wx.then_n ?_
                    refine Wc.cond rfl (fun hc7 => ?_) (fun hc7 => ?_)
                    · skip
                      try replace hc7 := of_decide_eq_true hc7
                      refine Wc.seq ?_
                      refine Wc.region ?_
                      refine Wl.val rfl (V.move rfl) ?_
                      refine Wl.val rfl (V.assign rfl) ?_
                      refine Wl.val rfl (V.assign rfl) ?_
                      refine Wl.nil ?_
                      refine Wx.then_n ?_
                      refine Wc.ret ?_
                      repeat (first | refine Wx.then_r ?_ | refine Wx.blk_r ?_ | refine Wx.ng_r ?_)
                      refine Wx.ret2 rfl rfl rfl rfl ?_
                      rw [ex_mul]; refine Ent.ex none ?_
                      rw [← hLo]
                      show Ent _ (pu _ * (emp * Dev d (logOpen D first n a b).1) * F)
                      exact Ent.resC ⟨rfl, by simp; rw [hLo]; simpa using hc7⟩
                    · skip
                      try replace hc7 := of_decide_eq_false hc7
                      refine Wc.skip ?_
                      refine Wx.then_n ?_
                      refine Wc.seq ?_
                      refine Wc.region ?_
                      refine Wl.val rfl (V.move rfl) ?_
                      refine Wl.val rfl (V.assign rfl) ?_
                      refine Wl.val rfl (V.assign rfl) ?_
                      refine Wl.nil ?_
                      refine Wx.then_n ?_
                      refine Wc.ret ?_
                      repeat (first | refine Wx.then_r ?_ | refine Wx.blk_r ?_ | refine Wx.ng_r ?_)
                      refine Wx.ret2 rfl rfl rfl rfl ?_
                      rw [ex_mul]; refine Ent.ex (some r78) ?_
                      rw [← hLo] at hc7 ⊢
                      have he : (logOpen D first n a b).2.2 = 0 := by simpa using hc7
                      exact Ent.log (cp := cp') (lv := lv') ⟨by rw [he]; rfl, by simp [he]⟩
end Go.Proofs.YtjfacgmobpbhcaaGreat
