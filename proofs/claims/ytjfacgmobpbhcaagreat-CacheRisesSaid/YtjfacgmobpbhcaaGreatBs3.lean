/- Part 3: what the proof of the law rests on: the walks of the functions that it calls, and the plain laws of what they compute. -/
import Derived.Test.YtjfacgmobpbhcaaGreatBs2
/- Plain: the states that the laws on caches go through. -/
namespace Sei
open Go Go.Sl
abbrev ActL := List (ActM × Value × Value)
/-- The state behind k acts. -/
def stN (ring : Nat) (acts : ActL) : Nat → DevM × CacheM
  | 0 => ((open0 ring).1, (open0 ring).2.1)
  | k + 1 => match acts[k]? with
    | some a => ((lDo (stN ring acts k).1 (stN ring acts k).2 a.1).1, (lDo (stN ring acts k).1 (stN ring acts k).2 a.1).2.1)
    | none => stN ring acts k
theorem stN_next {ring : Nat} {acts : ActL} {k : Nat} {a : ActM × Value × Value} (h : acts[k]? = some a) : stN ring acts (k + 1) = ((lDo (stN ring acts k).1 (stN ring acts k).2 a.1).1, (lDo (stN ring acts k).1 (stN ring acts k).2 a.1).2.1) := by
  rw [stN, h]
/-- What the walks of the laws are told of the states. -/
structure LawOk (ring : Nat) (acts : ActL) : Prop where
  opened : (open0 ring).2.2 = 0
  ok : ∀ k, k ≤ 60 → CacheOk (stN ring acts k).1 (stN ring acts k).2
def errOk (e : Int) : Prop := e = 0 ∨ e = 2 ∨ e = 3 ∨ e = 1 ∨ e = 12 ∨ e = 10
structure ErrsOk (ring : Nat) (acts : ActL) : Prop extends LawOk ring acts where
  errs : ∀ k a, k < 60 → acts[k]? = some a → errOk (lDo (stN ring acts k).1 (stN ring acts k).2 a.1).2.2 ∧ ((lDo (stN ring acts k).1 (stN ring acts k).2 a.1).2.2 ≠ 0 → toldOf (stN ring acts (k + 1)).2 = toldOf (stN ring acts k).2)
/-- Likewise, but Reset is passed over. -/
def stR (ring : Nat) (acts : ActL) : Nat → DevM × CacheM
  | 0 => ((open0 ring).1, (open0 ring).2.1)
  | k + 1 => match acts[k]? with
    | some a => if a.1.kind = 8 then stR ring acts k else ((lDo (stR ring acts k).1 (stR ring acts k).2 a.1).1, (lDo (stR ring acts k).1 (stR ring acts k).2 a.1).2.1)
    | none => stR ring acts k
theorem stR_next {ring : Nat} {acts : ActL} {k : Nat} {a : ActM × Value × Value} (h : acts[k]? = some a) (h8 : ¬ a.1.kind = 8) : stR ring acts (k + 1) = ((lDo (stR ring acts k).1 (stR ring acts k).2 a.1).1, (lDo (stR ring acts k).1 (stR ring acts k).2 a.1).2.1) := by
  rw [stR, h]; dsimp only; rw [if_neg h8]
theorem stR_pass {ring : Nat} {acts : ActL} {k : Nat} {a : ActM × Value × Value} (h : acts[k]? = some a) (h8 : a.1.kind = 8) : stR ring acts (k + 1) = stR ring acts k := by
  rw [stR, h]; dsimp only; rw [if_pos h8]
structure RiseOk (ring : Nat) (acts : ActL) : Prop where
  opened : (open0 ring).2.2 = 0
  ok : ∀ k, k ≤ 60 → CacheOk (stR ring acts k).1 (stR ring acts k).2
  last : ∀ k, k < 60 → above (stR ring acts k).2.kept.last (stR ring acts (k + 1)).2.kept.last = false
  t : ∀ k i, k < 60 → tabGet (stR ring acts k).2.kept.t i ≤ tabGet (stR ring acts (k + 1)).2.kept.t i
  ents : ∀ k e, k ≤ 60 → e ∈ cAll (stR ring acts k).2 → above e.v (stR ring acts k).2.kept.last = false
def skipB (a : ActM) (y : Ety) : Bool := decide (a.kind ≤ 2) && decide (y.block = a.e.block)
def placeB (C : CacheM) (a : ActM) : Bool := decide (a.kind = 0) && (!(cGet C a.e.block).2 && decide (cRoom C ≤ ((cAll C).length : Int)))
def goneB (C : CacheM) (a : ActM) (C' : CacheM) (y : Ety) : Bool := !(cGet C' y.block).2 && (placeB C a && !y.dirty)
def goneN (p : Ety → Bool) (l : List Ety) (x : Nat) : Nat := (l.take x).countP p
theorem goneN_next {p : Ety → Bool} {l : List Ety} {x : Nat} {y : Ety} (h : l[x]? = some y) : goneN p l (x + 1) = goneN p l x + if p y then 1 else 0 := by
  unfold goneN
  rw [List.take_add_one, h, List.countP_append]
  simp
theorem goneN_le (p : Ety → Bool) (l : List Ety) (x : Nat) : goneN p l x ≤ x := Nat.le_trans List.countP_le_length (by simp; omega)
def leaves (C : CacheM) (a : ActM) (C' : CacheM) (y : Ety) : Bool := !skipB a y && goneB C a C' y
structure ApartOk (ring : Nat) (acts : ActL) : Prop extends LawOk ring acts where
  same : ∀ k a y, k < 60 → acts[k]? = some a → y ∈ cAll (stN ring acts k).2 → skipB a.1 y = false → goneB (stN ring acts k).2 a.1 (stN ring acts (k + 1)).2 y = false → cGet (stN ring acts (k + 1)).2 y.block = (y, true)
  gone : ∀ k a, k < 60 → acts[k]? = some a → (cAll (stN ring acts k).2).countP (leaves (stN ring acts k).2 a.1 (stN ring acts (k + 1)).2) ≤ 1
  many : ∀ k, k < 60 → ((cAll (stN ring acts (k + 1)).2).length : Int) ≤ max (cRoom (stN ring acts (k + 1)).2) ((cAll (stN ring acts k).2).length : Int)
structure ResetOk (ring : Nat) (acts : ActL) (v : Ver) (l : List Int) : Prop extends LawOk ring acts where
  okR : ∀ k, k ≤ 60 → CacheOk (cReset (stN ring acts k).1 (stN ring acts k).2 v l).1 (cReset (stN ring acts k).1 (stN ring acts k).2 v l).2.1
  errs : ∀ k, k ≤ 60 → (cReset (stN ring acts k).1 (stN ring acts k).2 v l).2.2 ≠ 0 → (cReset (stN ring acts k).1 (stN ring acts k).2 v l).2.2 = 1 ∧ toldOf (cReset (stN ring acts k).1 (stN ring acts k).2 v l).2.1 = toldOf (stN ring acts k).2
  sets : ∀ k, k ≤ 60 → (cReset (stN ring acts k).1 (stN ring acts k).2 v l).2.2 = 0 → l.length = 4 ∧ (cReset (stN ring acts k).1 (stN ring acts k).2 v l).2.1.kept = ⟨v, tabOf l⟩ ∧ cAll (cReset (stN ring acts k).1 (stN ring acts k).2 v l).2.1 = cAll (stN ring acts k).2
  notes : ∀ k, k ≤ 60 → (cReset (stN ring acts k).1 (stN ring acts k).2 v l).2.2 = 0 → ∀ R, R = cReset (stN ring acts k).1 (stN ring acts k).2 v l → (cNote R.1 R.2.1 ver0 [0, 0, 0, 0]).2.2 = 0 ∧ toldOf (cNote R.1 R.2.1 ver0 [0, 0, 0, 0]).2.1 = toldOf R.2.1 ∧ CacheOk (cNote R.1 R.2.1 ver0 [0, 0, 0, 0]).1 (cNote R.1 R.2.1 ver0 [0, 0, 0, 0]).2.1
end Sei
/- Plain: the calls by which a law finds a cache awake. -/
namespace Sei
open Go Go.Sl
def awE (b s : Int) : Ety := ⟨b, ⟨1, s⟩, [97, 98, 99, 100, 101, 102, 103, 104], true, 1, s⟩
def aw1 : DevM × CacheM × Int := cOpen (devNew 10) 2 8 0 1 4
def aw2 : DevM × CacheM × Int := cPut aw1.1 aw1.2.1 (awE 0 1)
def aw3 : DevM × CacheM × Int := cPut aw2.1 aw2.2.1 (awE 1 2)
def aw4 : DevM × CacheM × Int := cPut aw3.1 aw3.2.1 (awE 2 3)
def aw5 : DevM × CacheM × Int := cClean aw4.1 aw4.2.1 0 ⟨1, 1⟩
def aw6 : DevM × CacheM × Int := cPut aw5.1 aw5.2.1 (awE 2 3)
def aw7 : DevM × CacheM × Int := cPut aw6.1 aw6.2.1 (awE 1 3)
def aw8 : DevM × CacheM × Int := cSync aw7.1 aw7.2.1
def aw9 : DevM × CacheM × Int := cOpen (devUp aw8.1) 2 8 0 1 4
set_option maxRecDepth 100000
theorem aw_ok1 : aw1.2.2 = 0 ∧ (cOpen aw1.1 2 7 0 1 4).2.2 = 1 ∧ (cOpen aw1.1 2 7 0 1 4).1 = aw1.1 ∧ cRoom aw1.2.1 = 2 := by decide +kernel
theorem aw_ok2 : aw2.2.2 = 0 ∧ aw3.2.2 = 0 ∧ aw4.2.2 = 12 ∧ aw5.2.2 = 0 ∧ aw6.2.2 = 0 ∧ aw7.2.2 = 1 ∧ aw8.2.2 = 0 := by decide +kernel
theorem aw_ok3 : aw8.1.pend = [] ∧ aw9.2.2 = 0 := by decide +kernel
theorem aw_ok4 : (cGet aw9.2.1 0).2 = false ∧ cGet aw9.2.1 2 = (awE 2 3, true) ∧ (cAll aw9.2.1).length = 2 ∧ aw9.2.1.kept.last = ⟨1, 3⟩ ∧ cNumber aw9.2.1 1 = 3 := by decide +kernel
theorem aw_ok5 : (cDrop aw9.1 aw9.2.1 0).2.2 = 10 ∧ (cNote (cDrop aw9.1 aw9.2.1 0).1 (cDrop aw9.1 aw9.2.1 0).2.1 ver0 []).2.2 = 1 := by decide +kernel
theorem aw_ok6 : aw1.1.dead = false ∧ aw1.1.l.length = 10 ∧ aw8.1.l.length = 10 := by decide +kernel
theorem open_all : ∀ ring, ring < 256 → (open0 ring).2.2 = 0 := by decide +kernel
end Sei
/- Plain: what holds of caches stays, call by call. -/
namespace Sei
open Go Go.Sl
theorem devBarrier_len' (D : DevM) : (devBarrier D).1.l.length = D.l.length := devBarrier_len D
theorem CacheOk.sync {D : DevM} {C : CacheM} (h : CacheOk D C) : CacheOk (cSync D C).1 (cSync D C).2.1 := h.of_log h.log.barrier rfl rfl
theorem tabOf_ok {l : List Int} (hl : ∀ n ∈ l, I64 n) : tabOk (tabOf l) := ⟨getD_I64 hl 0, getD_I64 hl 1, getD_I64 hl 2, getD_I64 hl 3⟩
theorem CacheOk.put {D : DevM} {C : CacheM} (h : CacheOk D C) {e : Ety} (hv : verOk e.v) (hn : I64 e.n) : CacheOk (cPut D C e).1 (cPut D C e).2.1 := by
  by_cases h1 : (!inB C.blocks e.block) = true
  · rw [cPut, if_pos h1]; exact h
  by_cases h2 : (e.data.length : Int) ≠ 8
  · rw [cPut, if_neg h1, if_pos h2]; exact h
  by_cases h3 : (!above e.v C.kept.last || (!mayV e.v 1 || (!withinB e.client (-1) 3 || odd e.n))) = true
  · rw [cPut, if_neg h1, if_neg h2, if_pos h3]; exact h
  have h2' : (e.data.length : Int) = 8 := by simpa using h2
  have h1' : (!inB C.blocks e.block) = false := by simpa using h1
  have h3' : (!above e.v C.kept.last || (!mayV e.v 1 || (!withinB e.client (-1) 3 || odd e.n))) = false := by simpa using h3
  have he : etyOk C.blocks e := put_ok hv hn h1' h2' h3'
  have hk := putKept_ok h hv hn
  rw [cPut_ok h1' h2' h3']
  split
  · exact (h.come (w := .put e) he hk).1
  · cases hs : cSpare C with
    | none => exact h
    | some old =>
      have hc := h.come (w := .drop old) (cSpare_ok h hs) h.kept
      dsimp only
      split
      · exact hc.1
      · exact (hc.1.add (w := .put e) (by rw [hc.2.2]; exact he) hk).1
theorem CacheOk.clean {D : DevM} {C : CacheM} (h : CacheOk D C) (b : Int) {v : Ver} (hv : verOk v) : CacheOk (cClean D C b v).1 (cClean D C b v).2.1 := by
  unfold cClean
  cases hf : afind C.entries b with
  | none => exact h
  | some e =>
    obtain ⟨h1, h2⟩ := entOf h hf
    dsimp only
    split
    · exact h
    · split
      · exact h
      · exact (h.come (w := .clean b v) ⟨by rw [← h1]; exact h2.1, hv⟩ h.kept).1
theorem CacheOk.drop {D : DevM} {C : CacheM} (h : CacheOk D C) (b : Int) : CacheOk (cDrop D C b).1 (cDrop D C b).2.1 := by
  unfold cDrop
  split
  · rename_i hf
    obtain ⟨e, he⟩ := Option.isSome_iff_exists.1 hf
    obtain ⟨h1, h2⟩ := entOf h he
    exact (h.come (w := .drop b) (by show 0 ≤ b ∧ b < C.blocks; rw [← h1]; exact h2.1) h.kept).1
  · exact h
theorem CacheOk.reset {D : DevM} {C : CacheM} (h : CacheOk D C) {v : Ver} (hv : verOk v) {l : List Int} (hl : ∀ n ∈ l, I64 n) : CacheOk (cReset D C v l).1 (cReset D C v l).2.1 := by
  unfold cReset
  split
  · exact h
  · exact (h.come (w := .note) trivial ⟨hv, tabOf_ok hl⟩).1
theorem CacheOk.noted {D : DevM} {C : CacheM} (h : CacheOk D C) {v : Ver} (hv : verOk v) {l : List Int} (hl : ∀ n ∈ l, I64 n) : CacheOk (cNote D C v l).1 (cNote D C v l).2.1 := by
  unfold cNote
  split
  · exact h
  · exact (h.come (w := .note) trivial (noteKept_ok h hv hl)).1
theorem CacheOk.lDo {D : DevM} {C : CacheM} (h : CacheOk D C) {x : ActM} (hx : ActOk x) : CacheOk (lDo D C x).1 (lDo D C x).2.1 := by
  unfold Sei.lDo
  split
  · exact h.put hx.v hx.en
  · split
    · exact h.clean _ hx.v
    · split
      · exact h.drop _
      · split
        · exact h.noted hx.v hx.t
        · split
          · exact h.reset hx.v hx.t
          · split
            · exact h.sync
            · exact h
theorem replay_ok {D : DevM} {L : LogM} {blocks : Int} {C0 : CacheM} : ∀ (l : List (List UInt8)) (i : Nat) (C C' : CacheM), RepI D L blocks i C C0 → (L.items.map (·.1)).drop i = l → replay l (L.head + i) C = some C' → CacheOk D C' ∧ C'.log = L ∧ C'.blocks = blocks
  | [], i, C, C', h, hl, hr => by
    simp only [replay, Option.some.injEq] at hr
    subst hr
    exact ⟨h.ok, h.log, h.blocks⟩
  | s :: l, i, C, C', h, hl, hr => by
    have hs : (L.items.map (·.1))[i]? = some s := by
      have := congrArg List.head? hl
      rw [List.head?_drop] at this
      simpa using this
    have hl' : (L.items.map (·.1)).drop (i + 1) = l := by
      have := congrArg List.tail hl
      rw [List.tail_drop] at this
      simpa using this
    unfold replay at hr
    cases hc : cRead C.blocks s with
    | none => rw [hc] at hr; cases hr
    | some q =>
      obtain ⟨w, k⟩ := q
      rw [hc] at hr
      dsimp only at hr
      refine replay_ok l (i + 1) _ C' (h.step hs hc) hl' ?_
      rw [show L.head + ((i + 1 : Nat) : Int) = L.head + (i : Int) + 1 by omega]
      exact hr
theorem cOpen_ok {D : DevM} (hD : DevOk D) (first n a b : Nat) (blocks : Int) (hn : 2 ≤ n) (hf : first + n ≤ D.l.length) (h0 : (cOpen D first n a b blocks).2.2 = 0) : CacheOk (cOpen D first n a b blocks).1 (cOpen D first n a b blocks).2.1 := by
  by_cases ha : blocks < 1 ∨ 32 < blocks ∨ (n : Int) < 8
  · rw [cOpen_arg ha] at h0; cases h0
  · obtain ⟨hL, hLn⟩ := logOpen_ok hD first n a b hn hf
    cases hq : logOpen D first n a b with
    | mk D' q =>
      obtain ⟨L, e⟩ := q
      rw [hq] at hL hLn
      rw [cOpen_log ha hq] at h0 ⊢
      split at h0
      · rename_i he; exact absurd h0 he
      · rename_i he
        rw [if_neg he]
        have hLn : L.n = n := hLn
        have hst := RepI.start (D := D') (L := L) hL (blocks := blocks) (by omega)
        rw [hLn] at hst
        cases hr : replay (L.items.map (·.1)) L.head (cFresh L blocks n) with
        | none => rw [hr] at h0; cases h0
        | some C =>
          have := replay_ok (L.items.map (·.1)) 0 _ C hst rfl (by simpa using hr)
          exact this.1
theorem open0_ok {ring : Nat} (hr : ring < 256) : CacheOk (open0 ring).1 (open0 ring).2.1 := by
  have h := open_all ring hr
  unfold open0 at h ⊢
  have hn : openN ring ≤ 37 := by unfold openN; omega
  have hn2 : 8 ≤ openN ring := by unfold openN; omega
  exact cOpen_ok (devNew_ok _ (by omega)) 2 (openN ring) 0 1 32 (by omega) (by simp [devNew]; omega) h
end Sei
/- Plain: caches on a device that answers: what each call does. -/
namespace Sei
open Go Go.Sl
/-! ### lists -/
theorem nodup_le {α : Type} [DecidableEq α] : ∀ (l m : List α), l.Nodup → (∀ x ∈ l, x ∈ m) → l.length ≤ m.length
  | [], _, _, _ => Nat.zero_le _
  | a :: l, m, hn, h => by
    have ha := h a (by simp)
    obtain ⟨h1, h2⟩ := List.nodup_cons.1 hn
    have := nodup_le l (m.erase a) h2 fun x hx => (List.mem_erase_of_ne (by rintro rfl; exact h1 hx)).2 (h x (by simp [hx]))
    rw [List.length_erase_of_mem ha] at this
    have hp : 0 < m.length := List.length_pos_of_mem ha
    simp only [List.length_cons]; omega
/-! ### lengths of records -/
theorem enc_len (r : Rec) : (enc r).1.length ≤ 2 + (r.nums.length * 10 + (r.texts.flatMap textB).length) := by
  cases h : mayRec r with
  | false => rw [enc_no h]; simp
  | true =>
    have : (enc r).1 = encB r := by simp [enc, h]
    have h2 := flat_le numB 10 r.nums fun x _ => numB_len x
    rw [this]; simp only [encB, List.length_append, List.length_cons, List.length_nil]; omega
theorem framed_len (b : List UInt8) : (framed b).length = b.length + 5 := by simp [framed, be32, lenB]
theorem slot_len (gen : Int) {s : List UInt8} (h : s.length ≤ 100) : (slot gen s).length ≤ 144 := by
  unfold slot
  split
  · simp
  · have := enc_len ⟨1, [gen], [s]⟩
    simp only [List.length_cons, List.length_nil, List.flatMap_cons, List.flatMap_nil, List.append_nil, textB] at this
    rw [framed_len]; omega
theorem rec_len (a b : Int) {s : List UInt8} (h : s.length ≤ 110) : (framed (enc ⟨2, [a, b], [s]⟩).1).length ≤ 144 := by
  have := enc_len ⟨2, [a, b], [s]⟩
  simp only [List.length_cons, List.length_nil, List.flatMap_cons, List.flatMap_nil, List.append_nil, textB] at this
  rw [framed_len]; omega
theorem head_len (a b c : Int) : (enc ⟨3, [a, b, c], []⟩).1.length ≤ 100 := by
  have := enc_len ⟨3, [a, b, c], []⟩
  simp only [List.length_cons, List.length_nil, List.flatMap_nil] at this
  omega
theorem vbs_small {f u : Nat} (h : u ≤ 127) : (vbs f u).length = 1 := by
  cases f with
  | zero => rfl
  | succ f => unfold vbs; rw [if_neg (by omega)]; rfl
theorem numB_small {n : Int} (h : -64 ≤ n) (h2 : n ≤ 63) : (numB n).length = 1 := by
  unfold numB
  refine vbs_small ?_
  unfold zig
  split <;> omega
theorem cBytes_len {blocks : Int} (hb : blocks ≤ 32) {w : What} (hw : whatOk blocks w) (k : Kept) : (cBytes w k).length ≤ 110 := by
  unfold cBytes
  cases h : mayRec (recOf w k) with
  | false => rw [enc_no h]; simp
  | true =>
    have he : (enc (recOf w k)).1 = encB (recOf w k) := by simp [enc, h]
    have hk := flat_le numB 10 (keptNs k) fun x _ => numB_len x
    have hkl : (keptNs k).length = 6 := rfl
    rw [he]
    simp only [encB, recOf, List.flatMap_append, List.length_append, List.length_cons, List.length_nil]
    cases w with
    | put e =>
      obtain ⟨h1, h2, h3, h4, h5⟩ := hw
      have a1 := numB_small (n := e.block) (by omega) (by omega)
      have a2 := numB_small (n := e.client) (by omega) (by omega)
      have a3 := numB_small (n := dirtyN e.dirty) (by unfold dirtyN; split <;> omega) (by unfold dirtyN; split <;> omega)
      have a4 := numB_len e.v.ep
      have a5 := numB_len e.v.sq
      have a6 := numB_len e.n
      simp only [whatNs, whatTexts, List.flatMap_cons, List.flatMap_nil, List.length_append, List.length_nil, textB, List.length_cons]
      omega
    | clean b v =>
      have := flat_le numB 10 (whatNs (.clean b v)) fun x _ => numB_len x
      simp only [whatNs, whatTexts, List.flatMap_nil, List.length_nil, List.length_cons] at this ⊢
      omega
    | drop b =>
      have := flat_le numB 10 (whatNs (.drop b)) fun x _ => numB_len x
      simp only [whatNs, whatTexts, List.flatMap_nil, List.length_nil, List.length_cons] at this ⊢
      omega
    | note =>
      simp only [whatNs, whatTexts, List.flatMap_nil, List.length_nil]
      omega
/-! ### the device, alive -/
structure Live (D : DevM) : Prop where
  alive : D.dead = false
  fuse : D.fuse < 0
theorem Live.act {D : DevM} (h : Live D) : devAct D = (D, 0) := by
  have := h.fuse
  unfold devAct
  rw [if_neg (by omega), if_neg (by omega)]
theorem Live.write {D : DevM} (h : Live D) {i : Int} {b : List UInt8} (h0 : 0 ≤ i) (h1 : i < (D.l.length : Int)) (hb : b.length ≤ 144) : devWrite D i b = ({ D with pend := aset D.pend i (pad b) }, 0) := by
  have hh : devHas D i = 0 := by unfold devHas; rw [if_neg (by simp [h.alive]), if_neg (by omega)]
  unfold devWrite
  rw [if_neg (by simp [hh]), if_neg (by omega), h.act, if_neg (by simp)]
theorem Live.barrier {D : DevM} (h : Live D) : devBarrier D = ({ D with l := applyAll D.l D.pend, pend := [] }, 0) := by
  unfold devBarrier
  rw [if_neg (by simp [h.alive]), h.act, if_neg (by simp)]
/-! ### cells and logs -/
theorem cellPut_live {D : DevM} (h : Live D) {C : CellM} {s : List UInt8} (hs : s.length ≤ 100) (hg : C.gen ≠ 4611686018427387904) (h0 : 0 ≤ cellSec C) (h1 : cellSec C < (D.l.length : Int)) :
    cellPut D C s = ({ D with l := applyAll D.l (aset D.pend (cellSec C) (pad (slot (C.gen + 1) s))), pend := [] }, { C with now := cellOther C, gen := C.gen + 1, text := s }, 0) := by
  have hl : Live { D with pend := aset D.pend (cellSec C) (pad (slot (C.gen + 1) s)) } := ⟨h.alive, h.fuse⟩
  unfold cellPut
  rw [if_neg (by omega), if_neg hg, h.write h0 h1 (slot_len _ hs), if_neg (by simp)]
  dsimp only
  rw [hl.barrier, if_neg (by simp)]
theorem logAppend_live {D : DevM} (h : Live D) {L : LogM} {s : List UInt8} (hs : s.length ≤ 110) (hf : L.items.length < L.n) (ht : logTail L < 4611686018427387904) (hl : L.first + L.n ≤ D.l.length) :
    logAppend D L s = ({ D with pend := aset D.pend (logPlace L (logTail L)) (pad (framed (enc ⟨2, [logTail L, L.time], [s]⟩).1)) }, { L with items := L.items ++ [(s, L.time)] }, 0) := by
  have hp : 0 ≤ logPlace L (logTail L) ∧ logPlace L (logTail L) < (D.l.length : Int) := by
    unfold logPlace
    have := Nat.mod_lt (logTail L).toNat (show 0 < L.n by omega)
    omega
  unfold logAppend
  rw [if_neg (by omega), if_neg (by unfold logFree; omega), if_neg (by omega), h.write hp.1 hp.2 (rec_len _ _ hs)]
  dsimp only
  rw [if_pos rfl]
theorem logTrim_live {D : DevM} (h : Live D) {L : LogM} {k : Int} (hk : L.head ≤ k ∧ k ≤ logTail L) (hg : L.cell.gen ≠ 4611686018427387904) (h0 : 0 ≤ cellSec L.cell) (h1 : cellSec L.cell < (D.l.length : Int)) :
    logTrim D L k = ({ D with l := applyAll (applyAll D.l D.pend) (aset [] (cellSec L.cell) (pad (slot (L.cell.gen + 1) (enc ⟨3, [k, L.time, trimLeast L k], []⟩).1))), pend := [] },
      { L with cell := { L.cell with now := cellOther L.cell, gen := L.cell.gen + 1, text := (enc ⟨3, [k, L.time, trimLeast L k], []⟩).1 }, head := k, least := trimLeast L k, items := L.items.drop (k - L.head).toNat }, 0) := by
  have hl : Live { D with l := applyAll D.l D.pend, pend := [] } := ⟨h.alive, h.fuse⟩
  have hn : (applyAll D.l D.pend).length = D.l.length := by simp [applyAll]
  have hc := cellPut_live hl (C := L.cell) (s := (enc ⟨3, [k, L.time, trimLeast L k], []⟩).1) (head_len _ _ _) hg h0 (by dsimp only; rw [hn]; exact h1)
  have hp : logPut { D with l := applyAll D.l D.pend, pend := [] } L k (trimLeast L k) = ({ D with l := applyAll (applyAll D.l D.pend) (aset [] (cellSec L.cell) (pad (slot (L.cell.gen + 1) (enc ⟨3, [k, L.time, trimLeast L k], []⟩).1))), pend := [] }, { L with cell := { L.cell with now := cellOther L.cell, gen := L.cell.gen + 1, text := (enc ⟨3, [k, L.time, trimLeast L k], []⟩).1 } }, 0) := by
    unfold logPut
    rw [hc]
  rw [logTrim_go hk (by rw [h.barrier]) ((congrArg (fun q => logPut q.1 L k (trimLeast L k)) h.barrier).trans hp), if_pos rfl]
end Sei
/- Plain: caches on a device that answers: room is made, and what comes is kept. -/
namespace Sei
open Go Go.Sl
/-! ### keyed lists -/
def keysOf {α : Type} (l : List (Int × α)) : List Int := l.map (·.1)
theorem aset_keys {α : Type} (l : List (Int × α)) (k : Int) (v : α) : keysOf (aset l k v) = if l.any (fun p => p.1 == k) then keysOf l else keysOf l ++ [k] := by
  unfold aset keysOf
  split
  · rw [List.map_map]
    refine List.map_congr_left fun p hp => ?_
    show (if (p.1 == k) = true then (k, v) else p).1 = p.1
    split
    · rename_i h; exact (by simpa using h : p.1 = k).symm
    · rfl
  · simp
theorem aset_nodup {α : Type} {l : List (Int × α)} (h : (keysOf l).Nodup) (k : Int) (v : α) : (keysOf (aset l k v)).Nodup := by
  rw [aset_keys]
  split
  · exact h
  · rename_i hn
    rw [List.nodup_append]
    refine ⟨h, by simp, fun a ha b hb => ?_⟩
    simp only [List.mem_singleton] at hb
    subst hb
    rintro rfl
    obtain ⟨p, hp, rfl⟩ := List.mem_map.1 ha
    exact hn (List.any_eq_true.2 ⟨p, hp, by simp⟩)
theorem adel_nodup {α : Type} {l : List (Int × α)} (h : (keysOf l).Nodup) (k : Int) : (keysOf (adel l k)).Nodup := by
  unfold keysOf adel
  exact h.sublist (List.filter_sublist.map _)
theorem aset_len {α : Type} (l : List (Int × α)) (k : Int) (v : α) : (aset l k v).length = if l.any (fun p => p.1 == k) then l.length else l.length + 1 := by
  unfold aset; split <;> simp
theorem afind_any {α : Type} (l : List (Int × α)) (k : Int) : (afind l k).isSome = l.any (fun p => p.1 == k) := by
  induction l with
  | nil => rfl
  | cons p l ih =>
    unfold afind at *
    by_cases h : p.1 == k
    · simp [h]
    · simp only [List.find?_cons, h, List.any_cons, Bool.false_or]; exact ih
theorem afind_nodup {α : Type} : ∀ {l : List (Int × α)} {k : Int} {v : α}, (keysOf l).Nodup → (k, v) ∈ l → afind l k = some v
  | p :: l, k, v, hn, hm => by
    unfold keysOf at hn
    rw [List.map_cons, List.nodup_cons] at hn
    rcases List.mem_cons.1 hm with rfl | hm
    · simp [afind]
    · have hne : ¬ (p.1 == k) = true := by
        intro h
        have : p.1 = k := by simpa using h
        exact hn.1 (this ▸ List.mem_map.2 ⟨(k, v), hm, rfl⟩)
      have := afind_nodup (l := l) hn.2 hm
      unfold afind at this ⊢
      rw [List.find?_cons]
      simp only [hne]
      exact this
theorem aset_same {α : Type} : ∀ {l : List (Int × α)} {k : Int} {v : α}, (keysOf l).Nodup → afind l k = some v → aset l k v = l := by
  intro l k v hn hf
  have ha : l.any (fun p => p.1 == k) = true := by rw [← afind_any, hf]; rfl
  unfold aset
  rw [if_pos ha]
  refine (List.map_congr_left fun p hp => ?_).trans (List.map_id _)
  split
  · rename_i h
    have hk : p.1 = k := by simpa using h
    have := afind_nodup (l := l) (k := k) (v := p.2) hn (by rw [← hk]; exact hp)
    rw [hf] at this
    injection this with this
    subst this
    subst hk
    rfl
  · rfl
/-! ### what is good -/
structure Good (N : Nat) (t : Int) (D : DevM) (C : CacheM) : Prop where
  ok : CacheOk D C
  live : Live D
  len : D.l.length = N + 2
  a0 : C.log.cell.a0 = 0
  a1 : C.log.cell.a1 = 1
  first : C.log.first = 2
  ln : C.log.n = N
  hN : 8 ≤ N ∧ N ≤ 37
  gen : C.log.cell.gen ≤ t
  tail : logTail C.log ≤ t
  keys : (keysOf C.entries).Nodup
  pkeys : (keysOf C.puts).Nodup
  low : ∀ p ∈ C.puts, C.log.head ≤ p.2
  t0 : t ≤ 1000000000
theorem Good.sec {N : Nat} {t : Int} {D : DevM} {C : CacheM} (h : Good N t D C) : 0 ≤ cellSec C.log.cell ∧ cellSec C.log.cell < (D.l.length : Int) := by
  have := h.len; have := h.a0; have := h.a1
  unfold cellSec
  split <;> omega
theorem Good.more {N : Nat} {t u : Int} {D : DevM} {C : CacheM} (h : Good N t D C) (hu : t ≤ u) (h0 : u ≤ 1000000000) : Good N u D C :=
  { h with gen := by have := h.gen; omega, tail := by have := h.tail; omega, t0 := h0 }
/-- How a cache goes on: records are added, and the first one goes when nothing needs it. -/
inductive Goes : DevM → CacheM → DevM → CacheM → Prop
  | refl (D : DevM) (C : CacheM) : Goes D C D C
  | add {D D1 D2 : DevM} {C C1 C2 : CacheM} {w : What} {k : Kept} (hw : whatOk C.blocks w) (hk : keptOk k) (h : cAdd D C w k = (D1, C1, 0)) (r : Goes D1 C1 D2 C2) : Goes D C D2 C2
  | trim {D D1 D2 : DevM} {C C2 : CacheM} {L1 : LogM} (hn : ∀ p ∈ C.puts, p.2 ≠ C.log.head) (hi : 2 ≤ C.log.items.length) (h : logTrim D C.log (C.log.head + 1) = (D1, L1, 0)) (r : Goes D1 { C with log := L1 } D2 C2) : Goes D C D2 C2
  | sync {D D2 : DevM} {C C2 : CacheM} (r : Goes (devBarrier D).1 C D2 C2) : Goes D C D2 C2
theorem Goes.trans {D D1 D2 : DevM} {C C1 C2 : CacheM} (h : Goes D C D1 C1) (r : Goes D1 C1 D2 C2) : Goes D C D2 C2 := by
  induction h with
  | refl => exact r
  | add hw hk h _ ih => exact .add hw hk h (ih r)
  | trim hn hi h _ ih => exact .trim hn hi h (ih r)
  | sync _ ih => exact .sync (ih r)
theorem cEnts_nodup {C : CacheM} (h : (keysOf C.entries).Nodup) (w : What) : (keysOf (cEnts C w)).Nodup := by
  cases w with
  | put e => exact aset_nodup h _ _
  | clean b v =>
    simp only [cEnts]
    split
    · split
      · exact aset_nodup h _ _
      · exact h
    · exact h
  | drop b => exact adel_nodup h _
  | note => exact h
theorem cPuts_nodup {C : CacheM} (h : (keysOf C.puts).Nodup) (w : What) (n : Int) : (keysOf (cPuts C w n)).Nodup := by
  cases w with
  | put e => exact aset_nodup h _ _
  | clean b v => exact h
  | drop b => exact adel_nodup h _
  | note => exact h
structure Added (N : Nat) (t : Int) (C : CacheM) (w : What) (k : Kept) (D1 : DevM) (C1 : CacheM) : Prop where
  good : Good N (t + 1) D1 C1
  ents : C1.entries = cEnts C w
  kept : C1.kept = k
  puts : C1.puts = cPuts C w (logTail C.log)
  items : C1.log.items.length = C.log.items.length + 1
  head : C1.log.head = C.log.head
  blocks : C1.blocks = C.blocks
  n : C1.n = C.n
  tail : logTail C1.log = logTail C.log + 1
theorem Good.add {N : Nat} {t : Int} {D : DevM} {C : CacheM} (h : Good N t D C) (ht : t < 1000000000) (hf : C.log.items.length < N) {w : What} {k : Kept} (hw : whatOk C.blocks w) (hk : keptOk k) :
    ∃ D1 C1, cAdd D C w k = (D1, C1, 0) ∧ Added N t C w k D1 C1 := by
  have hs := cBytes_len h.ok.blocks.2 hw k
  have hT := h.tail
  have hA := logAppend_live h.live (L := C.log) hs (by rw [h.ln]; exact hf) (by omega) (by rw [h.first, h.ln, h.len]; omega)
  have hok := (h.ok.add hw hk).1
  have hcA : cAdd D C w k = ({ D with pend := aset D.pend (logPlace C.log (logTail C.log)) (pad (framed (enc ⟨2, [logTail C.log, C.log.time], [cBytes w k]⟩).1)) }, cDoes { C with log := { C.log with items := C.log.items ++ [(cBytes w k, C.log.time)] } } w k (logTail C.log), 0) := by
    unfold cAdd
    rw [hA]
    dsimp only
    rw [if_pos rfl]
  rw [hcA] at hok
  refine ⟨_, _, hcA, ?_⟩
  have htl := logTail_push C.log (cBytes w k, C.log.time)
  dsimp only at hok
  rw [cDoes_eq] at hok ⊢
  refine ⟨⟨hok, ⟨h.live.alive, h.live.fuse⟩, h.len, h.a0, h.a1, h.first, h.ln, h.hN, ?_, ?_, cEnts_nodup h.keys w, cPuts_nodup h.pkeys w _, fun p hp => ?_, by omega⟩, rfl, rfl, rfl, by simp, rfl, rfl, rfl, htl⟩
  · have := h.gen; show C.log.cell.gen ≤ _; omega
  · show logTail _ ≤ _; rw [htl]; omega
  · show C.log.head ≤ p.2
    have hh : C.log.head ≤ logTail C.log := by unfold logTail; omega
    cases w with
    | put e =>
      rcases aset_mem hp with hp | rfl
      · exact h.low p hp
      · exact hh
    | clean b v => exact h.low p hp
    | drop b => exact h.low p (adel_mem hp).1
    | note => exact h.low p hp
structure Trimmed (N : Nat) (t : Int) (C : CacheM) (D1 : DevM) (L1 : LogM) : Prop where
  good : Good N (t + 1) D1 { C with log := L1 }
  items : L1.items.length + 1 = C.log.items.length
  head : L1.head = C.log.head + 1
  tail : logTail L1 = logTail C.log
theorem Good.trim {N : Nat} {t : Int} {D : DevM} {C : CacheM} (h : Good N t D C) (ht : t < 1000000000) (hi : 0 < C.log.items.length) (hn : ∀ p ∈ C.puts, p.2 ≠ C.log.head) :
    ∃ D1 L1, logTrim D C.log (C.log.head + 1) = (D1, L1, 0) ∧ Trimmed N t C D1 L1 := by
  have hg := h.gen
  have hT := logTrim_live h.live (L := C.log) (k := C.log.head + 1) (by unfold logTail; omega) (by omega) h.sec.1 h.sec.2
  have hok := h.ok.trim (C.log.head + 1)
  have htl := logTrim_tail h.ok.log (C.log.head + 1)
  rw [hT] at hok htl
  refine ⟨_, _, hT, ?_⟩
  dsimp only at hok htl
  have h1 : (C.log.head + 1 - C.log.head).toNat = 1 := by omega
  rw [h1] at hok htl ⊢
  refine ⟨⟨hok, ⟨h.live.alive, h.live.fuse⟩, ?_, h.a0, h.a1, h.first, h.ln, h.hN, ?_, ?_, h.keys, h.pkeys, fun p hp => ?_, by omega⟩, ?_, rfl, htl.1⟩
  · simp only [applyAll, List.length_mapIdx]; exact h.len
  · show C.log.cell.gen + 1 ≤ _; omega
  · show logTail _ ≤ _; rw [htl.1]; have := h.tail; omega
  · show C.log.head + 1 ≤ p.2
    have := h.low p hp; have := hn p hp; omega
  · simp only [List.length_drop]; omega
end Sei
/- Plain: caches on a device that answers: making room. -/
namespace Sei
open Go Go.Sl
theorem aset_mem2 {α : Type} {l : List (Int × α)} {k : Int} {v : α} {p : Int × α} (h : p ∈ aset l k v) : (p ∈ l ∧ p.1 ≠ k) ∨ p = (k, v) := by
  unfold aset at h
  split at h
  · obtain ⟨q, hq, rfl⟩ := List.mem_map.1 h
    split
    · exact .inr rfl
    · rename_i hn; exact .inl ⟨hq, by simpa using hn⟩
  · rename_i hn
    rcases List.mem_append.1 h with h | h
    · refine .inl ⟨h, fun hk => hn (List.any_eq_true.2 ⟨p, h, by simpa using hk⟩)⟩
    · exact .inr (by simpa using h)
theorem aset_old {α : Type} {l : List (Int × α)} {k : Int} {v : α} {p : Int × α} (h : p ∈ l) (hk : p.1 ≠ k) : p ∈ aset l k v := by
  unfold aset
  split
  · exact List.mem_map.2 ⟨p, h, by rw [if_neg (by simpa using hk)]⟩
  · exact List.mem_append.2 (.inl h)
theorem key_one {α : Type} : ∀ {l : List (Int × α)} {p q : Int × α}, (keysOf l).Nodup → p ∈ l → q ∈ l → p.1 = q.1 → p = q := by
  intro l p q hn hp hq h
  have h1 := afind_nodup (k := p.1) (v := p.2) hn hp
  have h2 := afind_nodup (k := p.1) (v := q.2) hn (by rw [h]; exact hq)
  rw [h1] at h2
  injection h2 with h2
  exact Prod.ext h h2
theorem Good.few {N : Nat} {t : Int} {D : DevM} {C : CacheM} (h : Good N t D C) : C.puts.length ≤ C.entries.length := by
  have := nodup_le (keysOf C.puts) (keysOf C.entries) h.pkeys fun x hx => by
    obtain ⟨p, hp, rfl⟩ := List.mem_map.1 hx
    obtain ⟨e, he⟩ := h.ok.has p hp
    exact List.mem_map.2 ⟨_, he, rfl⟩
  simpa [keysOf] using this
/-- From T0 on every record is needed. -/
def Newer (T0 : Int) (C : CacheM) : Prop := ∀ m, T0 ≤ m → C.log.head ≤ m → m < logTail C.log → ∃ p ∈ C.puts, p.2 = m
theorem Newer.few {C : CacheM} {T0 : Int} (h : Newer T0 C) (ht : T0 ≤ C.log.head) : C.log.items.length ≤ C.puts.length := by
  have := nodup_le (List.range C.log.items.length) (C.puts.map fun p => (p.2 - C.log.head).toNat) List.nodup_range fun x hx => by
    have hx := List.mem_range.1 hx
    obtain ⟨p, hp, he⟩ := h (C.log.head + x) (by omega) (by omega) (by unfold logTail; omega)
    exact List.mem_map.2 ⟨p, hp, by omega⟩
  simpa using this
structure Passed (N : Nat) (t T0 : Int) (D : DevM) (C : CacheM) (D1 : DevM) (C1 : CacheM) : Prop where
  good : Good N (t + 2) D1 C1
  ents : C1.entries = C.entries
  kept : C1.kept = C.kept
  blocks : C1.blocks = C.blocks
  n : C1.n = C.n
  head : C1.log.head = C.log.head + 1
  items : C1.log.items.length ≤ C.log.items.length
  newer : Newer T0 C → Newer T0 C1
  goes : Goes D C D1 C1
theorem Good.pass {N : Nat} {t : Int} {D : DevM} {C : CacheM} (h : Good N t D C) (ht : t + 2 ≤ 1000000000) (hi : 2 ≤ C.log.items.length) (hf : C.log.items.length < N) (T0 : Int) :
    ∃ Ds Cs D1 L1, cStep D C = (Ds, Cs, 0) ∧ logTrim Ds Cs.log (C.log.head + 1) = (D1, L1, 0) ∧ Passed N t T0 D C D1 { Cs with log := L1 } := by
  cases hn : cNeeded C with
  | none =>
    have hno : ∀ p ∈ C.puts, p.2 ≠ C.log.head := by
      intro p hp he
      rw [cNeeded_is h.ok (b := p.1) (n := p.2) hp he] at hn
      cases hn
    obtain ⟨D1, L1, hT, hr⟩ := h.trim (by omega) (by omega) hno
    refine ⟨D, C, D1, L1, by unfold cStep; rw [hn], hT, hr.good.more (by omega) ht, rfl, rfl, rfl, rfl, hr.head, by have := hr.items; dsimp only; omega, fun hw m h1 h2 h3 => ?_, .trim hno hi hT (.refl _ _)⟩
    have hh := hr.head
    have htl := hr.tail
    dsimp only at h2 h3
    exact hw m h1 (by omega) (by omega)
  | some x =>
    obtain ⟨hx, p, hp, hph, hpx, hxb⟩ := cNeeded_ok h.ok hn
    obtain ⟨Ds, Cs, hA, ha⟩ := h.add (by omega) hf (w := .put x) hx h.ok.kept
    have hents : Cs.entries = C.entries := by rw [ha.ents]; exact aset_same h.keys (by rw [hxb]; exact hpx)
    have hput : Cs.puts = aset C.puts x.block (logTail C.log) := ha.puts
    have htl : logTail C.log = C.log.head + C.log.items.length := rfl
    have hno : ∀ q ∈ Cs.puts, q.2 ≠ Cs.log.head := by
      intro q hq he
      rw [hput] at hq
      rw [ha.head] at he
      rcases aset_mem2 hq with ⟨hq, hqk⟩ | rfl
      · have := h.ok.one q hq p hp (by rw [he, hph])
        subst this
        exact hqk hxb.symm
      · dsimp only at he; omega
    have hil := ha.items
    obtain ⟨D1, L1, hT, hr⟩ := ha.good.trim (by omega) (by omega) hno
    rw [ha.head] at hT
    have hg : Good N (t + 2) D1 { Cs with log := L1 } := by
      have := hr.good
      rw [show t + 2 = t + 1 + 1 by omega]
      exact this
    refine ⟨Ds, Cs, D1, L1, by unfold cStep; rw [hn]; exact hA, hT, hg, hents, ha.kept, ha.blocks, ha.n, by have := hr.head; have := ha.head; dsimp only; omega, by have := hr.items; dsimp only; omega, fun hw m h1 h2 h3 => ?_, ?_⟩
    · have hh := hr.head
      have hht := hr.tail
      have hh2 := ha.head
      have ht2 := ha.tail
      dsimp only at h2 h3 ⊢
      rw [hput]
      by_cases hm : m = logTail C.log
      · exact ⟨(x.block, logTail C.log), aset_self _ _ _, hm.symm⟩
      · obtain ⟨q, hq, hqm⟩ := hw m h1 (by omega) (by omega)
        refine ⟨q, aset_old hq fun hk => ?_, hqm⟩
        have := key_one h.pkeys hq hp (by rw [hk, hxb])
        subst this
        omega
    · exact .add (w := .put x) hx h.ok.kept hA (.trim hno (by omega) (by rw [ha.head]; exact hT) (.refl _ _))
structure Made (N : Nat) (t : Int) (D : DevM) (C : CacheM) (D1 : DevM) (C1 : CacheM) : Prop where
  good : Good N t D1 C1
  ents : C1.entries = C.entries
  kept : C1.kept = C.kept
  blocks : C1.blocks = C.blocks
  n : C1.n = C.n
  free : C1.log.items.length + 4 ≤ N
  goes : Goes D C D1 C1
theorem Good.makeGo {N : Nat} (T0 : Int) : ∀ (f : Nat) {t : Int} {D : DevM} {C : CacheM}, Good N t D C → t + 2 * (f : Int) ≤ 1000000000 → C.log.items.length + 2 ≤ N → C.entries.length + 6 ≤ N → T0 ≤ C.log.head + (f : Int) → Newer T0 C →
    ∃ D1 C1, cMakeGo f D C = (D1, C1, 0) ∧ Made N (t + 2 * (f : Int)) D C D1 C1
  | 0, t, D, C, h, ht, hi, he, hT, hw => by
    have h1 := hw.few (by omega)
    have h2 := h.few
    exact ⟨D, C, rfl, h.more (by omega) ht, rfl, rfl, rfl, rfl, by omega, .refl _ _⟩
  | f + 1, t, D, C, h, ht, hi, he, hT, hw => by
    by_cases hfr : logFree C.log < 4
    · have hln := h.ln
      have hN := h.hN
      have hfr' : (N : Int) - C.log.items.length < 4 := by unfold logFree at hfr; rw [hln] at hfr; exact hfr
      obtain ⟨Ds, Cs, D1, L1, hs, hT1, hr⟩ := h.pass (by omega) (by omega) (by omega) T0
      obtain ⟨D2, C2, hm, hmm⟩ := Good.makeGo T0 f hr.good (by omega) (by have := hr.items; omega) (by rw [hr.ents]; exact he) (by rw [hr.head]; omega) (hr.newer hw)
      refine ⟨D2, C2, ?_, ?_⟩
      · rw [cMakeGo_go hfr hs hT1, if_neg (by simp)]; exact hm
      · exact ⟨by rw [show t + 2 * ((f + 1 : Nat) : Int) = t + 2 + 2 * (f : Int) by omega]; exact hmm.good, hmm.ents.trans hr.ents, hmm.kept.trans hr.kept, hmm.blocks.trans hr.blocks, hmm.n.trans hr.n, hmm.free, hr.goes.trans hmm.goes⟩
    · rw [cMakeGo_end hfr]
      have hln := h.ln
      unfold logFree at hfr
      rw [hln] at hfr
      exact ⟨D, C, rfl, h.more (by omega) ht, rfl, rfl, rfl, rfl, by omega, .refl _ _⟩
theorem Good.make {N : Nat} {t : Int} {D : DevM} {C : CacheM} (h : Good N t D C) (ht : t + 80 ≤ 1000000000) (hi : C.log.items.length + 2 ≤ N) (he : C.entries.length + 6 ≤ N) :
    ∃ D1 C1, cMake D C = (D1, C1, 0) ∧ Made N (t + 80) D C D1 C1 := by
  have hn : C.n.toNat = N := by have := h.ok.n; have := h.ln; omega
  have hN := h.hN
  obtain ⟨D1, C1, hm, hr⟩ := Good.makeGo (logTail C.log) C.n.toNat h (by omega) hi he (by unfold logTail; omega) (fun m h1 _ h3 => by omega)
  refine ⟨D1, C1, ?_, { hr with good := hr.good.more (by omega) ht }⟩
  rw [cMake_end hm, if_neg]
  have := hr.free
  have := hr.good.ln
  unfold logFree; omega
structure Came (N : Nat) (t : Int) (D : DevM) (C : CacheM) (E : List (Int × Ety)) (k : Kept) (D1 : DevM) (C1 : CacheM) : Prop where
  good : Good N t D1 C1
  ents : C1.entries = E
  kept : C1.kept = k
  blocks : C1.blocks = C.blocks
  n : C1.n = C.n
  free : C1.log.items.length + 3 ≤ N
  goes : Goes D C D1 C1
theorem cEnts_of {C C1 : CacheM} (h : C1.entries = C.entries) (w : What) : cEnts C1 w = cEnts C w := by unfold cEnts; rw [h]
theorem Good.come {N : Nat} {t : Int} {D : DevM} {C : CacheM} (h : Good N t D C) (ht : t + 81 ≤ 1000000000) (hi : C.log.items.length + 2 ≤ N) (he : C.entries.length + 6 ≤ N) {w : What} {k : Kept} (hw : whatOk C.blocks w) (hk : keptOk k) :
    ∃ D1 C1, cCome D C w k = (D1, C1, 0) ∧ Came N (t + 81) D C (cEnts C w) k D1 C1 := by
  obtain ⟨D1, C1, hm, hr⟩ := h.make (by omega) hi he
  have hfr := hr.free
  obtain ⟨D2, C2, ha, hb⟩ := hr.good.add (by omega) (by omega) (w := w) (k := k) (by rw [hr.blocks]; exact hw) hk
  refine ⟨D2, C2, ?_, ?_⟩
  · unfold cCome
    rw [hm]
    dsimp only
    rw [if_neg (by simp), ha]
  · have := hb.items
    exact ⟨by rw [show t + 81 = t + 80 + 1 by omega]; exact hb.good, hb.ents.trans (cEnts_of hr.ents w), hb.kept, hb.blocks.trans hr.blocks, hb.n.trans hr.n, by omega, hr.goes.trans (.add (by rw [hr.blocks]; exact hw) hk ha (.refl _ _))⟩
end Sei
/- Plain: caches on a device that answers: what each act does to what a cache tells. -/
namespace Sei
open Go Go.Sl
def aPut (C : CacheM) (e : Ety) : List (Int × Ety) × Kept × Int :=
  if !inB C.blocks e.block then (C.entries, C.kept, 2) else if (e.data.length : Int) ≠ 8 then (C.entries, C.kept, 3)
  else if !above e.v C.kept.last || (!mayV e.v 1 || (!withinB e.client (-1) 3 || odd e.n)) then (C.entries, C.kept, 1)
  else if (afind C.entries e.block).isSome ∨ (C.entries.length : Int) < cRoom C then (aset C.entries e.block e, putKept C e, 0)
  else match cSpare C with
    | none => (C.entries, C.kept, 12)
    | some old => (aset (adel C.entries old) e.block e, putKept C e, 0)
def aClean (C : CacheM) (b : Int) (v : Ver) : List (Int × Ety) × Kept × Int :=
  match afind C.entries b with
  | none => (C.entries, C.kept, 10)
  | some e => if e.v ≠ v then (C.entries, C.kept, 10) else if !e.dirty then (C.entries, C.kept, 0) else (aset C.entries b { e with dirty := false }, C.kept, 0)
def aDrop (C : CacheM) (b : Int) : List (Int × Ety) × Kept × Int := if (afind C.entries b).isSome then (adel C.entries b, C.kept, 0) else (C.entries, C.kept, 10)
def aReset (C : CacheM) (v : Ver) (l : List Int) : List (Int × Ety) × Kept × Int := if cWrong v l then (C.entries, C.kept, 1) else (C.entries, ⟨v, tabOf l⟩, 0)
def aNote (C : CacheM) (v : Ver) (l : List Int) : List (Int × Ety) × Kept × Int := if cWrong v l then (C.entries, C.kept, 1) else (C.entries, noteKept C v l, 0)
def aDo (C : CacheM) (x : ActM) : List (Int × Ety) × Kept × Int :=
  if x.kind = 0 then aPut C x.e else if x.kind = 1 then aClean C x.e.block x.e.v else if x.kind = 2 then aDrop C x.e.block
  else if x.kind = 3 then aNote C x.e.v x.t else if x.kind = 8 then aReset C x.e.v x.t else (C.entries, C.kept, 0)
structure EOk (blocks : Int) (e : Ety) : Prop where
  block : inB blocks e.block = true
  v : mayV e.v 1 = true
  client : withinB e.client (-1) 3 = true
  n : odd e.n = false
  data : e.data.length = 8
def KOk (k : Kept) : Prop := ∀ n ∈ keptNs k, odd n = false
structure Fine (N : Nat) (t : Int) (D : DevM) (C : CacheM) : Prop where
  good : Good N t D C
  free : C.log.items.length + 2 ≤ N
  room : C.entries.length + 6 ≤ N
  blocks : C.blocks = 32
  ents : ∀ p ∈ C.entries, EOk 32 p.2
  kept : KOk C.kept
theorem Fine.n {N : Nat} {t : Int} {D : DevM} {C : CacheM} (h : Fine N t D C) : C.n = N := by have := h.good.ok.n; have := h.good.ln; omega
theorem Fine.cRoom {N : Nat} {t : Int} {D : DevM} {C : CacheM} (h : Fine N t D C) : cRoom C = (N : Int) - 6 := by unfold Sei.cRoom; rw [h.n]
theorem Fine.more {N : Nat} {t u : Int} {D : DevM} {C : CacheM} (h : Fine N t D C) (hu : t ≤ u) (h0 : u ≤ 1000000000) : Fine N u D C := { h with good := h.good.more hu h0 }
theorem odd_iff {n : Int} : odd n = false ↔ 0 ≤ n ∧ n ≤ 4611686018427387904 := by
  unfold odd
  rw [Bool.not_eq_false', withinB_iff]
theorem KOk.all {k : Kept} (h : KOk k) : (0 ≤ k.last.ep ∧ k.last.ep ≤ 4611686018427387904) ∧ (0 ≤ k.last.sq ∧ k.last.sq ≤ 4611686018427387904) ∧ (0 ≤ k.t.a ∧ k.t.a ≤ 4611686018427387904) ∧ (0 ≤ k.t.b ∧ k.t.b ≤ 4611686018427387904) ∧ (0 ≤ k.t.c ∧ k.t.c ≤ 4611686018427387904) ∧ (0 ≤ k.t.d ∧ k.t.d ≤ 4611686018427387904) :=
  ⟨odd_iff.1 (h _ (by simp [keptNs])), odd_iff.1 (h _ (by simp [keptNs])), odd_iff.1 (h _ (by simp [keptNs])), odd_iff.1 (h _ (by simp [keptNs])), odd_iff.1 (h _ (by simp [keptNs])), odd_iff.1 (h _ (by simp [keptNs]))⟩
theorem KOk.of {k : Kept} (h1 : 0 ≤ k.last.ep ∧ k.last.ep ≤ 4611686018427387904) (h2 : 0 ≤ k.last.sq ∧ k.last.sq ≤ 4611686018427387904) (h3 : 0 ≤ k.t.a ∧ k.t.a ≤ 4611686018427387904) (h4 : 0 ≤ k.t.b ∧ k.t.b ≤ 4611686018427387904) (h5 : 0 ≤ k.t.c ∧ k.t.c ≤ 4611686018427387904) (h6 : 0 ≤ k.t.d ∧ k.t.d ≤ 4611686018427387904) : KOk k := by
  intro n hn
  simp only [keptNs, List.mem_cons, List.not_mem_nil, or_false] at hn
  rw [odd_iff]
  rcases hn with rfl | rfl | rfl | rfl | rfl | rfl <;> assumption
theorem mayV_iff {v : Ver} {a : Int} : mayV v a = true ↔ (a ≤ v.ep ∧ v.ep ≤ 4611686018427387904) ∧ (a ≤ v.sq ∧ v.sq ≤ 4611686018427387904) := by
  unfold mayV; rw [Bool.and_eq_true, withinB_iff, withinB_iff]
theorem tabSet_range {t : Tab} {i x : Int} (h3 : 0 ≤ t.a ∧ t.a ≤ 4611686018427387904) (h4 : 0 ≤ t.b ∧ t.b ≤ 4611686018427387904) (h5 : 0 ≤ t.c ∧ t.c ≤ 4611686018427387904) (h6 : 0 ≤ t.d ∧ t.d ≤ 4611686018427387904) (hx : 0 ≤ x ∧ x ≤ 4611686018427387904) :
    (0 ≤ (tabSet t i x).a ∧ (tabSet t i x).a ≤ 4611686018427387904) ∧ (0 ≤ (tabSet t i x).b ∧ (tabSet t i x).b ≤ 4611686018427387904) ∧ (0 ≤ (tabSet t i x).c ∧ (tabSet t i x).c ≤ 4611686018427387904) ∧ (0 ≤ (tabSet t i x).d ∧ (tabSet t i x).d ≤ 4611686018427387904) := by
  unfold tabSet
  split
  · exact ⟨hx, h4, h5, h6⟩
  · split
    · exact ⟨h3, hx, h5, h6⟩
    · split
      · exact ⟨h3, h4, hx, h6⟩
      · exact ⟨h3, h4, h5, hx⟩
theorem tabGet_range {t : Tab} {i : Int} (h3 : 0 ≤ t.a ∧ t.a ≤ 4611686018427387904) (h4 : 0 ≤ t.b ∧ t.b ≤ 4611686018427387904) (h5 : 0 ≤ t.c ∧ t.c ≤ 4611686018427387904) (h6 : 0 ≤ t.d ∧ t.d ≤ 4611686018427387904) : 0 ≤ tabGet t i ∧ tabGet t i ≤ 4611686018427387904 := by
  unfold tabGet
  split
  · exact h3
  · split
    · exact h4
    · split
      · exact h5
      · exact h6
theorem putKept_range {C : CacheM} {e : Ety} (hk : KOk C.kept) (hv : mayV e.v 1 = true) (hn : odd e.n = false) : KOk (putKept C e) := by
  obtain ⟨h1, h2, h3, h4, h5, h6⟩ := hk.all
  have hv := mayV_iff.1 hv
  have hn := odd_iff.1 hn
  unfold putKept
  split
  · have hg := tabGet_range (i := e.client) h3 h4 h5 h6
    obtain ⟨a, b, c, d⟩ := tabSet_range (i := e.client) (x := max (tabGet C.kept.t e.client) e.n) h3 h4 h5 h6 (by omega)
    exact KOk.of (by dsimp only; omega) (by dsimp only; omega) a b c d
  · exact KOk.of (by dsimp only; omega) (by dsimp only; omega) h3 h4 h5 h6
theorem cWrong_not {v : Ver} {l : List Int} (h : cWrong v l = false) : mayV v 0 = true ∧ l.length = 4 ∧ ∀ n ∈ l, 0 ≤ n ∧ n ≤ 4611686018427387904 := by
  unfold cWrong at h
  simp only [Bool.or_eq_false_iff, Bool.not_eq_false', decide_eq_true_eq] at h
  refine ⟨h.1, by omega, fun n hn => odd_iff.1 ?_⟩
  have := List.any_eq_false.1 h.2.2 n hn
  simpa using this
theorem getD_range {l : List Int} (h : ∀ n ∈ l, 0 ≤ n ∧ n ≤ 4611686018427387904) (i : Nat) : 0 ≤ l.getD i 0 ∧ l.getD i 0 ≤ 4611686018427387904 := by
  rw [List.getD_eq_getElem?_getD]
  cases hg : l[i]? with
  | none => simp
  | some n => exact h n (List.mem_of_getElem? hg)
theorem reset_range {v : Ver} {l : List Int} (h : cWrong v l = false) : KOk ⟨v, tabOf l⟩ := by
  obtain ⟨h1, h2, h3⟩ := cWrong_not h
  have h1 := mayV_iff.1 h1
  exact KOk.of h1.1 h1.2 (getD_range h3 0) (getD_range h3 1) (getD_range h3 2) (getD_range h3 3)
theorem note_range {C : CacheM} {v : Ver} {l : List Int} (hk : KOk C.kept) (h : cWrong v l = false) : KOk (noteKept C v l) := by
  obtain ⟨h1, h2, h3⟩ := cWrong_not h
  have h1 := mayV_iff.1 h1
  obtain ⟨k1, k2, k3, k4, k5, k6⟩ := hk.all
  have g0 := getD_range h3 0
  have g1 := getD_range h3 1
  have g2 := getD_range h3 2
  have g3 := getD_range h3 3
  unfold noteKept tabMax
  refine KOk.of ?_ ?_ (by dsimp only; omega) (by dsimp only; omega) (by dsimp only; omega) (by dsimp only; omega)
  · dsimp only; split
    · exact h1.1
    · exact k1
  · dsimp only; split
    · exact h1.2
    · exact k2
theorem adel_len {α : Type} : ∀ {l : List (Int × α)} {k : Int}, (keysOf l).Nodup → (afind l k).isSome = true → (adel l k).length + 1 = l.length
  | [], k, _, h => by cases h
  | p :: l, k, hn, h => by
    unfold keysOf at hn
    rw [List.map_cons, List.nodup_cons] at hn
    by_cases hp : p.1 = k
    · have : adel l k = l := by
        unfold adel
        rw [List.filter_eq_self]
        intro q hq
        have : q.1 ≠ k := by rintro rfl; exact hn.1 (hp ▸ List.mem_map.2 ⟨q, hq, rfl⟩)
        simpa using this
      unfold adel at this ⊢
      rw [List.filter_cons, if_neg (by simp [hp]), this]; rfl
    · have hs : (afind l k).isSome = true := by
        unfold afind at h ⊢
        rw [List.find?_cons, show (p.1 == k) = false by simpa using hp] at h
        exact h
      have := adel_len (l := l) hn.2 hs
      unfold adel at this ⊢
      rw [List.filter_cons, if_pos (by simpa using hp)]
      simp only [List.length_cons]; omega
theorem aset_len_in {α : Type} {l : List (Int × α)} {k : Int} {v : α} (h : (afind l k).isSome = true) : (aset l k v).length = l.length := by
  rw [aset_len, if_pos (by rw [← afind_any]; exact h)]
theorem aset_len_out {α : Type} {l : List (Int × α)} {k : Int} {v : α} (h : (afind l k).isSome = false) : (aset l k v).length = l.length + 1 := by
  rw [aset_len, if_neg (by rw [← afind_any, h]; decide)]
theorem afind_map {α : Type} (k : Int) (v : α) (j : Int) : ∀ l : List (Int × α), afind (l.map fun p => if p.1 == k then (k, v) else p) j = if j = k then (if l.any (fun p => p.1 == k) then some v else none) else afind l j
  | [] => by simp [afind]
  | p :: l => by
    have ih := afind_map k v j l
    unfold afind at ih ⊢
    rw [List.map_cons, List.find?_cons, List.find?_cons, List.any_cons]
    by_cases hp : p.1 = k
    · rw [show (p.1 == k) = true by simpa using hp]
      simp only [if_true, Bool.true_or]
      by_cases hj : j = k
      · subst hj; simp
      · rw [if_neg hj] at ih ⊢
        rw [show (k == j) = false by simpa using fun h => hj h.symm, show (p.1 == j) = false by rw [hp]; simpa using fun h => hj h.symm]
        exact ih
    · rw [show (p.1 == k) = false by simpa using hp]
      simp only [Bool.false_eq_true, if_false, Bool.false_or]
      by_cases hj : p.1 = j
      · rw [show (p.1 == j) = true by simpa using hj]
        rw [if_neg (by rw [← hj]; exact hp)]
      · rw [show (p.1 == j) = false by simpa using hj]
        exact ih
theorem afind_aset {α : Type} (l : List (Int × α)) (k : Int) (v : α) (j : Int) : afind (aset l k v) j = if j = k then some v else afind l j := by
  unfold aset
  split
  · rename_i ha
    rw [afind_map, ha]; simp
  · rename_i ha
    unfold afind
    rw [List.find?_append]
    by_cases hj : j = k
    · subst hj
      rw [if_pos rfl]
      have : l.find? (fun p => p.1 == j) = none := by
        rw [List.find?_eq_none]
        intro p hp h
        exact ha (List.any_eq_true.2 ⟨p, hp, h⟩)
      rw [this]; simp
    · rw [if_neg hj]
      have : [(k, v)].find? (fun p => p.1 == j) = none := by simpa using fun h => hj h.symm
      rw [this]; simp
theorem afind_adel {α : Type} (l : List (Int × α)) (k : Int) (j : Int) : afind (adel l k) j = if j = k then none else afind l j := by
  unfold adel afind
  induction l with
  | nil => simp
  | cons p l ih =>
    by_cases hp : p.1 = k
    · rw [List.filter_cons, if_neg (by simpa using hp), ih, List.find?_cons]
      by_cases hj : j = k
      · rw [if_pos hj, if_pos hj]
      · rw [if_neg hj, if_neg hj, show (p.1 == j) = false by rw [hp]; simpa using fun h => hj h.symm]
    · rw [List.filter_cons, if_pos (by simpa using hp), List.find?_cons, List.find?_cons]
      by_cases hj : p.1 = j
      · rw [show (p.1 == j) = true by simpa using hj, if_neg (by rw [← hj]; exact hp)]
      · rw [show (p.1 == j) = false by simpa using hj]; exact ih
end Sei
/- Plain: caches on a device that answers: each act is what it is to be. -/
namespace Sei
open Go Go.Sl
theorem spareGo_spec {C : CacheM} : ∀ (l : List Ety) (a : Option Int) (b : Int), spareGo C l a = some b → a = some b ∨ ∃ e ∈ l, e.block = b ∧ e.dirty = false
  | [], a, b, h => .inl h
  | e :: l, a, b, h => by
    unfold spareGo at h
    split at h
    · rename_i hc
      rcases spareGo_spec l _ b h with h | ⟨x, hx, hb⟩
      · simp only [Option.some.injEq] at h
        refine .inr ⟨e, by simp, h, ?_⟩
        simp only [Bool.and_eq_true, Bool.not_eq_true'] at hc
        exact hc.1
      · exact .inr ⟨x, by simp [hx], hb⟩
    · rcases spareGo_spec l _ b h with h | ⟨x, hx, hb⟩
      · exact .inl h
      · exact .inr ⟨x, by simp [hx], hb⟩
theorem cAll_mem {D : DevM} {C : CacheM} (h : CacheOk D C) {e : Ety} (he : e ∈ cAll C) : afind C.entries e.block = some e := by
  obtain ⟨i, h1, _, _⟩ := allGo_mem _ _ _ _ he
  rw [(entOf h h1).1]; exact h1
theorem cSpare_spec {D : DevM} {C : CacheM} (h : CacheOk D C) {b : Int} (hb : cSpare C = some b) : ∃ e, afind C.entries b = some e ∧ e.dirty = false := by
  rcases spareGo_spec _ _ _ hb with h1 | ⟨e, he, rfl, hd⟩
  · cases h1
  · exact ⟨e, cAll_mem h he, hd⟩
theorem Fine.of_came {N : Nat} {t u : Int} {D : DevM} {C : CacheM} (h : Fine N t D C) {E : List (Int × Ety)} {k : Kept} {D1 : DevM} {C1 : CacheM} (hc : Came N u D C E k D1 C1) (h1 : E.length + 6 ≤ N) (h2 : ∀ p ∈ E, EOk 32 p.2) (h3 : KOk k) : Fine N u D1 C1 :=
  ⟨hc.good, by have := hc.free; omega, by rw [hc.ents]; exact h1, by rw [hc.blocks]; exact h.blocks, by rw [hc.ents]; exact h2, by rw [hc.kept]; exact h3⟩
structure Acted (N : Nat) (t : Int) (D : DevM) (C : CacheM) (q : List (Int × Ety) × Kept × Int) (D1 : DevM) (C1 : CacheM) : Prop where
  fine : Fine N t D1 C1
  ents : C1.entries = q.1
  kept : C1.kept = q.2.1
  goes : Goes D C D1 C1
theorem Fine.stay {N : Nat} {t u : Int} {D : DevM} {C : CacheM} (h : Fine N t D C) (hu : t ≤ u) (h0 : u ≤ 1000000000) (e : Int) : Acted N u D C (C.entries, C.kept, e) D C := ⟨h.more hu h0, rfl, rfl, .refl _ _⟩
theorem Fine.put {N : Nat} {t : Int} {D : DevM} {C : CacheM} (h : Fine N t D C) (ht : t + 100 ≤ 1000000000) (e : Ety) (hv : verOk e.v) (hn : I64 e.n) : ∃ D1 C1, cPut D C e = (D1, C1, (aPut C e).2.2) ∧ Acted N (t + 100) D C (aPut C e) D1 C1 := by
  unfold aPut
  by_cases h1 : (!inB C.blocks e.block) = true
  · rw [if_pos h1, cPut, if_pos h1]; exact ⟨D, C, rfl, h.stay (by omega) ht 2⟩
  by_cases h2 : (e.data.length : Int) ≠ 8
  · rw [if_neg h1, if_pos h2, cPut, if_neg h1, if_pos h2]; exact ⟨D, C, rfl, h.stay (by omega) ht 3⟩
  by_cases h3 : (!above e.v C.kept.last || (!mayV e.v 1 || (!withinB e.client (-1) 3 || odd e.n))) = true
  · rw [if_neg h1, if_neg h2, if_pos h3, cPut, if_neg h1, if_neg h2, if_pos h3]; exact ⟨D, C, rfl, h.stay (by omega) ht 1⟩
  have h2' : (e.data.length : Int) = 8 := by simpa using h2
  have h1' : (!inB C.blocks e.block) = false := by simpa using h1
  have h3' : (!above e.v C.kept.last || (!mayV e.v 1 || (!withinB e.client (-1) 3 || odd e.n))) = false := by simpa using h3
  have he : etyOk C.blocks e := put_ok hv hn h1' h2' h3'
  have hko := putKept_ok h.good.ok hv hn
  have h3'' := h3'
  simp only [Bool.or_eq_false_iff, Bool.not_eq_false'] at h3''
  obtain ⟨hab, hmv, hcl, hod⟩ := h3''
  have heo : EOk 32 e := ⟨by have := h1'; rw [h.blocks] at this; simpa using this, hmv, hcl, hod, by omega⟩
  have hkr := putKept_range h.kept hmv hod
  have hset : ∀ (l : List (Int × Ety)), (∀ p ∈ l, EOk 32 p.2) → ∀ p ∈ aset l e.block e, EOk 32 p.2 := fun l hl p hp => by
    rcases aset_mem hp with hp | rfl
    · exact hl p hp
    · exact heo
  rw [if_neg h1, if_neg h2, if_neg h3, cPut_ok h1' h2' h3']
  by_cases h4 : (afind C.entries e.block).isSome ∨ (C.entries.length : Int) < Sei.cRoom C
  · rw [if_pos h4, if_pos h4]
    obtain ⟨D1, C1, hc, hr⟩ := h.good.come (by omega) h.free h.room (w := .put e) he hko
    refine ⟨D1, C1, hc, (h.of_came hr ?_ (hset _ h.ents) hkr).more (by omega) ht, hr.ents, hr.kept, hr.goes⟩
    show (aset C.entries e.block e).length + 6 ≤ N
    have := h.room
    rw [h.cRoom] at h4
    cases hs : (afind C.entries e.block).isSome with
    | true => rw [aset_len_in hs]; exact this
    | false => rw [aset_len_out hs]; rw [hs] at h4; rcases h4 with h4 | h4
               · cases h4
               · omega
  · rw [if_neg h4, if_neg h4]
    cases hs : cSpare C with
    | none => exact ⟨D, C, rfl, h.stay (by omega) ht 12⟩
    | some old =>
      obtain ⟨eo, heo1, heo2⟩ := cSpare_spec h.good.ok hs
      obtain ⟨D1, C1, hc, hr⟩ := h.good.come (by omega) h.free h.room (w := .drop old) (cSpare_ok h.good.ok hs) h.good.ok.kept
      have hl := adel_len h.good.keys (k := old) (by rw [heo1]; rfl)
      have hroom := h.room
      have hfine1 : Fine N (t + 81) D1 C1 := h.of_came hr (by show (adel C.entries old).length + 6 ≤ N; omega) (fun p hp => h.ents p (adel_mem hp).1) h.kept
      obtain ⟨D2, C2, ha, hb⟩ := hr.good.add (by omega) (by have := hr.free; omega) (w := .put e) (k := putKept C e) (by rw [hr.blocks]; exact he) hko
      have hes : C2.entries = aset (adel C.entries old) e.block e := by rw [hb.ents]; show aset C1.entries e.block e = _; rw [hr.ents]; rfl
      have hnone : (afind (adel C.entries old) e.block).isSome = false := by
        rw [afind_adel]; split
        · rfl
        · have := h4; cases hq : (afind C.entries e.block).isSome with
          | true => exact absurd (.inl hq) h4
          | false => rfl
      refine ⟨D2, C2, ?_, ⟨(hb.good.more (by omega) ht), by have := hb.items; have := hr.free; omega, ?_, by rw [hb.blocks, hr.blocks]; exact h.blocks, ?_, by rw [hb.kept]; exact hkr⟩, hes, hb.kept, hr.goes.trans (.add (by rw [hr.blocks]; exact he) hko ha (.refl _ _))⟩
      · dsimp only
        rw [hc]
        dsimp only
        rw [if_neg (by simp), ha]
      · rw [hes, aset_len_out hnone]; omega
      · rw [hes]; exact hset _ fun p hp => h.ents p (adel_mem hp).1
theorem Fine.clean {N : Nat} {t : Int} {D : DevM} {C : CacheM} (h : Fine N t D C) (ht : t + 100 ≤ 1000000000) (b : Int) (v : Ver) (hv : verOk v) : ∃ D1 C1, cClean D C b v = (D1, C1, (aClean C b v).2.2) ∧ Acted N (t + 100) D C (aClean C b v) D1 C1 := by
  unfold aClean cClean
  cases hf : afind C.entries b with
  | none => exact ⟨D, C, rfl, h.stay (by omega) ht 10⟩
  | some e =>
    dsimp only
    by_cases h1 : e.v ≠ v
    · rw [if_pos h1, if_pos h1]; exact ⟨D, C, rfl, h.stay (by omega) ht 10⟩
    · rw [if_neg h1, if_neg h1]
      by_cases h2 : (!e.dirty) = true
      · rw [if_pos h2, if_pos h2]; exact ⟨D, C, rfl, h.stay (by omega) ht 0⟩
      · rw [if_neg h2, if_neg h2]
        obtain ⟨h3, h4⟩ := entOf h.good.ok hf
        obtain ⟨D1, C1, hc, hr⟩ := h.good.come (by omega) h.free h.room (w := .clean b v) ⟨by rw [← h3]; exact h4.1, hv⟩ h.good.ok.kept
        have hE : cEnts C (.clean b v) = aset C.entries b { e with dirty := false } := by
          simp only [cEnts, hf]; rw [if_pos (by simpa using h1)]
        rw [hE] at hr
        have heo := h.ents _ (afind_mem hf)
        refine ⟨D1, C1, hc, (h.of_came hr ?_ (fun p hp => ?_) h.kept).more (by omega) ht, hr.ents, hr.kept, hr.goes⟩
        · rw [aset_len_in (by rw [hf]; rfl)]; exact h.room
        · rcases aset_mem hp with hp | rfl
          · exact h.ents p hp
          · exact ⟨heo.block, heo.v, heo.client, heo.n, heo.data⟩
theorem Fine.drop {N : Nat} {t : Int} {D : DevM} {C : CacheM} (h : Fine N t D C) (ht : t + 100 ≤ 1000000000) (b : Int) : ∃ D1 C1, cDrop D C b = (D1, C1, (aDrop C b).2.2) ∧ Acted N (t + 100) D C (aDrop C b) D1 C1 := by
  unfold aDrop cDrop
  by_cases hf : (afind C.entries b).isSome = true
  · rw [if_pos hf, if_pos hf]
    obtain ⟨e, he⟩ := Option.isSome_iff_exists.1 hf
    obtain ⟨h3, h4⟩ := entOf h.good.ok he
    obtain ⟨D1, C1, hc, hr⟩ := h.good.come (by omega) h.free h.room (w := .drop b) (by show 0 ≤ b ∧ b < C.blocks; rw [← h3]; exact h4.1) h.good.ok.kept
    have := adel_len h.good.keys hf
    have := h.room
    exact ⟨D1, C1, hc, (h.of_came hr (by show (adel C.entries b).length + 6 ≤ N; omega) (fun p hp => h.ents p (adel_mem hp).1) h.kept).more (by omega) ht, hr.ents, hr.kept, hr.goes⟩
  · rw [if_neg hf, if_neg hf]; exact ⟨D, C, rfl, h.stay (by omega) ht 10⟩
theorem Fine.reset {N : Nat} {t : Int} {D : DevM} {C : CacheM} (h : Fine N t D C) (ht : t + 100 ≤ 1000000000) (v : Ver) (hv : verOk v) (l : List Int) (hl : ∀ n ∈ l, I64 n) : ∃ D1 C1, cReset D C v l = (D1, C1, (aReset C v l).2.2) ∧ Acted N (t + 100) D C (aReset C v l) D1 C1 := by
  unfold aReset cReset
  by_cases hw : cWrong v l = true
  · rw [if_pos hw, if_pos hw]; exact ⟨D, C, rfl, h.stay (by omega) ht 1⟩
  · rw [if_neg hw, if_neg hw]
    obtain ⟨D1, C1, hc, hr⟩ := h.good.come (by omega) h.free h.room (w := .note) (k := ⟨v, tabOf l⟩) trivial ⟨hv, tabOf_ok hl⟩
    exact ⟨D1, C1, hc, (h.of_came hr h.room h.ents (reset_range (by simpa using hw))).more (by omega) ht, hr.ents, hr.kept, hr.goes⟩
theorem Fine.note {N : Nat} {t : Int} {D : DevM} {C : CacheM} (h : Fine N t D C) (ht : t + 100 ≤ 1000000000) (v : Ver) (hv : verOk v) (l : List Int) (hl : ∀ n ∈ l, I64 n) : ∃ D1 C1, cNote D C v l = (D1, C1, (aNote C v l).2.2) ∧ Acted N (t + 100) D C (aNote C v l) D1 C1 := by
  unfold aNote cNote
  by_cases hw : cWrong v l = true
  · rw [if_pos hw, if_pos hw]; exact ⟨D, C, rfl, h.stay (by omega) ht 1⟩
  · rw [if_neg hw, if_neg hw]
    obtain ⟨D1, C1, hc, hr⟩ := h.good.come (by omega) h.free h.room (w := .note) (k := noteKept C v l) trivial (noteKept_ok h.good.ok hv hl)
    exact ⟨D1, C1, hc, (h.of_came hr h.room h.ents (note_range h.kept (by simpa using hw))).more (by omega) ht, hr.ents, hr.kept, hr.goes⟩
theorem Fine.sync {N : Nat} {t : Int} {D : DevM} {C : CacheM} (h : Fine N t D C) (ht : t + 100 ≤ 1000000000) : ∃ D1, cSync D C = (D1, C, 0) ∧ Acted N (t + 100) D C (C.entries, C.kept, 0) D1 C := by
  have hb := h.good.live.barrier
  have hok := h.good.ok.sync
  unfold cSync at hok ⊢
  rw [hb] at hok ⊢
  refine ⟨_, rfl, ⟨{ h.good.more (by omega) ht with ok := hok, live := ⟨h.good.live.alive, h.good.live.fuse⟩, len := ?_ }, h.free, h.room, h.blocks, h.ents, h.kept⟩, rfl, rfl, ?_⟩
  · simp only [applyAll, List.length_mapIdx]; exact h.good.len
  · refine .sync ?_
    rw [hb]; exact .refl _ _
theorem Fine.lDo {N : Nat} {t : Int} {D : DevM} {C : CacheM} (h : Fine N t D C) (ht : t + 100 ≤ 1000000000) {x : ActM} (hx : ActOk x) : ∃ D1 C1, Sei.lDo D C x = (D1, C1, (aDo C x).2.2) ∧ Acted N (t + 100) D C (aDo C x) D1 C1 := by
  unfold Sei.lDo aDo
  split
  · exact h.put ht x.e hx.v hx.en
  · split
    · exact h.clean ht _ _ hx.v
    · split
      · exact h.drop ht _
      · split
        · exact h.note ht _ hx.v _ hx.t
        · split
          · exact h.reset ht _ hx.v _ hx.t
          · split
            · obtain ⟨D1, h1, h2⟩ := h.sync ht
              exact ⟨D1, C, h1, h2⟩
            · exact ⟨D, C, rfl, h.stay (by omega) ht 0⟩
end Sei
/- Plain: what the laws on caches ask holds of the states that they go through. -/
namespace Sei
open Go Go.Sl
/-! ### the beginning -/
def openFacts (ring : Nat) (q : DevM × CacheM × Int) : Bool :=
  !q.1.dead && (decide (q.1.fuse = -1) && (decide (q.1.l.length = openN ring + 2) && (decide (q.2.1.log.cell.a0 = 0) && (decide (q.2.1.log.cell.a1 = 1) && (decide (q.2.1.log.first = 2) && (decide (q.2.1.log.n = openN ring) && (decide (q.2.1.log.cell.gen ≤ 10) && (decide (logTail q.2.1.log ≤ 10) && (q.2.1.entries.isEmpty && (q.2.1.puts.isEmpty && (decide (q.2.1.kept = kept0) && (q.2.1.log.items.isEmpty && decide (q.2.1.blocks = 32)))))))))))))
set_option maxRecDepth 100000 in
theorem open_facts : ∀ ring, ring < 256 → openFacts ring (open0 ring) = true := by decide +kernel
theorem open_fine {ring : Nat} (hr : ring < 256) : Fine (openN ring) 10 (open0 ring).1 (open0 ring).2.1 := by
  have h := open_facts ring hr
  have hok := open0_ok hr
  unfold openFacts at h
  simp only [Bool.and_eq_true, decide_eq_true_eq, Bool.not_eq_true', List.isEmpty_iff] at h
  obtain ⟨h1, h2, h3, h4, h5, h6, h7, h8, h9, h10, h11, h12, h13, h14⟩ := h
  have hn : openN ring ≤ 37 := by unfold openN; omega
  have hn2 : 8 ≤ openN ring := by unfold openN; omega
  refine ⟨⟨hok, ⟨h1, by omega⟩, h3, h4, h5, h6, h7, ⟨hn2, hn⟩, h8, h9, by rw [h10]; exact List.nodup_nil, by rw [h11]; exact List.nodup_nil, (by rw [h11]; intro p hp; cases hp), by omega⟩, by rw [h13]; simp; omega, by rw [h10]; simp; omega, h14, (by rw [h10]; intro p hp; cases hp), ?_⟩
  rw [h12]
  exact KOk.of (by decide) (by decide) (by decide) (by decide) (by decide) (by decide)
theorem fine_pair {N : Nat} {t : Int} {p : DevM × CacheM} {D : DevM} {C : CacheM} (h : p = (D, C)) (hf : Fine N t D C) : Fine N t p.1 p.2 := by subst h; exact hf
theorem stN_fine {ring : Nat} (hr : ring < 256) {acts : ActL} (hA : ∀ a ∈ acts, ActOk a.1) : ∀ k : Nat, k ≤ 60 → Fine (openN ring) (10 + 100 * (k : Int)) (stN ring acts k).1 (stN ring acts k).2
  | 0, _ => by
    exact fine_pair (p := stN ring acts 0) rfl ((open_fine hr).more (by omega) (by omega))
  | k + 1, hk => by
    have ih := stN_fine hr hA k (by omega)
    unfold stN
    cases ha : acts[k]? with
    | none => exact ih.more (by omega) (by omega)
    | some a =>
      obtain ⟨D1, C1, h1, h2⟩ := ih.lDo (by omega) (hA a (List.mem_of_getElem? ha))
      dsimp only
      rw [h1]
      exact h2.fine.more (by omega) (by omega)
theorem stR_fine {ring : Nat} (hr : ring < 256) {acts : ActL} (hA : ∀ a ∈ acts, ActOk a.1) : ∀ k : Nat, k ≤ 60 → Fine (openN ring) (10 + 100 * (k : Int)) (stR ring acts k).1 (stR ring acts k).2
  | 0, _ => by
    exact fine_pair (p := stR ring acts 0) rfl ((open_fine hr).more (by omega) (by omega))
  | k + 1, hk => by
    have ih := stR_fine hr hA k (by omega)
    unfold stR
    cases ha : acts[k]? with
    | none => exact ih.more (by omega) (by omega)
    | some a =>
      dsimp only
      split
      · exact ih.more (by omega) (by omega)
      · obtain ⟨D1, C1, h1, h2⟩ := ih.lDo (by omega) (hA a (List.mem_of_getElem? ha))
        rw [h1]
        exact h2.fine.more (by omega) (by omega)
theorem lawOk {ring : Nat} (hr : ring < 256) {acts : ActL} (hA : ∀ a ∈ acts, ActOk a.1) : LawOk ring acts := ⟨open_all ring hr, fun k hk => (stN_fine hr hA k hk).good.ok⟩
/-! ### what is told -/
theorem told_of {N : Nat} {t u : Int} {D D1 : DevM} {C C1 : CacheM} (h : Fine N t D C) (h1 : Fine N u D1 C1) (he : C1.entries = C.entries) (hk : C1.kept = C.kept) : toldOf C1 = toldOf C := by
  unfold toldOf cAll
  rw [he, hk, h.blocks, h1.blocks]
theorem all_of {N : Nat} {t u : Int} {D D1 : DevM} {C C1 : CacheM} (h : Fine N t D C) (h1 : Fine N u D1 C1) (he : C1.entries = C.entries) : cAll C1 = cAll C := by
  unfold cAll
  rw [he, h.blocks, h1.blocks]
/-! ### what is refused changes nothing -/
theorem aDo_errs (C : CacheM) (x : ActM) : errOk (aDo C x).2.2 ∧ ((aDo C x).2.2 ≠ 0 → (aDo C x).1 = C.entries ∧ (aDo C x).2.1 = C.kept) := by
  have same : ∀ e : Int, errOk e → errOk (C.entries, C.kept, e).2.2 ∧ ((C.entries, C.kept, e).2.2 ≠ 0 → (C.entries, C.kept, e).1 = C.entries ∧ (C.entries, C.kept, e).2.1 = C.kept) := fun e he => ⟨he, fun _ => ⟨rfl, rfl⟩⟩
  have good : ∀ (E : List (Int × Ety)) (k : Kept), errOk (E, k, (0 : Int)).2.2 ∧ ((E, k, (0 : Int)).2.2 ≠ 0 → (E, k, (0 : Int)).1 = C.entries ∧ (E, k, (0 : Int)).2.1 = C.kept) := fun E k => ⟨.inl rfl, fun h => absurd rfl h⟩
  unfold aDo
  split
  · unfold aPut
    split
    · exact same 2 (by unfold errOk; omega)
    · split
      · exact same 3 (by unfold errOk; omega)
      · split
        · exact same 1 (by unfold errOk; omega)
        · split
          · exact good _ _
          · split
            · exact same 12 (by unfold errOk; omega)
            · exact good _ _
  · split
    · unfold aClean
      split
      · exact same 10 (by unfold errOk; omega)
      · split
        · exact same 10 (by unfold errOk; omega)
        · split
          · exact good _ _
          · exact good _ _
    · split
      · unfold aDrop
        split
        · exact good _ _
        · exact same 10 (by unfold errOk; omega)
      · split
        · unfold aNote
          split
          · exact same 1 (by unfold errOk; omega)
          · exact good _ _
        · split
          · unfold aReset
            split
            · exact same 1 (by unfold errOk; omega)
            · exact good _ _
          · exact good _ _
theorem errsOk {ring : Nat} (hr : ring < 256) {acts : ActL} (hA : ∀ a ∈ acts, ActOk a.1) : ErrsOk ring acts where
  toLawOk := lawOk hr hA
  errs := fun k a hk ha => by
    have hf := stN_fine hr hA k (by omega)
    have hf1 := stN_fine hr hA (k + 1) (by omega)
    obtain ⟨D1, C1, h1, h2⟩ := hf.lDo (by omega) (hA a (List.mem_of_getElem? ha))
    obtain ⟨h3, h4⟩ := aDo_errs (stN ring acts k).2 a.1
    rw [stN_next ha] at hf1 ⊢
    rw [h1] at hf1 ⊢
    refine ⟨h3, fun he => ?_⟩
    obtain ⟨h5, h6⟩ := h4 he
    exact told_of hf hf1 (h2.ents.trans h5) (h2.kept.trans h6)
end Sei
/- Plain: what the laws on caches ask holds: Rises, Reset, Apart. -/
namespace Sei
open Go Go.Sl
/-! ### orders -/
theorem above_iff {a b : Ver} : above a b = true ↔ b.ep < a.ep ∨ (a.ep = b.ep ∧ b.sq < a.sq) := by
  unfold above; simp only [Bool.or_eq_true, Bool.and_eq_true, decide_eq_true_eq]
theorem above_not {a b : Ver} : above a b = false ↔ ¬ (b.ep < a.ep ∨ (a.ep = b.ep ∧ b.sq < a.sq)) := by
  rw [← above_iff]; simp
theorem above_self (a : Ver) : above a a = false := by rw [above_not]; omega
theorem above_asymm {a b : Ver} (h : above a b = true) : above b a = false := by
  rw [above_iff] at h; rw [above_not]; omega
theorem above_trans {a b c : Ver} (h1 : above a b = false) (h2 : above b c = false) : above a c = false := by
  rw [above_not] at *; omega
theorem tabSet_get (t : Tab) (c i x : Int) (hc : -1 ≤ c ∧ c ≤ 3) (hx : tabGet t c ≤ x) : tabGet t i ≤ tabGet (tabSet t c x) i := by
  unfold tabGet tabSet at *
  by_cases c0 : c = 0
  · subst c0; simp only [if_true] at hx ⊢
    by_cases i0 : i = 0
    · simp only [i0, if_true]; exact hx
    · simp only [i0, if_false]; exact Int.le_refl _
  · by_cases c1 : c = 1
    · subst c1
      simp only [show ¬ (1 : Int) = 0 by omega, if_false, if_true] at hx ⊢
      by_cases i0 : i = 0
      · simp only [i0, if_true]; exact Int.le_refl _
      · by_cases i1 : i = 1
        · simp only [i1, show ¬ (1 : Int) = 0 by omega, if_false, if_true]; exact hx
        · simp only [i0, i1, if_false]; exact Int.le_refl _
    · by_cases c2 : c = 2
      · subst c2
        simp only [show ¬ (2 : Int) = 0 by omega, show ¬ (2 : Int) = 1 by omega, if_false, if_true] at hx ⊢
        by_cases i0 : i = 0
        · simp only [i0, if_true]; exact Int.le_refl _
        · by_cases i1 : i = 1
          · simp only [i1, show ¬ (1 : Int) = 0 by omega, if_false, if_true]; exact Int.le_refl _
          · by_cases i2 : i = 2
            · simp only [i2, show ¬ (2 : Int) = 0 by omega, show ¬ (2 : Int) = 1 by omega, if_false, if_true]; exact hx
            · simp only [i0, i1, i2, if_false]; exact Int.le_refl _
      · simp only [c0, c1, c2, if_false] at hx ⊢
        by_cases i0 : i = 0
        · simp only [i0, if_true]; exact Int.le_refl _
        · by_cases i1 : i = 1
          · simp only [i1, show ¬ (1 : Int) = 0 by omega, if_false, if_true]; exact Int.le_refl _
          · by_cases i2 : i = 2
            · simp only [i2, show ¬ (2 : Int) = 0 by omega, show ¬ (2 : Int) = 1 by omega, if_false, if_true]; exact Int.le_refl _
            · simp only [i0, i1, i2, if_false]; exact hx
/-! ### Last and the numbers -/
def Under (E : List (Int × Ety)) (k : Kept) : Prop := ∀ p ∈ E, above p.2.v k.last = false
theorem aDo_rise (C : CacheM) (x : ActM) (h8 : ¬ x.kind = 8) (hu : Under C.entries C.kept) :
    above C.kept.last (aDo C x).2.1.last = false ∧ (∀ i, tabGet C.kept.t i ≤ tabGet (aDo C x).2.1.t i) ∧ Under (aDo C x).1 (aDo C x).2.1 := by
  have same : ∀ e : Int, above C.kept.last (C.entries, C.kept, e).2.1.last = false ∧ (∀ i, tabGet C.kept.t i ≤ tabGet (C.entries, C.kept, e).2.1.t i) ∧ Under (C.entries, C.kept, e).1 (C.entries, C.kept, e).2.1 := fun e => ⟨above_self _, fun i => Int.le_refl _, hu⟩
  unfold aDo
  split
  · unfold aPut
    split
    · exact same 2
    · split
      · exact same 3
      · split
        · exact same 1
        · rename_i h1 h2 h3
          simp only [Bool.or_eq_true, not_or, Bool.not_eq_true, Bool.not_eq_false'] at h3
          obtain ⟨hab, hmv, hcl, hod⟩ := h3
          have hc := withinB_iff.1 hcl
          have put : ∀ E, (∀ p ∈ E, p ∈ C.entries) → above C.kept.last (aset E x.e.block x.e, putKept C x.e, (0 : Int)).2.1.last = false ∧ (∀ i, tabGet C.kept.t i ≤ tabGet (aset E x.e.block x.e, putKept C x.e, (0 : Int)).2.1.t i) ∧ Under (aset E x.e.block x.e, putKept C x.e, (0 : Int)).1 (aset E x.e.block x.e, putKept C x.e, (0 : Int)).2.1 := fun E hE => by
            refine ⟨above_asymm hab, fun i => ?_, fun p hp => ?_⟩
            · show tabGet C.kept.t i ≤ tabGet (putKept C x.e).t i
              unfold putKept
              dsimp only
              split
              · exact tabSet_get _ _ _ _ hc (by omega)
              · exact Int.le_refl _
            · rcases aset_mem hp with hp | rfl
              · exact above_trans (hu p (hE p hp)) (above_asymm hab)
              · exact above_self _
          split
          · exact put _ fun p hp => hp
          · split
            · exact same 12
            · exact put _ fun p hp => (adel_mem hp).1
  · split
    · unfold aClean
      split
      · exact same 10
      · rename_i e he
        split
        · exact same 10
        · split
          · exact same 0
          · refine ⟨above_self _, fun i => Int.le_refl _, fun p hp => ?_⟩
            rcases aset_mem hp with hp | rfl
            · exact hu p hp
            · have hx : above e.v C.kept.last = false := hu _ (afind_mem he)
              exact hx
    · split
      · unfold aDrop
        split
        · exact ⟨above_self _, fun i => Int.le_refl _, fun p hp => hu p (adel_mem hp).1⟩
        · exact same 10
      · split
        · unfold aNote
          split
          · exact same 1
          · have hl : above C.kept.last (noteKept C x.e.v x.t).last = false := by
              unfold noteKept
              dsimp only
              split
              · rename_i ha; exact above_asymm ha
              · exact above_self _
            refine ⟨hl, fun i => ?_, fun p hp => above_trans (hu p hp) hl⟩
            show tabGet C.kept.t i ≤ tabGet (tabMax C.kept.t x.t) i
            unfold tabGet tabMax
            split
            · dsimp only; omega
            · split
              · dsimp only; omega
              · split
                · dsimp only; omega
                · dsimp only; omega
        · exact same 0
theorem open_empty {ring : Nat} (hr : ring < 256) : (open0 ring).2.1.entries = [] := by
  have h := open_facts ring hr
  unfold openFacts at h
  simp only [Bool.and_eq_true, decide_eq_true_eq, Bool.not_eq_true', List.isEmpty_iff] at h
  obtain ⟨h1, h2, h3, h4, h5, h6, h7, h8, h9, h10, h11, h12, h13, h14⟩ := h
  exact h10
theorem stR_under {ring : Nat} (hr : ring < 256) {acts : ActL} (hA : ∀ a ∈ acts, ActOk a.1) : ∀ k : Nat, k ≤ 60 → Under (stR ring acts k).2.entries (stR ring acts k).2.kept
  | 0, _ => by
    have h10 := open_empty hr
    have : ∀ (p : DevM × CacheM) (D : DevM) (C : CacheM), p = (D, C) → C.entries = [] → Under p.2.entries p.2.kept := by
      rintro p D C rfl he q hq
      dsimp only at hq
      rw [he] at hq
      cases hq
    exact this (stR ring acts 0) _ _ rfl h10
  | k + 1, hk => by
    have ih := stR_under hr hA k (by omega)
    have hf := stR_fine hr hA k (by omega)
    unfold stR
    cases ha : acts[k]? with
    | none => exact ih
    | some a =>
      dsimp only
      split
      · exact ih
      · rename_i h8
        obtain ⟨D1, C1, h1, h2⟩ := hf.lDo (by omega) (hA a (List.mem_of_getElem? ha))
        rw [h1]
        dsimp only
        rw [h2.ents, h2.kept]
        exact (aDo_rise _ a.1 h8 ih).2.2
theorem riseOk {ring : Nat} (hr : ring < 256) {acts : ActL} (hA : ∀ a ∈ acts, ActOk a.1) : RiseOk ring acts := by
  have step : ∀ k : Nat, k < 60 → above (stR ring acts k).2.kept.last (stR ring acts (k + 1)).2.kept.last = false ∧ ∀ i, tabGet (stR ring acts k).2.kept.t i ≤ tabGet (stR ring acts (k + 1)).2.kept.t i := by
    intro k hk
    have hf := stR_fine hr hA k (by omega)
    have hu := stR_under hr hA k (by omega)
    cases ha : acts[k]? with
    | none => rw [show stR ring acts (k + 1) = stR ring acts k by rw [stR, ha]]; exact ⟨above_self _, fun i => Int.le_refl _⟩
    | some a =>
      by_cases h8 : a.1.kind = 8
      · rw [stR_pass ha h8]; exact ⟨above_self _, fun i => Int.le_refl _⟩
      · obtain ⟨D1, C1, h1, h2⟩ := hf.lDo (by omega) (hA a (List.mem_of_getElem? ha))
        rw [stR_next ha h8, h1]
        dsimp only
        rw [h2.kept]
        have := aDo_rise _ a.1 h8 hu
        exact ⟨this.1, this.2.1⟩
  refine ⟨open_all ring hr, fun k hk => (stR_fine hr hA k hk).good.ok, fun k hk => (step k hk).1, fun k i hk => (step k hk).2 i, fun k e hk he => ?_⟩
  have := cAll_mem (stR_fine hr hA k hk).good.ok he
  exact stR_under hr hA k hk _ (afind_mem this)
/-! ### Reset -/
theorem note_nothing {C : CacheM} (h : KOk C.kept) : noteKept C ver0 [0, 0, 0, 0] = C.kept := by
  obtain ⟨h1, h2, h3, h4, h5, h6⟩ := h.all
  have ha : above ver0 C.kept.last = false := by
    rw [above_not]
    show ¬ (C.kept.last.ep < 0 ∨ ((0 : Int) = C.kept.last.ep ∧ C.kept.last.sq < 0))
    omega
  have hm : ∀ n : Int, 0 ≤ n → max n 0 = n := fun n hn => by omega
  unfold noteKept
  rw [ha]
  simp only [Bool.false_eq_true, if_false, tabMax, List.getD_cons_zero, List.getD_cons_succ, hm _ h3.1, hm _ h4.1, hm _ h5.1, hm _ h6.1]
theorem resetOk {ring : Nat} (hr : ring < 256) {acts : ActL} (hA : ∀ a ∈ acts, ActOk a.1) (v : Ver) (hv : verOk v) (l : List Int) (hl : ∀ n ∈ l, I64 n) : ResetOk ring acts v l := by
  refine { lawOk hr hA with okR := fun k hk => (stN_fine hr hA k hk).good.ok.reset hv hl, errs := fun k hk => ?_, sets := fun k hk => ?_, notes := fun k hk h0 R hR => ?_ }
  all_goals
    have hf := stN_fine hr hA k hk
    obtain ⟨D1, C1, h1, h2⟩ := hf.reset (by omega) v hv l hl
  · rw [h1]
    dsimp only
    intro he
    have h3 : aReset (stN ring acts k).2 v l = ((stN ring acts k).2.entries, (stN ring acts k).2.kept, 1) := by
      unfold aReset at he ⊢
      split at he
      · rename_i hw; rw [if_pos hw]
      · exact absurd rfl he
    rw [h3] at h2 ⊢
    exact ⟨rfl, told_of hf h2.fine h2.ents h2.kept⟩
  · rw [h1]
    dsimp only
    intro he
    unfold aReset at he h2
    split at he
    · cases he
    · rename_i hw
      rw [if_neg hw] at h2
      exact ⟨(cWrong_not (by simpa using hw)).2.1, h2.kept, all_of hf h2.fine h2.ents⟩
  · subst hR
    rw [h1]
    dsimp only
    obtain ⟨D2, C2, h3, h4⟩ := h2.fine.note (by omega) ver0 ⟨⟨by decide, by decide⟩, ⟨by decide, by decide⟩⟩ [0, 0, 0, 0] (by intro n hn; simp at hn; subst hn; exact ⟨by decide, by decide⟩)
    have h5 : aNote C1 ver0 [0, 0, 0, 0] = (C1.entries, C1.kept, 0) := by
      unfold aNote
      rw [if_neg (by decide), note_nothing h2.fine.kept]
    rw [h3]
    rw [h5] at h4 ⊢
    exact ⟨rfl, told_of h2.fine h4.fine h4.ents h4.kept, h4.fine.good.ok⟩
end Sei
/- Plain: what the laws on caches ask holds: Apart. -/
namespace Sei
open Go Go.Sl
theorem allGo_has : ∀ (l : List (Int × Ety)) (f k i : Nat) (e : Ety), afind l (i : Int) = some e → k ≤ i → i < k + f → e ∈ allGo l k f
  | l, 0, k, i, e, _, h1, h2 => by omega
  | l, f + 1, k, i, e, h, h1, h2 => by
    unfold allGo
    by_cases hk : i = k
    · subst hk; rw [h]; exact List.mem_cons_self
    · have := allGo_has l f (k + 1) i e h (by omega) (by omega)
      split
      · exact List.mem_cons_of_mem _ this
      · exact this
theorem allGo_nodup {l : List (Int × Ety)} (hl : ∀ p ∈ l, p.1 = p.2.block) : ∀ (f k : Nat), ((allGo l k f).map (·.block)).Nodup
  | 0, k => List.nodup_nil
  | f + 1, k => by
    unfold allGo
    have ih := allGo_nodup hl f (k + 1)
    split
    · rename_i e he
      rw [List.map_cons, List.nodup_cons]
      refine ⟨fun hm => ?_, ih⟩
      obtain ⟨x, hx, hxe⟩ := List.mem_map.1 hm
      obtain ⟨i, h1, h2, h3⟩ := allGo_mem _ _ _ _ hx
      have h4 := hl _ (afind_mem h1)
      have h5 := hl _ (afind_mem he)
      dsimp only at h4 h5 hxe
      omega
    · exact ih
theorem cAll_len {N : Nat} {t : Int} {D : DevM} {C : CacheM} (h : Fine N t D C) : (cAll C).length = C.entries.length := by
  have hk : ∀ p ∈ C.entries, p.1 = p.2.block := fun p hp => (h.good.ok.ents p hp).1
  have hnd := allGo_nodup hk C.blocks.toNat 0
  have h1 := nodup_le ((cAll C).map (·.block)) (keysOf C.entries) hnd fun x hx => by
    obtain ⟨e, he, rfl⟩ := List.mem_map.1 hx
    exact List.mem_map.2 ⟨_, afind_mem (cAll_mem h.good.ok he), rfl⟩
  have h2 := nodup_le (keysOf C.entries) ((cAll C).map (·.block)) h.good.keys fun x hx => by
    obtain ⟨p, hp, rfl⟩ := List.mem_map.1 hx
    obtain ⟨h3, h4⟩ := h.good.ok.ents p hp
    have h5 := h4.1
    have hb := h.blocks
    obtain ⟨i, hi⟩ : ∃ i : Nat, p.1 = (i : Int) := ⟨p.1.toNat, by omega⟩
    have hf : afind C.entries (i : Int) = some p.2 := afind_nodup h.good.keys (by rw [← hi]; exact hp)
    exact List.mem_map.2 ⟨p.2, allGo_has _ _ 0 i _ hf (Nat.zero_le _) (by omega), h3.symm⟩
  simp only [keysOf, List.length_map] at h1 h2
  omega
theorem countP_one {l : List Ety} {p : Ety → Bool} (hn : (l.map (·.block)).Nodup) (h : ∀ y ∈ l, ∀ z ∈ l, p y = true → p z = true → y.block = z.block) : l.countP p ≤ 1 := by
  induction l with
  | nil => simp
  | cons a l ih =>
    rw [List.map_cons, List.nodup_cons] at hn
    have ih := ih hn.2 fun y hy z hz => h y (by simp [hy]) z (by simp [hz])
    rw [List.countP_cons]
    by_cases ha : p a = true
    · have h0 : l.countP p = 0 := by
        rw [List.countP_eq_zero]
        intro y hy hpy
        exact hn.1 (List.mem_map.2 ⟨y, hy, h y (by simp [hy]) a (by simp) hpy ha⟩)
      rw [h0, if_pos ha]; exact Nat.le_refl _
    · rw [if_neg ha]; omega
/-- What an act leaves of another block's entry. -/
theorem aDo_apart {N : Nat} {t : Int} {D : DevM} {C : CacheM} (h : Fine N t D C) (x : ActM) {y : Ety} (hy : y ∈ cAll C) (hs : skipB x y = false) :
    afind (aDo C x).1 y.block = some y ∨ (cSpare C = some y.block ∧ placeB C x = true ∧ y.dirty = false ∧ afind (aDo C x).1 y.block = none) := by
  have hf := cAll_mem h.good.ok hy
  have hsk : x.kind ≤ 2 → y.block ≠ x.e.block := by
    intro hk hb
    unfold skipB at hs
    rw [decide_eq_true hk, decide_eq_true hb] at hs
    cases hs
  unfold aDo
  split
  · rename_i hk
    have hne := hsk (by omega)
    unfold aPut
    split
    · exact .inl hf
    · split
      · exact .inl hf
      · split
        · exact .inl hf
        · split
          · left; dsimp only; rw [afind_aset, if_neg hne]; exact hf
          · rename_i h4
            split
            · exact .inl hf
            · rename_i old hold
              by_cases hyo : y.block = old
              · right
                subst hyo
                obtain ⟨eo, h5, h6⟩ := cSpare_spec h.good.ok hold
                rw [hf] at h5
                injection h5 with h5
                subst h5
                refine ⟨hold, ?_, h6, by dsimp only; rw [afind_aset, if_neg hne, afind_adel, if_pos rfl]⟩
                unfold placeB
                rw [decide_eq_true hk]
                have h7 : (cGet C x.e.block).2 = false := by
                  unfold cGet
                  dsimp only
                  cases hq : (afind C.entries x.e.block).isSome with
                  | true => exact absurd (.inl hq) h4
                  | false => rfl
                rw [h7]
                have h8 : cRoom C ≤ ((cAll C).length : Int) := by
                  rw [cAll_len h]
                  exact Int.not_lt.1 fun hlt => h4 (.inr hlt)
                rw [decide_eq_true h8]
                rfl
              · left; dsimp only; rw [afind_aset, if_neg hne, afind_adel, if_neg hyo]; exact hf
  · split
    · rename_i hk
      have hne := hsk (by omega)
      unfold aClean
      split
      · exact .inl hf
      · split
        · exact .inl hf
        · split
          · exact .inl hf
          · left; dsimp only; rw [afind_aset, if_neg hne]; exact hf
    · split
      · rename_i hk
        have hne := hsk (by omega)
        unfold aDrop
        split
        · left; dsimp only; rw [afind_adel, if_neg hne]; exact hf
        · exact .inl hf
      · split
        · unfold aNote
          split <;> exact .inl hf
        · split
          · unfold aReset
            split <;> exact .inl hf
          · exact .inl hf
theorem apartOk {ring : Nat} (hr : ring < 256) {acts : ActL} (hA : ∀ a ∈ acts, ActOk a.1) : ApartOk ring acts := by
  have step : ∀ (k : Nat) (a : ActM × Value × Value), k < 60 → acts[k]? = some a → (stN ring acts (k + 1)).2.entries = (aDo (stN ring acts k).2 a.1).1 := by
    intro k a hk ha
    obtain ⟨D1, C1, h1, h2⟩ := (stN_fine hr hA k (by omega)).lDo (by omega) (hA a (List.mem_of_getElem? ha))
    rw [stN_next ha, h1]
    exact h2.ents
  refine { lawOk hr hA with same := fun k a y hk ha hy hs hg => ?_, gone := fun k a hk ha => ?_, many := fun k hk => ?_ }
  · have hf := stN_fine hr hA k (by omega)
    have he := step k a hk ha
    rcases aDo_apart hf a.1 hy hs with h | ⟨h1, h2, h3, h4⟩
    · unfold cGet
      rw [he, h]; rfl
    · unfold goneB at hg
      rw [h2, h3] at hg
      unfold cGet at hg
      rw [he, h4] at hg
      cases hg
  · have hf := stN_fine hr hA k (by omega)
    have he := step k a hk ha
    refine countP_one (allGo_nodup (fun p hp => (hf.good.ok.ents p hp).1) _ _) fun y hy z hz hpy hpz => ?_
    unfold leaves goneB at hpy hpz
    simp only [Bool.and_eq_true, Bool.not_eq_true'] at hpy hpz
    have one : ∀ y ∈ cAll (stN ring acts k).2, skipB a.1 y = false → (cGet (stN ring acts (k + 1)).2 y.block).2 = false → cSpare (stN ring acts k).2 = some y.block := by
      intro y hy hs hg
      rcases aDo_apart hf a.1 hy hs with h | ⟨h1, h2, h3, _⟩
      · unfold cGet at hg
        rw [he, h] at hg
        cases hg
      · exact h1
    have h1 := one y hy hpy.1 hpy.2.1
    have h2 := one z hz hpz.1 hpz.2.1
    rw [h1] at h2
    exact Option.some.inj h2
  · have hf := stN_fine hr hA (k + 1) (by omega)
    rw [cAll_len hf, hf.cRoom]
    have := hf.room
    omega
end Sei
/- The walks: crc. -/
namespace Go.Proofs.YtjfacgmobpbhcaaGreat
open Go.Sl Sei
theorem s_crc_on (s : UInt32) (b : UInt8) : Ctr P f_crc_on [u32 s, u8 b] emp (fun v => pu (v = u32 (crcOn s b)) * emp) := by
  refine Ctr.of_body (m := 22) fn_crc_on rfl rfl rfl rfl rfl (fun F g => ?_)
  refine Wc.seq ?_
  refine Wc.region ?_
  refine Wl.val rfl (V.assign rfl) ?_
  refine Wl.nil ?_
  refine Wx.then_n ?_
  refine Wc.seq ?_
  refine Wc.region ?_
  refine Wl.val rfl (V.move rfl) ?_
  refine Wl.val rfl (V.move rfl) ?_
  refine Wl.val rfl (V.conv rfl U_uint8 U_uint32 (by exact conv_u8_u32 b)) ?_
  refine Wl.val rfl (V.xor rfl rfl (by exact xor_u32 _ _)) ?_
  refine Wl.val rfl (V.assign rfl) ?_
  refine Wl.nil ?_
  refine Wx.then_n ?_
  refine Wc.seq ?_
  refine Wc.seq ?_
  refine Wc.region ?_
  refine Wl.val rfl (V.move rfl) ?_
  refine Wl.nil ?_
  refine Wx.then_n ?_
  refine Wc.block ?_
  refine Wc.loop (α := Nat × UInt32) (fun x => 8 - x.1) (fun x => pu (x.1 ≤ 8 ∧ crcBits (8 - x.1) x.2 = crcOn s b) * (emp * F)) (fun x => [(10, i64 (x.1 : Nat)), (0, u32 x.2)]) (0, s ^^^ b.toUInt32) (by exact Ent.pure (by exact ⟨Nat.zero_le _, rfl⟩)) (by repeat (first | exact trivial | refine ⟨rfl, ?_⟩)) (fun x => ?_)
  refine Wc.pu (fun hx => ?_)
  refine Wc.seq ?_
  refine Wc.region ?_
  refine Wl.val rfl (V.lss rfl rfl) ?_
  refine Wl.nil ?_
  refine Wx.then_n ?_
  refine Wc.seq ?_
  refine Wc.cond rfl (fun hc1 => ?_) (fun hc1 => ?_)
  · skip
    try replace hc1 := of_decide_eq_true hc1
    refine Wc.skip ?_
    refine Wx.then_n ?_
    refine Wc.seq ?_
    refine Wc.block ?_
    refine Wc.seq ?_
    refine Wc.region ?_
    refine Wl.val rfl (V.move rfl) ?_
    refine Wl.val rfl (V.and rfl rfl (by exact and_u32c _ 1 (by omega))) ?_
    refine Wl.val rfl (V.assign rfl) ?_
    refine Wl.nil ?_
    refine Wx.then_n ?_
    refine Wc.seq ?_
    refine Wc.region ?_
    refine Wl.val rfl (V.move rfl) ?_
    refine Wl.val rfl (V.shr rfl rfl (by omega) (by exact shr_u32_one _)) ?_
    refine Wl.val rfl (V.assign rfl) ?_
    refine Wl.nil ?_
    refine Wx.then_n ?_
    refine Wc.seq ?_
    refine Wc.region ?_
    refine Wl.val rfl (V.move rfl) ?_
    refine Wl.val rfl (V.eql rfl rfl) ?_
    refine Wl.nil ?_
    refine Wx.then_n ?_
    refine Wc.cond rfl (fun hc2 => ?_) (fun hc2 => ?_)
    · skip
      try replace hc2 := of_decide_eq_true hc2
      refine Wc.region ?_
      refine Wl.val rfl (V.move rfl) ?_
      refine Wl.val rfl (V.xor rfl rfl (by exact xor_u32c _ 2197175160 (by omega))) ?_
      refine Wl.val rfl (V.assign rfl) ?_
      refine Wl.nil ?_
      refine Wx.blk_n ?_
      refine Wx.then_n ?_
      refine Wc.region ?_
      refine Wl.val rfl (V.addk rfl rfl (wr64 (by omega) (by omega))) ?_
      refine Wl.val rfl (V.move rfl) ?_
      refine Wl.nil ?_
      have hb := crcBit_t (decide_eq_true hc2)
      rw [← hb]
      refine Wx.again (x.1 + 1, crcBit x.2) (by exact (by show 8 - (x.1 + 1) < 8 - x.1; omega)) (by exact Ent.pure (by exact crcOn_step (decide_eq_true hc1) hx)) (by repeat (first | exact trivial | refine ⟨rfl, ?_⟩))
    · skip
      try replace hc2 := of_decide_eq_false hc2
      refine Wc.skip ?_
      refine Wx.blk_n ?_
      refine Wx.then_n ?_
      refine Wc.region ?_
      refine Wl.val rfl (V.addk rfl rfl (wr64 (by omega) (by omega))) ?_
      refine Wl.val rfl (V.move rfl) ?_
      refine Wl.nil ?_
      have hb := crcBit_f (decide_eq_false hc2)
      rw [← hb]
      refine Wx.again (x.1 + 1, crcBit x.2) (by exact (by show 8 - (x.1 + 1) < 8 - x.1; omega)) (by exact Ent.pure (by exact crcOn_step (decide_eq_true hc1) hx)) (by repeat (first | exact trivial | refine ⟨rfl, ?_⟩))
  · skip
    try replace hc1 := of_decide_eq_false hc1
    refine Wc.exit ?_
    refine Wx.then_x ?_
    refine Wx.then_x ?_
    refine Wx.blk_x ?_
    refine Wx.then_n ?_
    refine Wc.seq ?_
    refine Wc.region ?_
    refine Wl.val rfl (V.move rfl) ?_
    refine Wl.val rfl (V.assign rfl) ?_
    refine Wl.nil ?_
    refine Wx.then_n ?_
    refine Wc.ret ?_
    repeat (first | refine Wx.then_r ?_ | refine Wx.blk_r ?_ | refine Wx.ng_r ?_)
    refine Wx.ret1 rfl rfl rfl ?_
    rw [crcOn_done (decide_eq_false hc1) hx]; exact Ent.resF rfl
theorem s_crc_More (s : UInt32) {S : HP} {v : Value} {n : Nat} {bs : List UInt8} (hw : Vw S v 1 n (bytesV bs)) : Ctr P f_crc_More [u32 s, v] S (fun r => pu (r = u32 (crcMore s bs)) * S) := by
  have hl : bs.length = n := by simpa using hw.length
  have hm := hw.le
  refine Ctr.of_body (m := 22) fn_crc_More rfl rfl rfl rfl rfl (fun F g => ?_)
  refine Wc.seq ?_
  refine Wc.region ?_
  refine Wl.val rfl (V.assign rfl) ?_
  refine Wl.nil ?_
  refine Wx.then_n ?_
  refine Wc.seq ?_
  refine Wc.region ?_
  refine Wl.val rfl (V.move rfl) ?_
  refine Wl.val rfl (V.compl rfl (by exact compl_u32 _)) ?_
  refine Wl.val rfl (V.assign rfl) ?_
  refine Wl.nil ?_
  refine Wx.then_n ?_
  refine Wc.seq ?_
  refine Wc.seq ?_
  refine Wc.region ?_
  refine Wl.val rfl (V.move rfl) ?_
  refine Wl.val rfl (V.lenW rfl U_Suint8 hw) ?_
  refine Wl.val rfl (V.move rfl) ?_
  refine Wl.nil ?_
  refine Wx.then_n ?_
  refine Wc.block ?_
  refine Wc.loop (α := Nat × UInt32) (fun x => n - x.1) (fun x => pu (x.1 ≤ n ∧ crcFold x.2 (bs.drop x.1) = crcFold (~~~s) bs) * (S * F)) (fun x => [(12, i64 (x.1 : Nat)), (11, i64 (n : Nat)), (10, v), (5, u32 x.2)]) (0, ~~~s) (by exact Ent.pure (by exact ⟨Nat.zero_le _, rfl⟩)) (by repeat (first | exact trivial | refine ⟨rfl, ?_⟩)) (fun x => ?_)
  refine Wc.pu (fun hx => ?_)
  refine Wc.seq ?_
  refine Wc.region ?_
  refine Wl.val rfl (V.lss rfl rfl) ?_
  refine Wl.nil ?_
  refine Wx.then_n ?_
  refine Wc.seq ?_
  refine Wc.cond rfl (fun hc1 => ?_) (fun hc1 => ?_)
  · skip
    try replace hc1 := of_decide_eq_true hc1
    obtain ⟨b, hb, hs⟩ := crcMore_step hl hc1 hx
    refine Wc.skip ?_
    refine Wx.then_n ?_
    refine Wc.seq ?_
    refine Wc.block ?_
    refine Wc.seq ?_
    refine Wc.region ?_
    refine Wl.val rfl (V.idxW rfl rfl U_Suint8 Z_uint8 hw (by omega) (by omega)) ?_
    refine Wl.val rfl (V.ldW rfl C_uint8 hw (by rw [show (x.1 : Int).toNat * 1 = x.1 by omega, bytesV_get, hb]; rfl)) ?_
    refine Wl.val rfl (V.assign rfl) ?_
    refine Wl.nil ?_
    refine Wx.then_n ?_
    refine Wc.region ?_
    refine Wl.val rfl (V.move rfl) ?_
    refine Wl.val rfl (V.move rfl) ?_
    first | refine Wl.callE rfl rfl (s_crc_on _ _) ?_ | refine Wl.callD rfl rfl (s_crc_on _ _) (by first | exact Take.here | exact Take.there Take.here | exact Take.there (Take.there Take.here) | exact Take.there (Take.there (Take.there Take.here)) | exact Take.none _ | exact TakeC.t | exact Take.there (Take.there (Take.there (Take.there Take.here))) | exact Take.there (Take.there (Take.there (Take.there (Take.there Take.here)))) | exact Take.there (Take.there (Take.there (Take.there (Take.there (Take.there Take.here)))))) ?_
    refine Wl.val rfl (V.assign rfl) ?_
    refine Wl.nil ?_
    refine Wx.blk_n ?_
    refine Wx.then_n ?_
    refine Wc.region ?_
    refine Wl.val rfl (V.addk rfl rfl (wr64 (by omega) (by omega))) ?_
    refine Wl.val rfl (V.move rfl) ?_
    refine Wl.nil ?_
    refine Wx.again (x.1 + 1, crcOn x.2 b) (by exact (by show n - (x.1 + 1) < n - x.1; omega)) (by exact Ent.pure hs) (by repeat (first | exact trivial | refine ⟨rfl, ?_⟩))
  · skip
    try replace hc1 := of_decide_eq_false hc1
    refine Wc.exit ?_
    refine Wx.then_x ?_
    refine Wx.then_x ?_
    refine Wx.blk_x ?_
    refine Wx.then_n ?_
    refine Wc.seq ?_
    refine Wc.region ?_
    refine Wl.val rfl (V.move rfl) ?_
    refine Wl.val rfl (V.compl rfl (by exact compl_u32 _)) ?_
    refine Wl.val rfl (V.assign rfl) ?_
    refine Wl.nil ?_
    refine Wx.then_n ?_
    refine Wc.ret ?_
    repeat (first | refine Wx.then_r ?_ | refine Wx.blk_r ?_ | refine Wx.ng_r ?_)
    refine Wx.ret1 rfl rfl rfl ?_
    rw [crcMore_done (s := s) hl hc1 hx]; exact Ent.resF rfl
theorem s_crc_Sum {S : HP} {v : Value} {n : Nat} {bs : List UInt8} (hw : Vw S v 1 n (bytesV bs)) : Ctr P f_crc_Sum [v] S (fun r => pu (r = u32 (crcSum bs)) * S) := by
  refine Ctr.of_body (m := 5) fn_crc_Sum rfl rfl rfl rfl rfl (fun F g => ?_)
  refine Wc.seq ?_
  refine Wc.region ?_
  refine Wl.val rfl (V.assign rfl) ?_
  refine Wl.nil ?_
  refine Wx.then_n ?_
  refine Wc.seq ?_
  refine Wc.region ?_
  refine Wl.val rfl (V.move rfl) ?_
  first | refine Wl.callE rfl rfl (s_crc_More 0 hw) ?_ | refine Wl.callD rfl rfl (s_crc_More 0 hw) (by first | exact Take.here | exact Take.there Take.here | exact Take.there (Take.there Take.here) | exact Take.there (Take.there (Take.there Take.here)) | exact Take.none _ | exact TakeC.t | exact Take.there (Take.there (Take.there (Take.there Take.here))) | exact Take.there (Take.there (Take.there (Take.there (Take.there Take.here)))) | exact Take.there (Take.there (Take.there (Take.there (Take.there (Take.there Take.here)))))) ?_
  refine Wl.val rfl (V.assign rfl) ?_
  refine Wl.nil ?_
  refine Wx.then_n ?_
  refine Wc.ret ?_
  repeat (first | refine Wx.then_r ?_ | refine Wx.blk_r ?_ | refine Wx.ng_r ?_)
  refine Wx.ret1 rfl rfl rfl ?_
  first | exact Ent.resF rfl | exact Ent.resC rfl | exact Ent.refl _ | exact Ent.auto
theorem s_crc_Check (s : UInt32) {S : HP} {v : Value} {n : Nat} {bs : List UInt8} (hw : Vw S v 1 n (bytesV bs)) : Ctr P f_crc_Check [v, u32 s] S (fun r => pu (r = .bool (crcSum bs == s)) * S) := by
  refine Ctr.of_body (m := 9) fn_crc_Check rfl rfl rfl rfl rfl (fun F g => ?_)
  refine Wc.seq ?_
  refine Wc.region ?_
  refine Wl.val rfl (V.assign rfl) ?_
  refine Wl.nil ?_
  refine Wx.then_n ?_
  refine Wc.seq ?_
  refine Wc.region ?_
  refine Wl.val rfl (V.move rfl) ?_
  first | refine Wl.callE rfl rfl (s_crc_Sum hw) ?_ | refine Wl.callD rfl rfl (s_crc_Sum hw) (by first | exact Take.here | exact Take.there Take.here | exact Take.there (Take.there Take.here) | exact Take.there (Take.there (Take.there Take.here)) | exact Take.none _ | exact TakeC.t | exact Take.there (Take.there (Take.there (Take.there Take.here))) | exact Take.there (Take.there (Take.there (Take.there (Take.there Take.here)))) | exact Take.there (Take.there (Take.there (Take.there (Take.there (Take.there Take.here)))))) ?_
  refine Wl.val rfl (V.move rfl) ?_
  refine Wl.val rfl (V.eql rfl rfl) ?_
  refine Wl.val rfl (V.assign rfl) ?_
  refine Wl.nil ?_
  refine Wx.then_n ?_
  refine Wc.ret ?_
  repeat (first | refine Wx.then_r ?_ | refine Wx.blk_r ?_ | refine Wx.ng_r ?_)
  refine Wx.ret1 rfl rfl rfl ?_
  rw [u32_beq]; exact Ent.resF rfl
end Go.Proofs.YtjfacgmobpbhcaaGreat
/- The walks: the library's generic functions. -/
namespace Go.Proofs.YtjfacgmobpbhcaaGreat
open Go.Sl Sei
theorem s_slices_IndexFunc_string {S : HP} {v : Value} {n : Nat} {xs : List Value} (hw : Vw S v 1 n xs) {fid : FuncId} {p : Value → Bool} (hp : ∀ x ∈ xs, Ctr P fid [x] emp (fun r => pu (r = .bool (p x)) * emp)) :
  Ctr P f_slices_IndexFunc_string [v, .func (.func fid) #[] #[]] S (fun r => pu (r = i64 (idxGo p xs 0)) * S) := by
  have hl : xs.length = n := by simpa using hw.length
  have hm := hw.le
  refine Ctr.of_body (m := 19) fn_slices_IndexFunc_string rfl rfl rfl rfl rfl (fun F g => ?_)
  refine Wc.seq ?_
  refine Wc.region ?_
  refine Wl.val rfl (V.assign rfl) ?_
  refine Wl.nil ?_
  refine Wx.then_n ?_
  refine Wc.seq ?_
  refine Wc.seq ?_
  refine Wc.region ?_
  refine Wl.val rfl (V.move rfl) ?_
  refine Wl.val rfl (V.lenW rfl U_Sstring hw) ?_
  refine Wl.val rfl (V.move rfl) ?_
  refine Wl.nil ?_
  refine Wx.then_n ?_
  refine Wc.block ?_
  refine Wc.loop (α := Nat) (fun x => n - x) (fun x => pu (x ≤ n ∧ idxGo p (xs.drop x) x = idxGo p xs 0) * (S * F)) (fun x => [(8, i64 (x : Nat)), (7, i64 (n : Nat)), (6, v), (0, v), (1, .func (.func fid) #[] #[])]) 0 (by exact Ent.pure (by exact ⟨Nat.zero_le _, rfl⟩)) (by repeat (first | exact trivial | refine ⟨rfl, ?_⟩)) (fun x => ?_)
  refine Wc.pu (fun hx => ?_)
  refine Wc.seq ?_
  refine Wc.region ?_
  refine Wl.val rfl (V.lss rfl rfl) ?_
  refine Wl.nil ?_
  refine Wx.then_n ?_
  refine Wc.seq ?_
  refine Wc.cond rfl (fun hc1 => ?_) (fun hc1 => ?_)
  · skip
    try replace hc1 := of_decide_eq_true hc1
    obtain ⟨y, hy, hyx, ht, hf⟩ := idxGo_step hl hc1 hx
    refine Wc.skip ?_
    refine Wx.then_n ?_
    refine Wc.seq ?_
    refine Wc.block ?_
    refine Wc.seq ?_
    refine Wc.region ?_
    refine Wl.val rfl (V.move rfl) ?_
    refine Wl.val rfl (V.assign rfl) ?_
    refine Wl.nil ?_
    refine Wx.then_n ?_
    refine Wc.seq ?_
    refine Wc.region ?_
    refine Wl.val rfl (V.move rfl) ?_
    refine Wl.val rfl (V.move rfl) ?_
    refine Wl.val rfl (V.move rfl) ?_
    refine Wl.val rfl (V.idxW rfl rfl U_Sstring Z_string hw (by omega) (by omega)) ?_
    refine Wl.val rfl (V.ldW rfl C_string hw (by rw [show (x : Int).toNat * 1 = x by omega, hy])) ?_
    first | refine Wl.callvE rfl rfl rfl (hp _ hyx) ?_ | refine Wl.callvD rfl rfl rfl (hp _ hyx) (by first | exact Take.here | exact Take.there Take.here | exact Take.there (Take.there Take.here) | exact Take.there (Take.there (Take.there Take.here)) | exact Take.none _ | exact TakeC.t | exact Take.there (Take.there (Take.there (Take.there Take.here))) | exact Take.there (Take.there (Take.there (Take.there (Take.there Take.here)))) | exact Take.there (Take.there (Take.there (Take.there (Take.there (Take.there Take.here)))))) ?_
    refine Wl.nil ?_
    refine Wx.then_n ?_
    refine Wc.cond rfl (fun hc2 => ?_) (fun hc2 => ?_)
    · skip
      try replace hc2 := of_decide_eq_true hc2
      refine Wc.seq ?_
      refine Wc.region ?_
      refine Wl.val rfl (V.move rfl) ?_
      refine Wl.val rfl (V.assign rfl) ?_
      refine Wl.nil ?_
      refine Wx.then_n ?_
      refine Wc.ret ?_
      repeat (first | refine Wx.then_r ?_ | refine Wx.blk_r ?_ | refine Wx.ng_r ?_)
      refine Wx.ret1 rfl rfl rfl ?_
      rw [ht hc2]; exact Ent.resF rfl
    · skip
      try replace hc2 := of_decide_eq_false hc2
      refine Wc.skip ?_
      refine Wx.blk_n ?_
      refine Wx.then_n ?_
      refine Wc.region ?_
      refine Wl.val rfl (V.addk rfl rfl (wr64 (by omega) (by omega))) ?_
      refine Wl.val rfl (V.move rfl) ?_
      refine Wl.nil ?_
      refine Wx.again (x + 1) (by exact (by show n - (x + 1) < n - x; omega)) (by exact Ent.pure (hf hc2)) (by repeat (first | exact trivial | refine ⟨rfl, ?_⟩))
  · skip
    try replace hc1 := of_decide_eq_false hc1
    refine Wc.exit ?_
    refine Wx.then_x ?_
    refine Wx.then_x ?_
    refine Wx.blk_x ?_
    refine Wx.then_n ?_
    refine Wc.seq ?_
    refine Wc.region ?_
    refine Wl.val rfl (V.assign rfl) ?_
    refine Wl.nil ?_
    refine Wx.then_n ?_
    refine Wc.ret ?_
    repeat (first | refine Wx.then_r ?_ | refine Wx.blk_r ?_ | refine Wx.ng_r ?_)
    refine Wx.ret1 rfl rfl rfl ?_
    rw [idxGo_done hl hc1 hx]; exact Ent.resF rfl
theorem s_slices_ContainsFunc_string {S : HP} {v : Value} {n : Nat} {xs : List Value} (hw : Vw S v 1 n xs) {fid : FuncId} {p : Value → Bool} (hp : ∀ x ∈ xs, Ctr P fid [x] emp (fun r => pu (r = .bool (p x)) * emp)) :
  Ctr P f_slices_ContainsFunc_string [v, .func (.func fid) #[] #[]] S (fun r => pu (r = .bool (xs.any p)) * S) := by
  refine Ctr.of_body (m := 9) fn_slices_ContainsFunc_string rfl rfl rfl rfl rfl (fun F g => ?_)
  refine Wc.seq ?_
  refine Wc.region ?_
  refine Wl.val rfl (V.assign rfl) ?_
  refine Wl.nil ?_
  refine Wx.then_n ?_
  refine Wc.seq ?_
  refine Wc.region ?_
  refine Wl.val rfl (V.move rfl) ?_
  refine Wl.val rfl (V.move rfl) ?_
  first | refine Wl.callE rfl rfl (s_slices_IndexFunc_string hw hp) ?_ | refine Wl.callD rfl rfl (s_slices_IndexFunc_string hw hp) (by first | exact Take.here | exact Take.there Take.here | exact Take.there (Take.there Take.here) | exact Take.there (Take.there (Take.there Take.here)) | exact Take.none _ | exact TakeC.t | exact Take.there (Take.there (Take.there (Take.there Take.here))) | exact Take.there (Take.there (Take.there (Take.there (Take.there Take.here)))) | exact Take.there (Take.there (Take.there (Take.there (Take.there (Take.there Take.here)))))) ?_
  refine Wl.val rfl (V.geq rfl rfl) ?_
  refine Wl.val rfl (V.assign rfl) ?_
  refine Wl.nil ?_
  refine Wx.then_n ?_
  refine Wc.ret ?_
  repeat (first | refine Wx.then_r ?_ | refine Wx.blk_r ?_ | refine Wx.ng_r ?_)
  refine Wx.ret1 rfl rfl rfl ?_
  rw [idxGo_any _ _ (Int.le_refl 0)]; exact Ent.resF rfl
theorem s_slices_IndexFunc_int64 {S : HP} {v : Value} {n : Nat} {xs : List Value} (hw : Vw S v 1 n xs) {fid : FuncId} {p : Value → Bool} (hp : ∀ x ∈ xs, Ctr P fid [x] emp (fun r => pu (r = .bool (p x)) * emp)) :
  Ctr P f_slices_IndexFunc_int64 [v, .func (.func fid) #[] #[]] S (fun r => pu (r = i64 (idxGo p xs 0)) * S) := by
  have hl : xs.length = n := by simpa using hw.length
  have hm := hw.le
  refine Ctr.of_body (m := 19) fn_slices_IndexFunc_int64 rfl rfl rfl rfl rfl (fun F g => ?_)
  refine Wc.seq ?_
  refine Wc.region ?_
  refine Wl.val rfl (V.assign rfl) ?_
  refine Wl.nil ?_
  refine Wx.then_n ?_
  refine Wc.seq ?_
  refine Wc.seq ?_
  refine Wc.region ?_
  refine Wl.val rfl (V.move rfl) ?_
  refine Wl.val rfl (V.lenW rfl U_Sint64 hw) ?_
  refine Wl.val rfl (V.move rfl) ?_
  refine Wl.nil ?_
  refine Wx.then_n ?_
  refine Wc.block ?_
  refine Wc.loop (α := Nat) (fun x => n - x) (fun x => pu (x ≤ n ∧ idxGo p (xs.drop x) x = idxGo p xs 0) * (S * F)) (fun x => [(8, i64 (x : Nat)), (7, i64 (n : Nat)), (6, v), (0, v), (1, .func (.func fid) #[] #[])]) 0 (by exact Ent.pure (by exact ⟨Nat.zero_le _, rfl⟩)) (by repeat (first | exact trivial | refine ⟨rfl, ?_⟩)) (fun x => ?_)
  refine Wc.pu (fun hx => ?_)
  refine Wc.seq ?_
  refine Wc.region ?_
  refine Wl.val rfl (V.lss rfl rfl) ?_
  refine Wl.nil ?_
  refine Wx.then_n ?_
  refine Wc.seq ?_
  refine Wc.cond rfl (fun hc1 => ?_) (fun hc1 => ?_)
  · skip
    try replace hc1 := of_decide_eq_true hc1
    obtain ⟨y, hy, hyx, ht, hf⟩ := idxGo_step hl hc1 hx
    refine Wc.skip ?_
    refine Wx.then_n ?_
    refine Wc.seq ?_
    refine Wc.block ?_
    refine Wc.seq ?_
    refine Wc.region ?_
    refine Wl.val rfl (V.move rfl) ?_
    refine Wl.val rfl (V.assign rfl) ?_
    refine Wl.nil ?_
    refine Wx.then_n ?_
    refine Wc.seq ?_
    refine Wc.region ?_
    refine Wl.val rfl (V.move rfl) ?_
    refine Wl.val rfl (V.move rfl) ?_
    refine Wl.val rfl (V.move rfl) ?_
    refine Wl.val rfl (V.idxW rfl rfl U_Sint64 Z_int64 hw (by omega) (by omega)) ?_
    refine Wl.val rfl (V.ldW rfl C_int64 hw (by rw [show (x : Int).toNat * 1 = x by omega, hy])) ?_
    first | refine Wl.callvE rfl rfl rfl (hp _ hyx) ?_ | refine Wl.callvD rfl rfl rfl (hp _ hyx) (by first | exact Take.here | exact Take.there Take.here | exact Take.there (Take.there Take.here) | exact Take.there (Take.there (Take.there Take.here)) | exact Take.none _ | exact TakeC.t | exact Take.there (Take.there (Take.there (Take.there Take.here))) | exact Take.there (Take.there (Take.there (Take.there (Take.there Take.here)))) | exact Take.there (Take.there (Take.there (Take.there (Take.there (Take.there Take.here)))))) ?_
    refine Wl.nil ?_
    refine Wx.then_n ?_
    refine Wc.cond rfl (fun hc2 => ?_) (fun hc2 => ?_)
    · skip
      try replace hc2 := of_decide_eq_true hc2
      refine Wc.seq ?_
      refine Wc.region ?_
      refine Wl.val rfl (V.move rfl) ?_
      refine Wl.val rfl (V.assign rfl) ?_
      refine Wl.nil ?_
      refine Wx.then_n ?_
      refine Wc.ret ?_
      repeat (first | refine Wx.then_r ?_ | refine Wx.blk_r ?_ | refine Wx.ng_r ?_)
      refine Wx.ret1 rfl rfl rfl ?_
      rw [ht hc2]; exact Ent.resF rfl
    · skip
      try replace hc2 := of_decide_eq_false hc2
      refine Wc.skip ?_
      refine Wx.blk_n ?_
      refine Wx.then_n ?_
      refine Wc.region ?_
      refine Wl.val rfl (V.addk rfl rfl (wr64 (by omega) (by omega))) ?_
      refine Wl.val rfl (V.move rfl) ?_
      refine Wl.nil ?_
      refine Wx.again (x + 1) (by exact (by show n - (x + 1) < n - x; omega)) (by exact Ent.pure (hf hc2)) (by repeat (first | exact trivial | refine ⟨rfl, ?_⟩))
  · skip
    try replace hc1 := of_decide_eq_false hc1
    refine Wc.exit ?_
    refine Wx.then_x ?_
    refine Wx.then_x ?_
    refine Wx.blk_x ?_
    refine Wx.then_n ?_
    refine Wc.seq ?_
    refine Wc.region ?_
    refine Wl.val rfl (V.assign rfl) ?_
    refine Wl.nil ?_
    refine Wx.then_n ?_
    refine Wc.ret ?_
    repeat (first | refine Wx.then_r ?_ | refine Wx.blk_r ?_ | refine Wx.ng_r ?_)
    refine Wx.ret1 rfl rfl rfl ?_
    rw [idxGo_done hl hc1 hx]; exact Ent.resF rfl
theorem s_slices_ContainsFunc_int64 {S : HP} {v : Value} {n : Nat} {xs : List Value} (hw : Vw S v 1 n xs) {fid : FuncId} {p : Value → Bool} (hp : ∀ x ∈ xs, Ctr P fid [x] emp (fun r => pu (r = .bool (p x)) * emp)) :
  Ctr P f_slices_ContainsFunc_int64 [v, .func (.func fid) #[] #[]] S (fun r => pu (r = .bool (xs.any p)) * S) := by
  refine Ctr.of_body (m := 9) fn_slices_ContainsFunc_int64 rfl rfl rfl rfl rfl (fun F g => ?_)
  refine Wc.seq ?_
  refine Wc.region ?_
  refine Wl.val rfl (V.assign rfl) ?_
  refine Wl.nil ?_
  refine Wx.then_n ?_
  refine Wc.seq ?_
  refine Wc.region ?_
  refine Wl.val rfl (V.move rfl) ?_
  refine Wl.val rfl (V.move rfl) ?_
  first | refine Wl.callE rfl rfl (s_slices_IndexFunc_int64 hw hp) ?_ | refine Wl.callD rfl rfl (s_slices_IndexFunc_int64 hw hp) (by first | exact Take.here | exact Take.there Take.here | exact Take.there (Take.there Take.here) | exact Take.there (Take.there (Take.there Take.here)) | exact Take.none _ | exact TakeC.t | exact Take.there (Take.there (Take.there (Take.there Take.here))) | exact Take.there (Take.there (Take.there (Take.there (Take.there Take.here)))) | exact Take.there (Take.there (Take.there (Take.there (Take.there (Take.there Take.here)))))) ?_
  refine Wl.val rfl (V.geq rfl rfl) ?_
  refine Wl.val rfl (V.assign rfl) ?_
  refine Wl.nil ?_
  refine Wx.then_n ?_
  refine Wc.ret ?_
  repeat (first | refine Wx.then_r ?_ | refine Wx.blk_r ?_ | refine Wx.ng_r ?_)
  refine Wx.ret1 rfl rfl rfl ?_
  rw [idxGo_any _ _ (Int.le_refl 0)]; exact Ent.resF rfl
theorem s_slices_Clone_byte {S : HP} {v : Value} {n : Nat} {bs : List UInt8} (hw : Vw S v 1 n (bytesV bs)) (hn : n ≤ 140737488355328) : Ctr P f_slices_Clone_byte [v] S (fun r => own T_uint8 1 r n (bytesV bs) * S) := by
  obtain ⟨a, k, cap, rfl⟩ := hw.shape
  refine Ctr.of_body (m := 8) fn_slices_Clone_byte rfl rfl rfl rfl rfl (fun F g => ?_)
  refine Wc.seq ?_
  refine Wc.region ?_
  refine Wl.val rfl (V.assign rfl) ?_
  refine Wl.nil ?_
  refine Wx.then_n ?_
  refine Wc.seq ?_
  refine Wc.seq ?_
  refine Wc.region ?_
  refine Wl.val rfl (V.move rfl) ?_
  refine Wl.val rfl (V.eqSliceNil rfl U_Suint8) ?_
  refine Wl.nil ?_
  refine Wx.then_n ?_
  refine Wc.cond rfl (fun hc1 => ?_) (fun hc1 => ?_)
  · skip
    try replace hc1 := of_decide_eq_true hc1
    refine Wc.seq ?_
    refine Wc.region ?_
    refine Wl.val rfl (V.assign rfl) ?_
    refine Wl.nil ?_
    refine Wx.then_n ?_
    refine Wc.ret ?_
    repeat (first | refine Wx.then_r ?_ | refine Wx.blk_r ?_ | refine Wx.ng_r ?_)
    refine Wx.ret1 rfl rfl rfl ?_
    rcases hw with ⟨h1, rfl, h3⟩ | ⟨r, o, cap', h1, _⟩ | ⟨⟨a', h1⟩, _⟩
    · rw [h3, sep_assoc]; exact Ent.own_nil T_uint8 1 (S * F)
    · injection h1 with h1; subst h1; cases hc1
    · injection h1 with h1; subst h1; cases hc1
  · skip
    try replace hc1 := of_decide_eq_false hc1
    refine Wc.skip ?_
    refine Wx.then_n ?_
    refine Wc.seq ?_
    refine Wc.region ?_
    refine Wl.al rfl (M.slice (l := []) U_Suint8 L_Suint8.size N_uint8 rfl (by decide) rfl rfl) (fun r5 => ?_)
    refine Wl.ent (Ent.own_row (n := 0) (cap := 0) (m := 1) (xs := []) _ (Nat.zero_le _) (Nat.zero_le _) rfl rfl) ?_
    refine Wl.val rfl (V.move rfl) ?_
    refine Wl.exo rfl (X.append L_Suint8 rfl rfl Take.here (Src.vw U_Suint8 hw (bytesV_one _)) (by unfold maxLen; omega) (by omega)) (fun v7 => ?_)
    refine Wl.val rfl (V.assign rfl) ?_
    refine Wl.nil ?_
    refine Wx.then_n ?_
    refine Wc.ret ?_
    repeat (first | refine Wx.then_r ?_ | refine Wx.blk_r ?_ | refine Wx.ng_r ?_)
    refine Wx.ret1 rfl rfl rfl ?_
    refine (Ent.trans ?_ (Ent.of_eq (sep_assoc _ _ _).symm))
    exact (own_to (by omega) (by simp)).frame _
end Go.Proofs.YtjfacgmobpbhcaaGreat
/- The walks: code. -/
namespace Go.Proofs.YtjfacgmobpbhcaaGreat
open Go.Sl Sei
theorem s_code_May_1 (t : List UInt8) : Ctr P f_code_May_1 [str t] emp (fun v => pu (v = .bool (longT (str t))) * emp) := by
  refine Ctr.of_body (m := 6) fn_code_May_1 rfl rfl rfl rfl rfl (fun F g => ?_)
  refine Wc.seq ?_
  refine Wc.region ?_
  refine Wl.val rfl (V.assign rfl) ?_
  refine Wl.nil ?_
  refine Wx.then_n ?_
  refine Wc.seq ?_
  refine Wc.region ?_
  refine Wl.val rfl (V.move rfl) ?_
  refine Wl.val rfl (V.lenT rfl U_string) ?_
  refine Wl.val rfl (V.gtr rfl rfl) ?_
  refine Wl.val rfl (V.assign rfl) ?_
  refine Wl.nil ?_
  refine Wx.then_n ?_
  refine Wc.ret ?_
  repeat (first | refine Wx.then_r ?_ | refine Wx.blk_r ?_ | refine Wx.ng_r ?_)
  refine Wx.ret1 rfl rfl rfl ?_
  first | exact Ent.resF rfl | exact Ent.resC rfl | exact Ent.refl _ | exact Ent.auto
theorem s_code_May {S : HP} {nv tv : Value} (r : Rec) (hn : Vw S nv 1 r.nums.length (numsV r.nums)) (ht : Vw S tv 1 r.texts.length (textsV r.texts)) : Ctr P f_code_May [recV r.kind nv tv] S (fun v => pu (v = .bool (mayRec r)) * S) := by
  have e1 : mayRec r = (decide (0 ≤ r.kind) && (decide (r.kind ≤ 255) && (decide ((r.nums.length : Int) ≤ 16) && (decide ((r.texts.length : Int) ≤ 4) && !((textsV r.texts).any longT))))) := by
    rw [longT_any, mayRec, show decide ((r.nums.length : Int) ≤ 16) = decide (r.nums.length ≤ 16) by simp only [decide_eq_decide]; omega, show decide ((r.texts.length : Int) ≤ 4) = decide (r.texts.length ≤ 4) by simp only [decide_eq_decide]; omega]
  refine Ctr.of_body (m := 29) fn_code_May rfl rfl rfl rfl rfl (fun F g => ?_)
  refine Wc.seq ?_
  refine Wc.region ?_
  refine Wl.al rfl (M.box rfl rfl) (fun r1 => ?_)
  refine Wl.val rfl (V.assign rfl) ?_
  refine Wl.nil ?_
  refine Wx.then_n ?_
  refine Wc.seq ?_
  refine Wc.region ?_
  refine Wl.val rfl (V.fld _ rfl O_api_Rec_0 rfl) ?_
  refine Wl.val rfl (V.ld rfl C_int rfl) ?_
  refine Wl.val rfl (V.geq rfl rfl) ?_
  refine Wl.val rfl (V.move rfl) ?_
  refine Wl.bool 6 rfl (fun hb6 => ?_) (fun hb6 => ?_)
  · -- t6 is True
    try replace hb6 := of_decide_eq_true hb6
    refine Wl.gT rfl rfl ?_
    refine Wl.val rfl (V.fld _ rfl O_api_Rec_0 rfl) ?_
    refine Wl.gT rfl rfl ?_
    refine Wl.val rfl (V.ld rfl C_int rfl) ?_
    refine Wl.gT rfl rfl ?_
    refine Wl.val rfl (V.leq rfl rfl) ?_
    refine Wl.val rfl (V.pickT rfl rfl) ?_
    refine Wl.val rfl (V.move rfl) ?_
    refine Wl.bool 11 rfl (fun hb11 => ?_) (fun hb11 => ?_)
    · -- t11 is True
      try replace hb11 := of_decide_eq_true hb11
      refine Wl.gT rfl rfl ?_
      refine Wl.val rfl (V.fld _ rfl O_api_Rec_1 rfl) ?_
      refine Wl.gT rfl rfl ?_
      refine Wl.val rfl (V.ld rfl C_Sint64 rfl) ?_
      refine Wl.gT rfl rfl ?_
      refine Wl.val rfl (V.lenW rfl U_Sint64 hn) ?_
      refine Wl.gT rfl rfl ?_
      refine Wl.val rfl (V.leq rfl rfl) ?_
      refine Wl.val rfl (V.pickT rfl rfl) ?_
      refine Wl.val rfl (V.move rfl) ?_
      refine Wl.bool 17 rfl (fun hb17 => ?_) (fun hb17 => ?_)
      · -- t17 is True
        try replace hb17 := of_decide_eq_true hb17
        refine Wl.gT rfl rfl ?_
        refine Wl.val rfl (V.fld _ rfl O_api_Rec_2 rfl) ?_
        refine Wl.gT rfl rfl ?_
        refine Wl.val rfl (V.ld rfl C_Sstring rfl) ?_
        refine Wl.gT rfl rfl ?_
        refine Wl.val rfl (V.lenW rfl U_Sstring ht) ?_
        refine Wl.gT rfl rfl ?_
        refine Wl.val rfl (V.leq rfl rfl) ?_
        refine Wl.val rfl (V.pickT rfl rfl) ?_
        refine Wl.val rfl (V.move rfl) ?_
        refine Wl.bool 23 rfl (fun hb23 => ?_) (fun hb23 => ?_)
        · -- t23 is True
          try replace hb23 := of_decide_eq_true hb23
          refine Wl.gT rfl rfl ?_
          refine Wl.val rfl (V.fld _ rfl O_api_Rec_2 rfl) ?_
          refine Wl.gT rfl rfl ?_
          refine Wl.val rfl (V.ld rfl C_Sstring rfl) ?_
          refine Wl.gT rfl rfl ?_
          first | refine Wl.callE rfl rfl (s_slices_ContainsFunc_string ht (p := longT) (by intro x hx; obtain ⟨t, _, rfl⟩ := List.mem_map.1 hx; exact s_code_May_1 t)) ?_ | refine Wl.callD rfl rfl (s_slices_ContainsFunc_string ht (p := longT) (by intro x hx; obtain ⟨t, _, rfl⟩ := List.mem_map.1 hx; exact s_code_May_1 t)) (by first | exact Take.here | exact Take.there Take.here | exact Take.there (Take.there Take.here) | exact Take.there (Take.there (Take.there Take.here)) | exact Take.none _ | exact TakeC.t | exact Take.there (Take.there (Take.there (Take.there Take.here))) | exact Take.there (Take.there (Take.there (Take.there (Take.there Take.here)))) | exact Take.there (Take.there (Take.there (Take.there (Take.there (Take.there Take.here)))))) ?_
          refine Wl.gT rfl rfl ?_
          refine Wl.val rfl (V.not rfl) ?_
          refine Wl.val rfl (V.pickT rfl rfl) ?_
          refine Wl.val rfl (V.assign rfl) ?_
          refine Wl.nil ?_
          refine Wx.then_n ?_
          refine Wc.ret ?_
          repeat (first | refine Wx.then_r ?_ | refine Wx.blk_r ?_ | refine Wx.ng_r ?_)
          refine Wx.ret1 rfl rfl rfl ?_
          refine Ent.resC ?_; rw [e1]; simp [*]
        · -- t23 is False
          try replace hb23 := of_decide_eq_false hb23
          refine Wl.gF rfl rfl rfl ?_
          refine Wl.gF rfl rfl rfl ?_
          refine Wl.gF rfl rfl rfl ?_
          refine Wl.gF rfl rfl rfl ?_
          refine Wl.val rfl (V.pickF rfl rfl) ?_
          refine Wl.val rfl (V.assign rfl) ?_
          refine Wl.nil ?_
          refine Wx.then_n ?_
          refine Wc.ret ?_
          repeat (first | refine Wx.then_r ?_ | refine Wx.blk_r ?_ | refine Wx.ng_r ?_)
          refine Wx.ret1 rfl rfl rfl ?_
          refine Ent.resC ?_; rw [e1]; simp [*]
      · -- t17 is False
        try replace hb17 := of_decide_eq_false hb17
        refine Wl.gF rfl rfl rfl ?_
        refine Wl.gF rfl rfl rfl ?_
        refine Wl.gF rfl rfl rfl ?_
        refine Wl.gF rfl rfl rfl ?_
        refine Wl.val rfl (V.pickF rfl rfl) ?_
        refine Wl.val rfl (V.move rfl) ?_
        refine Wl.gF rfl rfl rfl ?_
        refine Wl.gF rfl rfl rfl ?_
        refine Wl.gF rfl rfl rfl ?_
        refine Wl.gF rfl rfl rfl ?_
        refine Wl.val rfl (V.pickF rfl rfl) ?_
        refine Wl.val rfl (V.assign rfl) ?_
        refine Wl.nil ?_
        refine Wx.then_n ?_
        refine Wc.ret ?_
        repeat (first | refine Wx.then_r ?_ | refine Wx.blk_r ?_ | refine Wx.ng_r ?_)
        refine Wx.ret1 rfl rfl rfl ?_
        refine Ent.resC ?_; rw [e1]; simp [*]
    · -- t11 is False
      try replace hb11 := of_decide_eq_false hb11
      refine Wl.gF rfl rfl rfl ?_
      refine Wl.gF rfl rfl rfl ?_
      refine Wl.gF rfl rfl rfl ?_
      refine Wl.gF rfl rfl rfl ?_
      refine Wl.val rfl (V.pickF rfl rfl) ?_
      refine Wl.val rfl (V.move rfl) ?_
      refine Wl.gF rfl rfl rfl ?_
      refine Wl.gF rfl rfl rfl ?_
      refine Wl.gF rfl rfl rfl ?_
      refine Wl.gF rfl rfl rfl ?_
      refine Wl.val rfl (V.pickF rfl rfl) ?_
      refine Wl.val rfl (V.move rfl) ?_
      refine Wl.gF rfl rfl rfl ?_
      refine Wl.gF rfl rfl rfl ?_
      refine Wl.gF rfl rfl rfl ?_
      refine Wl.gF rfl rfl rfl ?_
      refine Wl.val rfl (V.pickF rfl rfl) ?_
      refine Wl.val rfl (V.assign rfl) ?_
      refine Wl.nil ?_
      refine Wx.then_n ?_
      refine Wc.ret ?_
      repeat (first | refine Wx.then_r ?_ | refine Wx.blk_r ?_ | refine Wx.ng_r ?_)
      refine Wx.ret1 rfl rfl rfl ?_
      refine Ent.resC ?_; rw [e1]; simp [*]
  · -- t6 is False
    try replace hb6 := of_decide_eq_false hb6
    refine Wl.gF rfl rfl rfl ?_
    refine Wl.gF rfl rfl rfl ?_
    refine Wl.gF rfl rfl rfl ?_
    refine Wl.val rfl (V.pickF rfl rfl) ?_
    refine Wl.val rfl (V.move rfl) ?_
    refine Wl.gF rfl rfl rfl ?_
    refine Wl.gF rfl rfl rfl ?_
    refine Wl.gF rfl rfl rfl ?_
    refine Wl.gF rfl rfl rfl ?_
    refine Wl.val rfl (V.pickF rfl rfl) ?_
    refine Wl.val rfl (V.move rfl) ?_
    refine Wl.gF rfl rfl rfl ?_
    refine Wl.gF rfl rfl rfl ?_
    refine Wl.gF rfl rfl rfl ?_
    refine Wl.gF rfl rfl rfl ?_
    refine Wl.val rfl (V.pickF rfl rfl) ?_
    refine Wl.val rfl (V.move rfl) ?_
    refine Wl.gF rfl rfl rfl ?_
    refine Wl.gF rfl rfl rfl ?_
    refine Wl.gF rfl rfl rfl ?_
    refine Wl.gF rfl rfl rfl ?_
    refine Wl.val rfl (V.pickF rfl rfl) ?_
    refine Wl.val rfl (V.assign rfl) ?_
    refine Wl.nil ?_
    refine Wx.then_n ?_
    refine Wc.ret ?_
    repeat (first | refine Wx.then_r ?_ | refine Wx.blk_r ?_ | refine Wx.ng_r ?_)
    refine Wx.ret1 rfl rfl rfl ?_
    refine Ent.resC ?_; rw [e1]; simp [*]
theorem s_code_head (n k : Nat) (hn : n ≤ 16) (hk : k ≤ 4) : Ctr P f_code_head [i64 (n : Int), i64 (k : Int)] emp (fun v => pu (v = u8 (UInt8.ofNat (headB n k))) * emp) := by
  refine Ctr.of_body (m := 15) fn_code_head rfl rfl rfl rfl rfl (fun F g => ?_)
  refine Wc.seq ?_
  refine Wc.region ?_
  refine Wl.val rfl (V.assign rfl) ?_
  refine Wl.nil ?_
  refine Wx.then_n ?_
  refine Wc.seq ?_
  refine Wc.seq ?_
  refine Wc.region ?_
  refine Wl.val rfl (V.move rfl) ?_
  refine Wl.val rfl (V.eql rfl rfl) ?_
  refine Wl.nil ?_
  refine Wx.then_n ?_
  refine Wc.cond rfl (fun hc1 => ?_) (fun hc1 => ?_)
  · skip
    try replace hc1 := of_decide_eq_true hc1
    refine Wc.seq ?_
    refine Wc.region ?_
    refine Wl.val rfl (V.move rfl) ?_
    refine Wl.val rfl (V.addk rfl rfl (r := ((240 + k : Nat) : Int)) (by rw [wr64 (by omega) (by omega)]; omega)) ?_
    refine Wl.val rfl (V.conv rfl U_int U_uint8 (wrap_u8_nat (240 + k) (by omega))) ?_
    refine Wl.val rfl (V.assign rfl) ?_
    refine Wl.nil ?_
    refine Wx.then_n ?_
    refine Wc.ret ?_
    repeat (first | refine Wx.then_r ?_ | refine Wx.blk_r ?_ | refine Wx.ng_r ?_)
    refine Wx.ret1 rfl rfl rfl ?_
    exact Ent.resF (by unfold headB; rw [if_pos (by omega)]; exact u8_ofNat _ (by omega))
  · skip
    try replace hc1 := of_decide_eq_false hc1
    refine Wc.skip ?_
    refine Wx.then_n ?_
    refine Wc.seq ?_
    refine Wc.region ?_
    refine Wl.val rfl (V.move rfl) ?_
    refine Wl.val rfl (V.move rfl) ?_
    refine Wl.val rfl (V.mulk rfl rfl (wr64 (by omega) (by omega))) ?_
    refine Wl.val rfl (V.addk rfl rfl (r := ((n + 16 * k : Nat) : Int)) (by rw [wr64 (by omega) (by omega)]; omega)) ?_
    refine Wl.val rfl (V.conv rfl U_int U_uint8 (wrap_u8_nat (n + 16 * k) (by omega))) ?_
    refine Wl.val rfl (V.assign rfl) ?_
    refine Wl.nil ?_
    refine Wx.then_n ?_
    refine Wc.ret ?_
    repeat (first | refine Wx.then_r ?_ | refine Wx.blk_r ?_ | refine Wx.ng_r ?_)
    refine Wx.ret1 rfl rfl rfl ?_
    exact Ent.resF (by unfold headB; rw [if_neg (by omega)]; exact u8_ofNat _ (by omega))
theorem s_code_Number {n : Int} (h : I64 n) : Ctr P f_code_Number [i64 n] emp (fun v => own T_uint8 1 v (numB n).length (bytesV (numB n))) := by
  refine Ctr.of_body (m := 27) fn_code_Number rfl rfl rfl rfl rfl (fun F g => ?_)
  refine Wc.seq ?_
  refine Wc.region ?_
  refine Wl.val rfl (V.assign rfl) ?_
  refine Wl.nil ?_
  refine Wx.then_n ?_
  refine Wc.seq ?_
  refine Wc.region ?_
  refine Wl.val rfl (V.move rfl) ?_
  refine Wl.val rfl (V.conv rfl U_int64 U_uint64 rfl) ?_
  refine Wl.val rfl (V.shl rfl rfl (by omega) rfl) ?_
  refine Wl.val rfl (V.move rfl) ?_
  refine Wl.val rfl (V.shr rfl rfl (by omega) rfl) ?_
  refine Wl.val rfl (V.conv rfl U_int64 U_uint64 rfl) ?_
  refine Wl.val rfl (V.xor rfl rfl (by exact zig_raw h)) ?_
  refine Wl.val rfl (V.assign rfl) ?_
  refine Wl.nil ?_
  refine Wx.then_n ?_
  refine Wc.seq ?_
  refine Wc.region ?_
  refine Wl.val rfl (V.assign rfl) ?_
  refine Wl.nil ?_
  refine Wx.then_n ?_
  refine Wc.seq ?_
  refine Wc.block ?_
  refine Wc.loop (α := Nat × Nat × List UInt8 × Value) (fun x => x.1) (fun x => pu (NumI n x.1 x.2.1 x.2.2.1) * (own T_uint8 1 x.2.2.2 x.2.2.1.length (bytesV x.2.2.1) * F)) (fun x => [(4, x.2.2.2), (3, .int .u64 (x.2.1 : Nat))]) (9, zig n, [], .slice none 0 0) (by exact (Ent.right _ _).trans ((Ent.own_nil T_uint8 1 F).trans (Ent.pure (NumI.start h)))) (by repeat (first | exact trivial | refine ⟨rfl, ?_⟩)) (fun x => ?_)
  obtain ⟨f, u, acc, v⟩ := x
  refine Wc.pu (fun hx => ?_)
  have hu : u < 2 ^ 64 := hx.lt
  have hl : acc.length + f = 9 := hx.len
  refine Wc.seq ?_
  refine Wc.seq ?_
  refine Wc.region ?_
  refine Wl.val rfl (V.move rfl) ?_
  refine Wl.val rfl (V.gtr rfl rfl) ?_
  refine Wl.nil ?_
  refine Wx.then_n ?_
  refine Wc.cond rfl (fun hc1 => ?_) (fun hc1 => ?_)
  · skip
    try replace hc1 := of_decide_eq_true hc1
    refine Wc.skip ?_
    refine Wx.then_n ?_
    refine Wc.block ?_
    refine Wc.seq ?_
    refine Wc.region ?_
    refine Wl.val rfl (V.move rfl) ?_
    refine Wl.val rfl (V.move rfl) ?_
    refine Wl.val rfl (V.conv rfl U_uint64 U_uint8 rfl) ?_
    refine Wl.val rfl (V.or rfl rfl (by exact byte_or128 u)) ?_
    refine Wl.al rfl (M.slice U_Suint8 L_Suint8.size N_uint8 rfl (by decide) rfl rfl) (fun r18 => ?_)
    refine Wl.exo rfl (X.append L_Suint8 rfl rfl (Take.there Take.here) (Src.row U_Suint8 rfl rfl) (by unfold maxLen; (try dsimp only); omega) (by (try dsimp only); omega)) (fun v19 => ?_)
    refine Wl.val rfl (V.assign rfl) ?_
    refine Wl.nil ?_
    refine Wx.then_n ?_
    refine Wc.region ?_
    refine Wl.val rfl (V.move rfl) ?_
    refine Wl.val rfl (V.shr rfl rfl (by omega) (by exact shr_nat (k := .u64) _ 7 (by decide))) ?_
    refine Wl.val rfl (V.assign rfl) ?_
    refine Wl.nil ?_
    refine Wx.blk_n ?_
    refine Wx.again (f - 1, u / 128, acc ++ [UInt8.ofNat (u % 128 + 128)], v19) (by exact (by show f - 1 < f; have := hx.pos (by omega); omega)) (by exact Ent.puOwn (hx.step (by omega)) (by simp) (by rw [bytesV_append, u8_ofNat _ (by omega)]; rfl)) (by repeat (first | exact trivial | refine ⟨rfl, ?_⟩))
  · skip
    try replace hc1 := of_decide_eq_false hc1
    refine Wc.exit ?_
    refine Wx.then_x ?_
    refine Wx.then_x ?_
    refine Wx.blk_x ?_
    refine Wx.then_n ?_
    refine Wc.seq ?_
    refine Wc.region ?_
    refine Wl.val rfl (V.move rfl) ?_
    refine Wl.val rfl (V.move rfl) ?_
    refine Wl.val rfl (V.conv rfl U_uint64 U_uint8 rfl) ?_
    refine Wl.al rfl (M.slice U_Suint8 L_Suint8.size N_uint8 rfl (by decide) rfl rfl) (fun r25 => ?_)
    refine Wl.exo rfl (X.append L_Suint8 rfl rfl (Take.there Take.here) (Src.row U_Suint8 rfl rfl) (by unfold maxLen; (try dsimp only); omega) (by (try dsimp only); omega)) (fun v26 => ?_)
    refine Wl.val rfl (V.assign rfl) ?_
    refine Wl.nil ?_
    refine Wx.then_n ?_
    refine Wc.ret ?_
    repeat (first | refine Wx.then_r ?_ | refine Wx.blk_r ?_ | refine Wx.ng_r ?_)
    refine Wx.ret1 rfl rfl rfl ?_
    refine (own_to ?_ ?_).mul Ent.auto
    · rw [← hx.done (by omega)]; simp
    · rw [← hx.done (by omega), bytesV_append, wrap_u8_nat _ (by omega), u8_ofNat _ (by omega)]; rfl
theorem s_code_Encode {S : HP} {nv tv : Value} (r : Rec) (ho : ∀ n ∈ r.nums, I64 n) (hn : Vw S nv 1 r.nums.length (numsV r.nums)) (ht : Vw S tv 1 r.texts.length (textsV r.texts)) :
  Ctr P f_code_Encode [recV r.kind nv tv] S (fun v => ex fun b => pu (v = .tuple #[b, i64 (enc r).2]) * (own T_uint8 1 b (enc r).1.length (bytesV (enc r).1) * S)) := by
  refine Ctr.of_body (m := 52) fn_code_Encode rfl rfl rfl rfl rfl (fun F g => ?_)
  refine Wc.seq ?_
  refine Wc.region ?_
  refine Wl.al rfl (M.box rfl rfl) (fun r1 => ?_)
  refine Wl.val rfl (V.assign rfl) ?_
  refine Wl.val rfl (V.assign rfl) ?_
  refine Wl.nil ?_
  refine Wx.then_n ?_
  refine Wc.seq ?_
  refine Wc.seq ?_
  refine Wc.region ?_
  refine Wl.val rfl (V.ldA rfl C_api_Rec rfl) ?_
  first | refine Wl.callE rfl rfl (s_code_May r hn ht) ?_ | refine Wl.callD rfl rfl (s_code_May r hn ht) (by first | exact Take.here | exact Take.there Take.here | exact Take.there (Take.there Take.here) | exact Take.there (Take.there (Take.there Take.here)) | exact Take.none _ | exact TakeC.t | exact Take.there (Take.there (Take.there (Take.there Take.here))) | exact Take.there (Take.there (Take.there (Take.there (Take.there Take.here)))) | exact Take.there (Take.there (Take.there (Take.there (Take.there (Take.there Take.here)))))) ?_
  refine Wl.val rfl (V.not rfl) ?_
  refine Wl.nil ?_
  refine Wx.then_n ?_
  refine Wc.cond rfl (fun hc1 => ?_) (fun hc1 => ?_)
  · skip
    try replace hc1 := of_decide_eq_true hc1
    refine Wc.seq ?_
    refine Wc.region ?_
    refine Wl.val rfl (V.assign rfl) ?_
    refine Wl.val rfl (V.assign rfl) ?_
    refine Wl.nil ?_
    refine Wx.then_n ?_
    refine Wc.ret ?_
    repeat (first | refine Wx.then_r ?_ | refine Wx.blk_r ?_ | refine Wx.ng_r ?_)
    refine Wx.ret2 rfl rfl rfl rfl ?_
    rw [ex_mul]; refine Ent.ex (.slice none 0 0) ?_
    have h0 : mayRec r = false := by simpa using hc1
    rw [enc_no h0, sep_assoc, sep_assoc]
    exact Ent.trans Ent.auto ((Ent.own_nil T_uint8 1 (S * F)).trans (Ent.pure rfl))
  · skip
    try replace hc1 := of_decide_eq_false hc1
    have h0 : mayRec r = true := by simpa using hc1
    have k1 := mayRec_nums h0
    have k2 := mayRec_texts h0
    refine Wc.skip ?_
    refine Wx.then_n ?_
    refine Wc.seq ?_
    refine Wc.draws 10 mixed (by kernel_rfl) (S := _) (M := emp) (Ent.empR _) ?_
    refine Wr.take [0, 1, 2, 3, 4, 5, 6, 7, 8, 9] 0 (by kernel_rfl) (by kernel_rfl) rfl rfl ?_
    refine Wt.val rfl (V.fld _ rfl O_api_Rec_0 rfl) ?_
    refine Wt.val rfl (V.ld rfl C_int rfl) ?_
    refine Wt.val rfl (V.conv rfl U_int U_uint8 rfl) ?_
    refine Wt.val rfl (V.fld _ rfl O_api_Rec_1 rfl) ?_
    refine Wt.val rfl (V.ld rfl C_Sint64 rfl) ?_
    refine Wt.val rfl (V.lenW rfl U_Sint64 hn) ?_
    refine Wt.val rfl (V.fld _ rfl O_api_Rec_2 rfl) ?_
    refine Wt.val rfl (V.ld rfl C_Sstring rfl) ?_
    refine Wt.val rfl (V.lenW rfl U_Sstring ht) ?_
    refine Wt.call rfl rfl (s_code_head r.nums.length r.texts.length k1 k2) (by first | exact Take.here | exact Take.there Take.here | exact Take.there (Take.there Take.here) | exact Take.there (Take.there (Take.there Take.here)) | exact Take.none _ | exact TakeC.t | exact Take.there (Take.there (Take.there (Take.there Take.here))) | exact Take.there (Take.there (Take.there (Take.there (Take.there Take.here)))) | exact Take.there (Take.there (Take.there (Take.there (Take.there (Take.there Take.here)))))) ?_
    refine Wt.nil ?_
    refine Wr.tail (by kernel_rfl) rfl ?_
    try refine Wl.ent (Ent.unemp _) ?_
    refine Wl.al rfl (M.slice U_Suint8 L_Suint8.size N_uint8 rfl (by decide) rfl rfl) (fun r22 => ?_)
    refine Wl.val rfl (V.assign rfl) ?_
    refine Wl.nil ?_
    refine Wx.then_n ?_
    refine Wc.seq ?_
    refine Wc.seq ?_
    refine Wc.region ?_
    refine Wl.val rfl (V.fld _ rfl O_api_Rec_1 rfl) ?_
    refine Wl.val rfl (V.ld rfl C_Sint64 rfl) ?_
    refine Wl.val rfl (V.lenW rfl U_Sint64 hn) ?_
    refine Wl.val rfl (V.move rfl) ?_
    refine Wl.nil ?_
    refine Wx.then_n ?_
    refine Wc.block ?_
    refine Wc.loop (α := Nat × Value) (fun x => r.nums.length - x.1) (fun x => pu (x.1 ≤ r.nums.length) * (own T_uint8 1 x.2 (encN r x.1).length (bytesV (encN r x.1)) * (S * (row r1 120 (cellsL (recV r.kind nv tv)) * F)))) (fun x => [(26, i64 (x.1 : Nat)), (25, i64 (r.nums.length : Nat)), (24, nv), (4, x.2), (1, ptr r1), (3, i64 0)]) (0, .slice (some ⟨r22, 0, none⟩) 2 2) (by exact (Ent.own_row (n := 2) (xs := bytesV (headBs r)) _ (by decide) (by decide) rfl (headBs_cells h0)).trans (Ent.puOwn (Nat.zero_le _) (by simp [encN, headBs]) (by simp [encN]))) (by repeat (first | exact trivial | refine ⟨rfl, ?_⟩)) (fun x => ?_)
    obtain ⟨k, b⟩ := x
    refine Wc.pu (fun hk => ?_)
    have hk : k ≤ r.nums.length := hk
    have hl := encN_len h0 k
    refine Wc.seq ?_
    refine Wc.region ?_
    refine Wl.val rfl (V.lss rfl rfl) ?_
    refine Wl.nil ?_
    refine Wx.then_n ?_
    refine Wc.seq ?_
    refine Wc.cond rfl (fun hc2 => ?_) (fun hc2 => ?_)
    · skip
      try replace hc2 := of_decide_eq_true hc2
      obtain ⟨n, hnk⟩ : ∃ n, r.nums[k]? = some n := ⟨r.nums[k]'(by simp at hc2; omega), by simp at hc2; simp [hc2]⟩
      refine Wc.skip ?_
      refine Wx.then_n ?_
      refine Wc.seq ?_
      refine Wc.block ?_
      refine Wc.seq ?_
      refine Wc.region ?_
      refine Wl.val rfl (V.idxW rfl rfl U_Sint64 Z_int64 hn (by omega) (by omega)) ?_
      refine Wl.val rfl (V.ldW rfl C_int64 hn (by show _ = some (i64 n); rw [show (k : Int).toNat * 1 = k by omega, numsV, List.getElem?_map, hnk]; rfl)) ?_
      refine Wl.val rfl (V.assign rfl) ?_
      refine Wl.nil ?_
      refine Wx.then_n ?_
      refine Wc.region ?_
      refine Wl.val rfl (V.move rfl) ?_
      refine Wl.val rfl (V.move rfl) ?_
      refine Wl.call rfl rfl (s_code_Number (ho n (List.mem_of_getElem? hnk))) (by first | exact Take.here | exact Take.there Take.here | exact Take.there (Take.there Take.here) | exact Take.there (Take.there (Take.there Take.here)) | exact Take.none _ | exact TakeC.t | exact Take.there (Take.there (Take.there (Take.there Take.here))) | exact Take.there (Take.there (Take.there (Take.there (Take.there Take.here)))) | exact Take.there (Take.there (Take.there (Take.there (Take.there (Take.there Take.here)))))) (fun v32 => ?_)
      have hl2 := numB_len n
      refine Wl.know (fun g w s => Vw.of_own T_uint8 1 _ _ _ g w (s.ent (Ent.left _ _))) (fun hv => ?_)
      refine Wl.exo rfl (X.append L_Suint8 rfl rfl (Take.there Take.here) (Src.vw U_Suint8 hv (bytesV_one _)) (by unfold maxLen; (try dsimp only); omega) (by (try dsimp only); omega)) (fun v33 => ?_)
      refine Wl.val rfl (V.assign rfl) ?_
      refine Wl.nil ?_
      refine Wx.blk_n ?_
      refine Wx.then_n ?_
      refine Wc.region ?_
      refine Wl.val rfl (V.addk rfl rfl (wr64 (by omega) (by omega))) ?_
      refine Wl.val rfl (V.move rfl) ?_
      refine Wl.nil ?_
      refine Wx.again (k + 1, v33) (by exact (by show r.nums.length - (k + 1) < r.nums.length - k; simp at hc2; omega)) (by exact Ent.puOwn (by show k + 1 ≤ r.nums.length; simp at hc2; omega) (by show _ = (encN r (k + 1)).length; rw [encN_step hnk]; simp) (by show _ = bytesV (encN r (k + 1)); rw [encN_step hnk]; simp)) (by repeat (first | exact trivial | refine ⟨rfl, ?_⟩))
    · skip
      try replace hc2 := of_decide_eq_false hc2
      have hk2 : k = r.nums.length := by simp at hc2; omega
      subst hk2
      refine Wc.exit ?_
      refine Wx.then_x ?_
      refine Wx.then_x ?_
      refine Wx.blk_x ?_
      refine Wx.then_n ?_
      refine Wc.seq ?_
      refine Wc.seq ?_
      refine Wc.region ?_
      refine Wl.val rfl (V.fld _ rfl O_api_Rec_2 rfl) ?_
      refine Wl.val rfl (V.ld rfl C_Sstring rfl) ?_
      refine Wl.val rfl (V.lenW rfl U_Sstring ht) ?_
      refine Wl.val rfl (V.move rfl) ?_
      refine Wl.nil ?_
      refine Wx.then_n ?_
      refine Wc.block ?_
      refine Wc.loop (α := Nat × Value) (fun x => r.texts.length - x.1) (fun x => pu (x.1 ≤ r.texts.length) * (own T_uint8 1 x.2 (encT r x.1).length (bytesV (encT r x.1)) * (S * (row r1 120 (cellsL (recV r.kind nv tv)) * F)))) (fun x => [(38, i64 (x.1 : Nat)), (37, i64 (r.texts.length : Nat)), (36, tv), (4, x.2), (1, ptr r1), (3, i64 0)]) (0, b) (by exact Ent.puOwn (Nat.zero_le _) (by simp [encT]) (by simp [encT])) (by repeat (first | exact trivial | refine ⟨rfl, ?_⟩)) (fun x => ?_)
      obtain ⟨k, b⟩ := x
      refine Wc.pu (fun hk => ?_)
      have hk : k ≤ r.texts.length := hk
      have hl := encT_len h0 k
      refine Wc.seq ?_
      refine Wc.region ?_
      refine Wl.val rfl (V.lss rfl rfl) ?_
      refine Wl.nil ?_
      refine Wx.then_n ?_
      refine Wc.seq ?_
      refine Wc.cond rfl (fun hc3 => ?_) (fun hc3 => ?_)
      · skip
        try replace hc3 := of_decide_eq_true hc3
        obtain ⟨t, htk⟩ : ∃ t, r.texts[k]? = some t := ⟨r.texts[k]'(by simp at hc3; omega), by simp at hc3; simp [hc3]⟩
        have hl2 := mayRec_text h0 t (List.mem_of_getElem? htk)
        have hc3 : k < r.texts.length := by simp at hc3; exact hc3
        refine Wc.skip ?_
        refine Wx.then_n ?_
        refine Wc.seq ?_
        refine Wc.block ?_
        refine Wc.seq ?_
        refine Wc.region ?_
        refine Wl.val rfl (V.idxW rfl rfl U_Sstring Z_string ht (by omega) (by simp; omega)) ?_
        refine Wl.val rfl (V.ldW rfl C_string ht (by show _ = some (str t); rw [show (k : Int).toNat * 1 = k by omega, textsV, List.getElem?_map, htk]; rfl)) ?_
        refine Wl.val rfl (V.assign rfl) ?_
        refine Wl.nil ?_
        refine Wx.then_n ?_
        refine Wc.region ?_
        refine Wl.val rfl (V.move rfl) ?_
        refine Wl.val rfl (V.move rfl) ?_
        refine Wl.val rfl (V.lenT rfl U_string) ?_
        refine Wl.val rfl (V.conv rfl U_int U_uint8 (by exact wrap_u8_nat t.length (by omega))) ?_
        refine Wl.al rfl (M.slice U_Suint8 L_Suint8.size N_uint8 rfl (by decide) rfl rfl) (fun r46 => ?_)
        refine Wl.exo rfl (X.append L_Suint8 rfl rfl (by first | exact Take.here | exact Take.there Take.here | exact Take.there (Take.there Take.here) | exact Take.there (Take.there (Take.there Take.here)) | exact Take.none _ | exact TakeC.t | exact Take.there (Take.there (Take.there (Take.there Take.here))) | exact Take.there (Take.there (Take.there (Take.there (Take.there Take.here)))) | exact Take.there (Take.there (Take.there (Take.there (Take.there (Take.there Take.here)))))) (Src.row U_Suint8 rfl rfl) (by unfold maxLen; (try dsimp only); omega) (by (try dsimp only); omega)) (fun v47 => ?_)
        refine Wl.val rfl (V.move rfl) ?_
        refine Wl.exo rfl (X.append L_Suint8 rfl rfl Take.here (Src.str U_string) (by unfold maxLen; show _ + 1 + t.length ≤ _; dsimp only; omega) (by show (_ + 1 + t.length) * 1 ≤ _; dsimp only; omega)) (fun v49 => ?_)
        refine Wl.val rfl (V.assign rfl) ?_
        refine Wl.nil ?_
        refine Wx.blk_n ?_
        refine Wx.then_n ?_
        refine Wc.region ?_
        refine Wl.val rfl (V.addk rfl rfl (wr64 (by omega) (by omega))) ?_
        refine Wl.val rfl (V.move rfl) ?_
        refine Wl.nil ?_
        refine Wx.again (k + 1, v49) (by exact (by show r.texts.length - (k + 1) < r.texts.length - k; omega)) (by exact Ent.puOwn (by show k + 1 ≤ r.texts.length; omega) (by show _ + 1 + t.length = (encT r (k + 1)).length; rw [encT_step htk]; simp [textB]; omega) (by show _ = bytesV (encT r (k + 1)); rw [encT_step htk, u8_ofNat _ (by omega)]; simp [textB, bytesV])) (by repeat (first | exact trivial | refine ⟨rfl, ?_⟩))
      · skip
        try replace hc3 := of_decide_eq_false hc3
        refine Wc.exit ?_
        refine Wx.then_x ?_
        refine Wx.then_x ?_
        refine Wx.blk_x ?_
        refine Wx.then_n ?_
        refine Wc.seq ?_
        refine Wc.region ?_
        refine Wl.val rfl (V.move rfl) ?_
        refine Wl.val rfl (V.assign rfl) ?_
        refine Wl.val rfl (V.assign rfl) ?_
        refine Wl.nil ?_
        refine Wx.then_n ?_
        refine Wc.ret ?_
        repeat (first | refine Wx.then_r ?_ | refine Wx.blk_r ?_ | refine Wx.ng_r ?_)
        refine Wx.ret2 rfl rfl rfl rfl ?_
        have e : encT r k = (enc r).1 := by rw [← encT_all r h0]; congr 1; simp at hc3; omega
        rw [ex_mul]; refine Ent.ex b ?_
        show Ent (own T_uint8 1 b (encT r k).length (bytesV (encT r k)) * (S * (row r1 120 (cellsL (recV r.kind nv tv)) * F))) _
        rw [e, enc_ok h0]
        exact Ent.resC rfl
end Go.Proofs.YtjfacgmobpbhcaaGreat
/- The walks: code, reading. -/
namespace Go.Proofs.YtjfacgmobpbhcaaGreat
open Go.Sl Sei
abbrev badCh : List PanicEntry := [⟨.iface T_code_bad (.agg #[]), false, false⟩]
theorem s_code_reader_take {S : HP} {bv : Value} {rp : Nat} {bs : List UInt8} (k : Nat) (hw : Vw S bv 1 bs.length (bytesV bs)) :
  CtrP P f_code_reader_take [ptr rp, i64 (k : Int)] (row rp T_code_reader [bv] * S) (fun v => pu (v = subS bv 0 k 1 ∧ k ≤ bs.length) * (row rp T_code_reader [subS bv k bs.length 1] * S)) badCh (pu (bs.length < k) * S) := by
  refine CtrP.of_body (m := 31) fn_code_reader_take rfl rfl rfl rfl rfl (fun F g => ?_)
  refine Wc.seq ?_
  refine Wc.region ?_
  refine Wl.val rfl (V.assign rfl) ?_
  refine Wl.nil ?_
  refine Wx.then_n ?_
  refine Wc.seq ?_
  refine Wc.seq ?_
  refine Wc.region ?_
  refine Wl.val rfl (V.move rfl) ?_
  refine Wl.val rfl (V.move rfl) ?_
  refine Wl.val rfl (V.nil rfl) ?_
  refine Wl.val rfl (V.fld _ rfl O_code_reader_0 rfl) ?_
  refine Wl.val rfl (V.ld rfl C_Suint8 rfl) ?_
  refine Wl.val rfl (V.lenW rfl U_Suint8 hw) ?_
  refine Wl.val rfl (V.gtr rfl rfl) ?_
  refine Wl.nil ?_
  refine Wx.then_n ?_
  refine Wc.cond rfl (fun hc1 => ?_) (fun hc1 => ?_)
  · skip
    try replace hc1 := of_decide_eq_true hc1
    refine Wc.region ?_
    refine Wl.val rfl (V.build B_code_bad rfl rfl) ?_
    refine Wl.val rfl (V.mkIface rfl I_code_bad) ?_
    refine Wl.panic rfl ?_
    repeat (first | refine Wx.then_p ?_ | refine Wx.blk_p ?_ | refine Wx.ng_p ?_)
    refine Wx.panicP rfl ?_
    exact Ent.resC (by omega)
  · skip
    try replace hc1 := of_decide_eq_false hc1
    refine Wc.skip ?_
    refine Wx.then_n ?_
    refine Wc.seq ?_
    refine Wc.region ?_
    refine Wl.val rfl (V.move rfl) ?_
    refine Wl.val rfl (V.nil rfl) ?_
    refine Wl.val rfl (V.fld _ rfl O_code_reader_0 rfl) ?_
    refine Wl.val rfl (V.ld rfl C_Suint8 rfl) ?_
    refine Wl.val rfl (V.move rfl) ?_
    refine Wl.val rfl (V.sliceW (l := 0) (q := k) rfl U_Suint8 Z_uint8 rfl rfl hw rfl rfl (by omega) (by omega)) ?_
    refine Wl.val rfl (V.assign rfl) ?_
    refine Wl.nil ?_
    refine Wx.then_n ?_
    refine Wc.seq ?_
    refine Wc.region ?_
    refine Wl.val rfl (V.move rfl) ?_
    refine Wl.val rfl (V.move rfl) ?_
    refine Wl.val rfl (V.nil rfl) ?_
    refine Wl.val rfl (V.fld _ rfl O_code_reader_0 rfl) ?_
    refine Wl.val rfl (V.ld rfl C_Suint8 rfl) ?_
    refine Wl.val rfl (V.move rfl) ?_
    refine Wl.val rfl (V.sliceW (l := k) (q := bs.length) rfl U_Suint8 Z_uint8 rfl rfl hw rfl rfl (by omega) (by omega)) ?_
    refine Wl.val rfl (V.nil rfl) ?_
    refine Wl.val rfl (V.fld _ rfl O_code_reader_0 rfl) ?_
    refine Wl.st (Go.Sl.S.put rfl rfl C_Suint8 (subS_one ..) rfl) ?_
    refine Wl.nil ?_
    refine Wx.then_n ?_
    refine Wc.seq ?_
    refine Wc.region ?_
    refine Wl.val rfl (V.move rfl) ?_
    refine Wl.val rfl (V.assign rfl) ?_
    refine Wl.nil ?_
    refine Wx.then_n ?_
    refine Wc.ret ?_
    repeat (first | refine Wx.then_r ?_ | refine Wx.blk_r ?_ | refine Wx.ng_r ?_)
    refine Wx.retP1 rfl rfl rfl ?_
    exact Ent.resC ⟨rfl, by omega⟩
theorem s_code_reader_number {S : HP} {bv : Value} {rp : Nat} {bs : List UInt8} (hw : Vw S bv 1 bs.length (bytesV bs)) :
  CtrP P f_code_reader_number [ptr rp] (row rp T_code_reader [bv] * S) (fun v => ex fun (q : Int × List UInt8 × Value) => pu (v = i64 q.1) * (pu (decNum bs = some (q.1, q.2.1) ∧ Vw S q.2.2 1 q.2.1.length (bytesV q.2.1)) * (row rp T_code_reader [q.2.2] * S))) badCh (pu (decNum bs = none) * S) := by
  refine CtrP.of_body (m := 45) fn_code_reader_number rfl rfl rfl rfl rfl (fun F g => ?_)
  refine Wc.seq ?_
  refine Wc.region ?_
  refine Wl.val rfl (V.assign rfl) ?_
  refine Wl.nil ?_
  refine Wx.then_n ?_
  refine Wc.seq ?_
  refine Wc.region ?_
  refine Wl.val rfl (V.assign rfl) ?_
  refine Wl.nil ?_
  refine Wx.then_n ?_
  refine Wc.seq ?_
  refine Wc.region ?_
  refine Wl.val rfl (V.assign rfl) ?_
  refine Wl.nil ?_
  refine Wx.then_n ?_
  refine Wc.block ?_
  refine Wc.loop (α := Nat × Nat × Nat × List UInt8 × Value) (fun x => x.1) (fun x => pu (DecI bs x.1 x.2.1 x.2.2.1 x.2.2.2.1 ∧ Vw S x.2.2.2.2 1 x.2.2.2.1.length (bytesV x.2.2.2.1)) * (row rp T_code_reader [x.2.2.2.2] * (S * F))) (fun x => [(4, i64 (x.2.1 : Nat)), (3, .int .u64 (x.2.2.1 : Nat)), (0, ptr rp)]) (10, 0, 0, bs, bv) (by exact Ent.puC (by exact ⟨DecI.start bs, hw⟩)) (by repeat (first | exact trivial | refine ⟨rfl, ?_⟩)) (fun x => ?_)
  obtain ⟨f, s, u, bt, bw⟩ := x
  refine Wc.pu (fun hx => ?_)
  obtain ⟨hD, hW⟩ : DecI bs f s u bt ∧ Vw S bw 1 bt.length (bytesV bt) := hx
  dsimp only
  refine Wc.seq ?_
  refine Wc.block ?_
  refine Wc.seq ?_
  refine Wc.region ?_
  refine Wl.val rfl (V.move rfl) ?_
  refine Wl.callP rfl rfl (s_code_reader_take 1 hW) (Take.two Take.here Take.here) ?_ (fun v9 => ?_)
  · skip
    repeat (first | refine Wx.then_p ?_ | refine Wx.blk_p ?_ | refine Wx.ng_p ?_)
    refine Wx.panicP rfl ?_
    refine Ent.trans (Ent.of_eq (sep_assoc _ _ _)) (Ent.puE fun h => ?_)
    obtain rfl : bt = [] := List.eq_nil_of_length_eq_zero (by omega)
    exact Ent.resC hD.empty
  refine Wl.assoc (Wl.pu (fun ht => ?_))
  obtain ⟨rfl, hk⟩ := ht
  obtain ⟨x, rest, rfl⟩ := cons_of hk
  have hX := hW.sub (l := 0) (q := 1) hk (by omega)
  have hR : Vw S (subS bw 1 (x :: rest).length 1) 1 rest.length (bytesV rest) := by have := hW.sub (l := 1) (q := (x :: rest).length) (Nat.le_refl _) hk; rwa [bytesV_tail] at this
  have hs := hD.le
  have hu := hD.lt
  have hx := x.toNat_lt
  refine Wl.val rfl (V.idxW rfl rfl U_Suint8 Z_uint8 hX (by decide) (by decide)) ?_
  refine Wl.val rfl (V.ldW (u := u8 x) rfl C_uint8 hX (by simp [bytesV])) ?_
  refine Wl.val rfl (V.assign rfl) ?_
  refine Wl.nil ?_
  refine Wx.then_n ?_
  refine Wc.seq ?_
  refine Wc.seq ?_
  refine Wc.region ?_
  refine Wl.val rfl (V.move rfl) ?_
  refine Wl.val rfl (V.eql rfl rfl) ?_
  refine Wl.val rfl (V.move rfl) ?_
  refine Wl.bool 14 rfl (fun hb14 => ?_) (fun hb14 => ?_)
  · -- t14 is True
    try replace hb14 := of_decide_eq_true hb14
    refine Wl.gT rfl rfl ?_
    refine Wl.val rfl (V.move rfl) ?_
    refine Wl.gT rfl rfl ?_
    refine Wl.val rfl (V.gtr rfl rfl) ?_
    refine Wl.val rfl (V.pickT rfl rfl) ?_
    refine Wl.val rfl (V.move rfl) ?_
    refine Wl.bool 18 rfl (fun hb18 => ?_) (fun hb18 => ?_)
    · -- t18 is True
      try replace hb18 := of_decide_eq_true hb18
      refine Wl.gF rfl rfl rfl ?_
      refine Wl.gF rfl rfl rfl ?_
      refine Wl.gF rfl rfl rfl ?_
      refine Wl.gU rfl rfl rfl ?_
      refine Wl.gU rfl rfl rfl ?_
      refine Wl.gF rfl rfl rfl ?_
      refine Wl.val rfl (V.pickT rfl rfl) ?_
      refine Wl.nil ?_
      refine Wx.then_n ?_
      refine Wc.condT rfl ?_
      refine Wc.region ?_
      refine Wl.val rfl (V.build B_code_bad rfl rfl) ?_
      refine Wl.val rfl (V.mkIface rfl I_code_bad) ?_
      refine Wl.panic rfl ?_
      repeat (first | refine Wx.then_p ?_ | refine Wx.blk_p ?_ | refine Wx.ng_p ?_)
      refine Wx.panicP rfl ?_
      exact Ent.resC (hD.bad (by unfold badB; omega))
    · -- t18 is False
      try replace hb18 := of_decide_eq_false hb18
      refine Wl.gT rfl rfl ?_
      refine Wl.val rfl (V.move rfl) ?_
      refine Wl.gT rfl rfl ?_
      refine Wl.val rfl (V.gtr rfl rfl) ?_
      refine Wl.gT rfl rfl ?_
      refine Wl.val rfl (V.move rfl) ?_
      refine Wl.bool 21 rfl (fun hb21 => ?_) (fun hb21 => ?_)
      · -- t21 is True
        try replace hb21 := of_decide_eq_true hb21
        refine Wl.gT rfl rfl ?_
        refine Wl.val rfl (V.move rfl) ?_
        refine Wl.gT rfl rfl ?_
        refine Wl.val rfl (V.eql rfl rfl) ?_
        refine Wl.gT rfl rfl ?_
        refine Wl.val rfl (V.pickT rfl rfl) ?_
        refine Wl.val rfl (V.pickF rfl rfl) ?_
        refine Wl.nil ?_
        refine Wx.then_n ?_
        refine Wc.cond rfl (fun hc1 => ?_) (fun hc1 => ?_)
        · skip
          try replace hc1 := of_decide_eq_true hc1
          refine Wc.region ?_
          refine Wl.val rfl (V.build B_code_bad rfl rfl) ?_
          refine Wl.val rfl (V.mkIface rfl I_code_bad) ?_
          refine Wl.panic rfl ?_
          repeat (first | refine Wx.then_p ?_ | refine Wx.blk_p ?_ | refine Wx.ng_p ?_)
          refine Wx.panicP rfl ?_
          exact Ent.resC (hD.bad (by unfold badB; omega))
        · skip
          try replace hc1 := of_decide_eq_false hc1
          refine Wc.skip ?_
          refine Wx.then_n ?_
          refine Wc.seq ?_
          refine Wc.region ?_
          refine Wl.val rfl (V.move rfl) ?_
          refine Wl.val rfl (V.move rfl) ?_
          refine Wl.val rfl (V.and rfl rfl (by exact byte_and127 x)) ?_
          refine Wl.val rfl (V.conv rfl U_uint8 U_uint64 (by exact wrap_u64_nat (x.toNat % 128) (by omega))) ?_
          refine Wl.val rfl (V.move rfl) ?_
          refine Wl.val rfl (V.shl rfl rfl (by simp) (by exact shl_nat (k := .u64) rfl (x.toNat % 128) s (by show s ≤ 64; omega) (hD.small (by unfold badB; omega)).1)) ?_
          refine Wl.val rfl (V.or rfl rfl (by exact or_step hD.hu hu (hD.small (by unfold badB; omega)).1)) ?_
          refine Wl.val rfl (V.assign rfl) ?_
          refine Wl.nil ?_
          refine Wx.then_n ?_
          refine Wc.seq ?_
          refine Wc.region ?_
          refine Wl.val rfl (V.move rfl) ?_
          refine Wl.val rfl (V.lss rfl rfl) ?_
          refine Wl.nil ?_
          refine Wx.then_n ?_
          refine Wc.cond rfl (fun hc2 => ?_) (fun hc2 => ?_)
          · skip
            try replace hc2 := of_decide_eq_true hc2
            refine Wc.seq ?_
            refine Wc.region ?_
            refine Wl.val rfl (V.move rfl) ?_
            refine Wl.val rfl (V.shr rfl rfl (by omega) rfl) ?_
            refine Wl.val rfl (V.conv rfl U_uint64 U_int64 rfl) ?_
            refine Wl.val rfl (V.move rfl) ?_
            refine Wl.val rfl (V.and rfl rfl rfl) ?_
            refine Wl.val rfl (V.conv rfl U_uint64 U_int64 rfl) ?_
            refine Wl.val rfl (V.neg rfl rfl) ?_
            refine Wl.val rfl (V.xor rfl rfl (by exact unzig_raw (hD.small (by unfold badB; omega)).2)) ?_
            refine Wl.val rfl (V.assign rfl) ?_
            refine Wl.nil ?_
            refine Wx.then_n ?_
            refine Wc.ret ?_
            repeat (first | refine Wx.then_r ?_ | refine Wx.blk_r ?_ | refine Wx.ng_r ?_)
            refine Wx.retP1 rfl rfl rfl ?_
            rw [ex_mul]; refine Ent.ex (unzig (u + x.toNat % 128 * 2 ^ s), rest, subS bw 1 (x :: rest).length 1) ?_
            exact Ent.resC2 rfl ⟨hD.done (by unfold badB; omega) (by omega), hR⟩
          · skip
            try replace hc2 := of_decide_eq_false hc2
            refine Wc.skip ?_
            refine Wx.blk_n ?_
            refine Wx.then_n ?_
            refine Wc.region ?_
            refine Wl.val rfl (V.move rfl) ?_
            refine Wl.val rfl (V.addk rfl rfl (wr64 (by omega) (by omega))) ?_
            refine Wl.val rfl (V.assign rfl) ?_
            refine Wl.nil ?_
            refine Wx.again (f - 1, s + 7, u + x.toNat % 128 * 2 ^ s, rest, subS bw 1 (x :: rest).length 1) (by exact (by show f - 1 < f; have := hD.hf; omega)) (by exact Ent.puC (by exact ⟨hD.step (by unfold badB; omega) (by omega), hR⟩)) (by repeat (first | exact trivial | refine ⟨rfl, ?_⟩))
      · -- t21 is False
        try replace hb21 := of_decide_eq_false hb21
        refine Wl.gF rfl rfl rfl ?_
        refine Wl.gF rfl rfl rfl ?_
        refine Wl.gT rfl rfl ?_
        refine Wl.val rfl (V.pickF rfl rfl) ?_
        refine Wl.val rfl (V.pickF rfl rfl) ?_
        refine Wl.nil ?_
        refine Wx.then_n ?_
        refine Wc.condF rfl ?_
        refine Wc.skip ?_
        refine Wx.then_n ?_
        refine Wc.seq ?_
        refine Wc.region ?_
        refine Wl.val rfl (V.move rfl) ?_
        refine Wl.val rfl (V.move rfl) ?_
        refine Wl.val rfl (V.and rfl rfl (by exact byte_and127 x)) ?_
        refine Wl.val rfl (V.conv rfl U_uint8 U_uint64 (by exact wrap_u64_nat (x.toNat % 128) (by omega))) ?_
        refine Wl.val rfl (V.move rfl) ?_
        refine Wl.val rfl (V.shl rfl rfl (by simp) (by exact shl_nat (k := .u64) rfl (x.toNat % 128) s (by show s ≤ 64; omega) (hD.small (by unfold badB; omega)).1)) ?_
        refine Wl.val rfl (V.or rfl rfl (by exact or_step hD.hu hu (hD.small (by unfold badB; omega)).1)) ?_
        refine Wl.val rfl (V.assign rfl) ?_
        refine Wl.nil ?_
        refine Wx.then_n ?_
        refine Wc.seq ?_
        refine Wc.region ?_
        refine Wl.val rfl (V.move rfl) ?_
        refine Wl.val rfl (V.lss rfl rfl) ?_
        refine Wl.nil ?_
        refine Wx.then_n ?_
        refine Wc.cond rfl (fun hc3 => ?_) (fun hc3 => ?_)
        · skip
          try replace hc3 := of_decide_eq_true hc3
          refine Wc.seq ?_
          refine Wc.region ?_
          refine Wl.val rfl (V.move rfl) ?_
          refine Wl.val rfl (V.shr rfl rfl (by omega) rfl) ?_
          refine Wl.val rfl (V.conv rfl U_uint64 U_int64 rfl) ?_
          refine Wl.val rfl (V.move rfl) ?_
          refine Wl.val rfl (V.and rfl rfl rfl) ?_
          refine Wl.val rfl (V.conv rfl U_uint64 U_int64 rfl) ?_
          refine Wl.val rfl (V.neg rfl rfl) ?_
          refine Wl.val rfl (V.xor rfl rfl (by exact unzig_raw (hD.small (by unfold badB; omega)).2)) ?_
          refine Wl.val rfl (V.assign rfl) ?_
          refine Wl.nil ?_
          refine Wx.then_n ?_
          refine Wc.ret ?_
          repeat (first | refine Wx.then_r ?_ | refine Wx.blk_r ?_ | refine Wx.ng_r ?_)
          refine Wx.retP1 rfl rfl rfl ?_
          rw [ex_mul]; refine Ent.ex (unzig (u + x.toNat % 128 * 2 ^ s), rest, subS bw 1 (x :: rest).length 1) ?_
          exact Ent.resC2 rfl ⟨hD.done (by unfold badB; omega) (by omega), hR⟩
        · skip
          try replace hc3 := of_decide_eq_false hc3
          refine Wc.skip ?_
          refine Wx.blk_n ?_
          refine Wx.then_n ?_
          refine Wc.region ?_
          refine Wl.val rfl (V.move rfl) ?_
          refine Wl.val rfl (V.addk rfl rfl (wr64 (by omega) (by omega))) ?_
          refine Wl.val rfl (V.assign rfl) ?_
          refine Wl.nil ?_
          refine Wx.again (f - 1, s + 7, u + x.toNat % 128 * 2 ^ s, rest, subS bw 1 (x :: rest).length 1) (by exact (by show f - 1 < f; have := hD.hf; omega)) (by exact Ent.puC (by exact ⟨hD.step (by unfold badB; omega) (by omega), hR⟩)) (by repeat (first | exact trivial | refine ⟨rfl, ?_⟩))
  · -- t14 is False
    try replace hb14 := of_decide_eq_false hb14
    refine Wl.gF rfl rfl rfl ?_
    refine Wl.gF rfl rfl rfl ?_
    refine Wl.val rfl (V.pickF rfl rfl) ?_
    refine Wl.val rfl (V.move rfl) ?_
    refine Wl.gT rfl rfl ?_
    refine Wl.val rfl (V.move rfl) ?_
    refine Wl.gT rfl rfl ?_
    refine Wl.val rfl (V.gtr rfl rfl) ?_
    refine Wl.gT rfl rfl ?_
    refine Wl.val rfl (V.move rfl) ?_
    refine Wl.bool 21 rfl (fun hb21 => ?_) (fun hb21 => ?_)
    · -- t21 is True
      try replace hb21 := of_decide_eq_true hb21
      refine Wl.gT rfl rfl ?_
      refine Wl.val rfl (V.move rfl) ?_
      refine Wl.gT rfl rfl ?_
      refine Wl.val rfl (V.eql rfl rfl) ?_
      refine Wl.gT rfl rfl ?_
      refine Wl.val rfl (V.pickT rfl rfl) ?_
      refine Wl.val rfl (V.pickF rfl rfl) ?_
      refine Wl.nil ?_
      refine Wx.then_n ?_
      refine Wc.cond rfl (fun hc4 => ?_) (fun hc4 => ?_)
      · skip
        try replace hc4 := of_decide_eq_true hc4
        refine Wc.region ?_
        refine Wl.val rfl (V.build B_code_bad rfl rfl) ?_
        refine Wl.val rfl (V.mkIface rfl I_code_bad) ?_
        refine Wl.panic rfl ?_
        repeat (first | refine Wx.then_p ?_ | refine Wx.blk_p ?_ | refine Wx.ng_p ?_)
        refine Wx.panicP rfl ?_
        exact Ent.resC (hD.bad (by unfold badB; omega))
      · skip
        try replace hc4 := of_decide_eq_false hc4
        refine Wc.skip ?_
        refine Wx.then_n ?_
        refine Wc.seq ?_
        refine Wc.region ?_
        refine Wl.val rfl (V.move rfl) ?_
        refine Wl.val rfl (V.move rfl) ?_
        refine Wl.val rfl (V.and rfl rfl (by exact byte_and127 x)) ?_
        refine Wl.val rfl (V.conv rfl U_uint8 U_uint64 (by exact wrap_u64_nat (x.toNat % 128) (by omega))) ?_
        refine Wl.val rfl (V.move rfl) ?_
        refine Wl.val rfl (V.shl rfl rfl (by simp) (by exact shl_nat (k := .u64) rfl (x.toNat % 128) s (by show s ≤ 64; omega) (hD.small (by unfold badB; omega)).1)) ?_
        refine Wl.val rfl (V.or rfl rfl (by exact or_step hD.hu hu (hD.small (by unfold badB; omega)).1)) ?_
        refine Wl.val rfl (V.assign rfl) ?_
        refine Wl.nil ?_
        refine Wx.then_n ?_
        refine Wc.seq ?_
        refine Wc.region ?_
        refine Wl.val rfl (V.move rfl) ?_
        refine Wl.val rfl (V.lss rfl rfl) ?_
        refine Wl.nil ?_
        refine Wx.then_n ?_
        refine Wc.cond rfl (fun hc5 => ?_) (fun hc5 => ?_)
        · skip
          try replace hc5 := of_decide_eq_true hc5
          refine Wc.seq ?_
          refine Wc.region ?_
          refine Wl.val rfl (V.move rfl) ?_
          refine Wl.val rfl (V.shr rfl rfl (by omega) rfl) ?_
          refine Wl.val rfl (V.conv rfl U_uint64 U_int64 rfl) ?_
          refine Wl.val rfl (V.move rfl) ?_
          refine Wl.val rfl (V.and rfl rfl rfl) ?_
          refine Wl.val rfl (V.conv rfl U_uint64 U_int64 rfl) ?_
          refine Wl.val rfl (V.neg rfl rfl) ?_
          refine Wl.val rfl (V.xor rfl rfl (by exact unzig_raw (hD.small (by unfold badB; omega)).2)) ?_
          refine Wl.val rfl (V.assign rfl) ?_
          refine Wl.nil ?_
          refine Wx.then_n ?_
          refine Wc.ret ?_
          repeat (first | refine Wx.then_r ?_ | refine Wx.blk_r ?_ | refine Wx.ng_r ?_)
          refine Wx.retP1 rfl rfl rfl ?_
          rw [ex_mul]; refine Ent.ex (unzig (u + x.toNat % 128 * 2 ^ s), rest, subS bw 1 (x :: rest).length 1) ?_
          exact Ent.resC2 rfl ⟨hD.done (by unfold badB; omega) (by omega), hR⟩
        · skip
          try replace hc5 := of_decide_eq_false hc5
          refine Wc.skip ?_
          refine Wx.blk_n ?_
          refine Wx.then_n ?_
          refine Wc.region ?_
          refine Wl.val rfl (V.move rfl) ?_
          refine Wl.val rfl (V.addk rfl rfl (wr64 (by omega) (by omega))) ?_
          refine Wl.val rfl (V.assign rfl) ?_
          refine Wl.nil ?_
          refine Wx.again (f - 1, s + 7, u + x.toNat % 128 * 2 ^ s, rest, subS bw 1 (x :: rest).length 1) (by exact (by show f - 1 < f; have := hD.hf; omega)) (by exact Ent.puC (by exact ⟨hD.step (by unfold badB; omega) (by omega), hR⟩)) (by repeat (first | exact trivial | refine ⟨rfl, ?_⟩))
    · -- t21 is False
      try replace hb21 := of_decide_eq_false hb21
      refine Wl.gF rfl rfl rfl ?_
      refine Wl.gF rfl rfl rfl ?_
      refine Wl.gT rfl rfl ?_
      refine Wl.val rfl (V.pickF rfl rfl) ?_
      refine Wl.val rfl (V.pickF rfl rfl) ?_
      refine Wl.nil ?_
      refine Wx.then_n ?_
      refine Wc.condF rfl ?_
      refine Wc.skip ?_
      refine Wx.then_n ?_
      refine Wc.seq ?_
      refine Wc.region ?_
      refine Wl.val rfl (V.move rfl) ?_
      refine Wl.val rfl (V.move rfl) ?_
      refine Wl.val rfl (V.and rfl rfl (by exact byte_and127 x)) ?_
      refine Wl.val rfl (V.conv rfl U_uint8 U_uint64 (by exact wrap_u64_nat (x.toNat % 128) (by omega))) ?_
      refine Wl.val rfl (V.move rfl) ?_
      refine Wl.val rfl (V.shl rfl rfl (by simp) (by exact shl_nat (k := .u64) rfl (x.toNat % 128) s (by show s ≤ 64; omega) (hD.small (by unfold badB; omega)).1)) ?_
      refine Wl.val rfl (V.or rfl rfl (by exact or_step hD.hu hu (hD.small (by unfold badB; omega)).1)) ?_
      refine Wl.val rfl (V.assign rfl) ?_
      refine Wl.nil ?_
      refine Wx.then_n ?_
      refine Wc.seq ?_
      refine Wc.region ?_
      refine Wl.val rfl (V.move rfl) ?_
      refine Wl.val rfl (V.lss rfl rfl) ?_
      refine Wl.nil ?_
      refine Wx.then_n ?_
      refine Wc.cond rfl (fun hc6 => ?_) (fun hc6 => ?_)
      · skip
        try replace hc6 := of_decide_eq_true hc6
        refine Wc.seq ?_
        refine Wc.region ?_
        refine Wl.val rfl (V.move rfl) ?_
        refine Wl.val rfl (V.shr rfl rfl (by omega) rfl) ?_
        refine Wl.val rfl (V.conv rfl U_uint64 U_int64 rfl) ?_
        refine Wl.val rfl (V.move rfl) ?_
        refine Wl.val rfl (V.and rfl rfl rfl) ?_
        refine Wl.val rfl (V.conv rfl U_uint64 U_int64 rfl) ?_
        refine Wl.val rfl (V.neg rfl rfl) ?_
        refine Wl.val rfl (V.xor rfl rfl (by exact unzig_raw (hD.small (by unfold badB; omega)).2)) ?_
        refine Wl.val rfl (V.assign rfl) ?_
        refine Wl.nil ?_
        refine Wx.then_n ?_
        refine Wc.ret ?_
        repeat (first | refine Wx.then_r ?_ | refine Wx.blk_r ?_ | refine Wx.ng_r ?_)
        refine Wx.retP1 rfl rfl rfl ?_
        rw [ex_mul]; refine Ent.ex (unzig (u + x.toNat % 128 * 2 ^ s), rest, subS bw 1 (x :: rest).length 1) ?_
        exact Ent.resC2 rfl ⟨hD.done (by unfold badB; omega) (by omega), hR⟩
      · skip
        try replace hc6 := of_decide_eq_false hc6
        refine Wc.skip ?_
        refine Wx.blk_n ?_
        refine Wx.then_n ?_
        refine Wc.region ?_
        refine Wl.val rfl (V.move rfl) ?_
        refine Wl.val rfl (V.addk rfl rfl (wr64 (by omega) (by omega))) ?_
        refine Wl.val rfl (V.assign rfl) ?_
        refine Wl.nil ?_
        refine Wx.again (f - 1, s + 7, u + x.toNat % 128 * 2 ^ s, rest, subS bw 1 (x :: rest).length 1) (by exact (by show f - 1 < f; have := hD.hf; omega)) (by exact Ent.puC (by exact ⟨hD.step (by unfold badB; omega) (by omega), hR⟩)) (by repeat (first | exact trivial | refine ⟨rfl, ?_⟩))
end Go.Proofs.YtjfacgmobpbhcaaGreat
/- The walks: code, reading, 2. -/
namespace Go.Proofs.YtjfacgmobpbhcaaGreat
open Go.Sl Sei
abbrev rec0 (r : Nat) : HP := row r T_api_Rec [i64 0, .slice none 0 0, .slice none 0 0]
theorem s_code_reader_take' {S : HP} {bv : Value} {rp : Nat} {bs : List UInt8} (k : Nat) (hw : Vw S bv 1 bs.length (bytesV bs)) :
    CtrP P f_code_reader_take [ptr rp, i64 (k : Int)] (row rp T_code_reader [bv] * S) (fun v => ex fun (_ : PLift (k ≤ bs.length)) => pu (v = subS bv 0 k 1) * (row rp T_code_reader [subS bv k bs.length 1] * S)) badCh (pu (bs.length < k) * S) :=
  (s_code_reader_take k hw).mono (fun v => Ent.puE fun h => Ent.ex ⟨h.2⟩ (Ent.pure h.1)) (Ent.refl _)
theorem s_code_reader_rec {S : HP} {bv : Value} {rp : Nat} {bs : List UInt8} (hw : Vw S bv 1 bs.length (bytesV bs)) :
  CtrP P f_code_reader_rec [ptr rp] (row rp T_code_reader [bv] * S) (fun v => ex fun (q : Rec × Value × Value) => pu (decRec bs = some q.1 ∧ v = recV q.1.kind q.2.1 q.2.2) * (own T_int64 1 q.2.1 q.1.nums.length (numsV q.1.nums) * (own T_string 1 q.2.2 q.1.texts.length (textsV q.1.texts) * S))) badCh (pu (decRec bs = none) * S) := by
  refine CtrP.of_body (m := 80) fn_code_reader_rec rfl rfl rfl rfl rfl (fun F g => ?_)
  refine Wc.seq ?_
  refine Wc.region ?_
  refine Wl.al rfl (M.alloc N_api_Rec) (fun r2 => ?_)
  refine Wl.nil ?_
  refine Wx.then_n ?_
  refine Wc.seq ?_
  refine Wc.region ?_
  refine Wl.val rfl (V.move rfl) ?_
  refine Wl.callP rfl rfl (s_code_reader_take 2 hw) (Take.two (Take.there (Take.left Take.here)) (by first | exact Take.there Take.here)) ?_ (fun v9 => ?_)
  · skip
    repeat (first | refine Wx.then_p ?_ | refine Wx.blk_p ?_ | refine Wx.ng_p ?_)
    refine Wx.panicP rfl ?_
    rw [sep_assoc]; refine Ent.puE (fun h => ?_)
    exact Ent.resC (decRec_short h)
  refine Wl.assoc (Wl.pu (fun ht => ?_))
  obtain ⟨rfl, hk⟩ := ht
  obtain ⟨a, b, rest, rfl⟩ := cons2_of hk
  have hX := hw.sub (l := 0) (q := 2) hk (by omega)
  have hR : Vw S (subS bv 2 (a :: b :: rest).length 1) 1 rest.length (bytesV rest) := by have := hw.sub (l := 2) (q := (a :: b :: rest).length) (Nat.le_refl _) hk; rwa [bytesV_tail2] at this
  have ha := a.toNat_lt
  have hb := b.toNat_lt
  refine Wl.val rfl (V.assign rfl) ?_
  refine Wl.nil ?_
  refine Wx.then_n ?_
  refine Wc.seq ?_
  refine Wc.region ?_
  refine Wl.val rfl (V.move rfl) ?_
  refine Wl.val rfl (V.idxW rfl rfl U_Suint8 Z_uint8 hX (by decide) (by decide)) ?_
  refine Wl.val rfl (V.ldW (u := u8 a) rfl C_uint8 hX (by simp [bytesV])) ?_
  refine Wl.val rfl (V.conv rfl U_uint8 U_int (wr64 (by omega) (by omega))) ?_
  refine Wl.val rfl (V.build B_api_Rec rfl rfl) ?_
  refine Wl.al rfl (M.alloc N_api_Rec) (fun r4 => ?_)
  refine Wl.st (Go.Sl.S.putA rfl rfl C_api_Rec rfl rfl rfl rfl) ?_
  refine Wl.nil ?_
  refine Wx.then_n ?_
  refine Wc.seq ?_
  refine Wc.quiet mixed (by kernel_rfl) ?_
  refine Wq.val rfl (V.move rfl) ?_
  refine Wq.val rfl (V.idxW rfl rfl U_Suint8 Z_uint8 hX (by decide) (by decide)) ?_
  refine Wq.val rfl (V.ldW (u := u8 b) rfl C_uint8 hX (by simp [bytesV])) ?_
  refine Wq.val rfl (V.remk rfl rfl (by decide) (by exact tmod_nat b.toNat 16)) ?_
  refine Wq.val rfl (V.conv rfl U_uint8 U_int (wr64 (by omega) (by omega))) ?_
  refine Wq.val rfl (V.move rfl) ?_
  refine Wq.val rfl (V.idxW rfl rfl U_Suint8 Z_uint8 hX (by decide) (by decide)) ?_
  refine Wq.val rfl (V.ldW (u := u8 b) rfl C_uint8 hX (by simp [bytesV])) ?_
  refine Wq.val rfl (V.quok rfl rfl (by decide) (by exact quo_u8 b.toNat 16 hb)) ?_
  refine Wq.val rfl (V.conv rfl U_uint8 U_int (wr64 (by omega) (by omega))) ?_
  refine Wq.val rfl (V.assign rfl) ?_
  refine Wq.val rfl (V.assign rfl) ?_
  refine Wq.nil ?_
  refine Wx.then_n ?_
  refine Wc.cut (row r4 T_api_Rec [i64 (a.toNat : Nat), .slice none 0 0, .slice none 0 0] * (row rp T_code_reader [subS bv 2 (a :: b :: rest).length 1] * (S * (rec0 r2 * F)))) ([(0, ptr rp), (2, ptr r2), (4, ptr r4), (5, i64 (numsOf b : Nat)), (6, i64 (textsOf b : Nat))]) ?_ ?_
  · skip
    refine Wc.seq ?_
    refine Wc.region ?_
    refine Wl.val rfl (V.move rfl) ?_
    refine Wl.val rfl (V.idxW rfl rfl U_Suint8 Z_uint8 hX (by decide) (by decide)) ?_
    refine Wl.val rfl (V.ldW (u := u8 b) rfl C_uint8 hX (by simp [bytesV])) ?_
    refine Wl.val rfl (V.geq rfl rfl) ?_
    refine Wl.nil ?_
    refine Wx.then_n ?_
    refine Wc.cond rfl (fun hc1 => ?_) (fun hc1 => ?_)
    · skip
      try replace hc1 := of_decide_eq_true hc1
      refine Wc.quiet mixed (by kernel_rfl) ?_
      refine Wq.val rfl (V.move rfl) ?_
      refine Wq.val rfl (V.idxW rfl rfl U_Suint8 Z_uint8 hX (by decide) (by decide)) ?_
      refine Wq.val rfl (V.ldW (u := u8 b) rfl C_uint8 hX (by simp [bytesV])) ?_
      refine Wq.val rfl (V.subk rfl rfl (r := ((b.toNat - 240 : Nat) : Int)) (by rw [show (b.toNat : Int) - 240 = ((b.toNat - 240 : Nat) : Int) by omega]; exact wrap_u8_nat _ (by omega))) ?_
      refine Wq.val rfl (V.conv rfl U_uint8 U_int (wr64 (by omega) (by omega))) ?_
      refine Wq.val rfl (V.assign rfl) ?_
      refine Wq.val rfl (V.assign rfl) ?_
      refine Wq.nil ?_
      exact Wx.cutn Ent.auto ⟨rfl, rfl, rfl, by unfold numsOf; rw [if_pos (by omega)]; rfl, by unfold textsOf; rw [if_pos (by omega)]; rfl, trivial⟩
    · skip
      try replace hc1 := of_decide_eq_false hc1
      refine Wc.skip ?_
      exact Wx.cutn Ent.auto ⟨rfl, rfl, rfl, by unfold numsOf; rw [if_neg (by omega)]; rfl, by unfold textsOf; rw [if_neg (by omega)]; rfl, trivial⟩
  · skip
    refine Wc.seq ?_
    refine Wc.seq ?_
    refine Wc.region ?_
    refine Wl.val rfl (V.move rfl) ?_
    refine Wl.val rfl (V.gtr rfl rfl) ?_
    refine Wl.nil ?_
    refine Wx.then_n ?_
    refine Wc.cond rfl (fun hc2 => ?_) (fun hc2 => ?_)
    · skip
      try replace hc2 := of_decide_eq_true hc2
      refine Wc.region ?_
      refine Wl.val rfl (V.build B_code_bad rfl rfl) ?_
      refine Wl.val rfl (V.mkIface rfl I_code_bad) ?_
      refine Wl.panic rfl ?_
      repeat (first | refine Wx.then_p ?_ | refine Wx.blk_p ?_ | refine Wx.ng_p ?_)
      refine Wx.panicP rfl ?_
      exact Ent.resC (by rw [decRec_cons, if_pos (by omega)])
    · skip
      try replace hc2 := of_decide_eq_false hc2
      refine Wc.skip ?_
      refine Wx.then_n ?_
      refine Wc.seq ?_
      refine Wc.seq ?_
      refine Wc.region ?_
      refine Wl.val rfl (V.move rfl) ?_
      refine Wl.val rfl (V.move rfl) ?_
      refine Wl.nil ?_
      refine Wx.then_n ?_
      refine Wc.block ?_
      refine Wc.loop (α := List Int × List UInt8 × Value × Value) (fun x => numsOf b - x.1.length) (fun x => pu (NumsI (numsOf b) rest x.1 x.2.1 ∧ Vw S x.2.2.1 1 x.2.1.length (bytesV x.2.1)) * (own T_int64 1 x.2.2.2 x.1.length (numsV x.1) * (row r4 T_api_Rec [i64 (a.toNat : Nat), x.2.2.2, .slice none 0 0] * (row rp T_code_reader [x.2.2.1] * (S * (rec0 r2 * F)))))) (fun x => [(0, ptr rp), (2, ptr r2), (4, ptr r4), (6, i64 (textsOf b : Nat)), (39, i64 (x.1.length : Nat)), (38, i64 (numsOf b : Nat))]) ([], rest, subS bv 2 (a :: b :: rest).length 1, .slice none 0 0) (by exact (Ent.own_nil T_int64 1 _).trans (Ent.pure (by exact ⟨NumsI.start _ _, hR⟩))) (by repeat (first | exact trivial | refine ⟨rfl, ?_⟩)) (fun x => ?_)
      obtain ⟨acc, rs, bw, nv⟩ := x
      refine Wc.pu (fun hx => ?_)
      obtain ⟨hN, hW⟩ : NumsI (numsOf b) rest acc rs ∧ Vw S bw 1 rs.length (bytesV rs) := hx
      have hnum : numsOf b ≤ 16 := by unfold numsOf; split <;> omega
      dsimp only
      refine Wc.seq ?_
      refine Wc.region ?_
      refine Wl.val rfl (V.lss rfl rfl) ?_
      refine Wl.nil ?_
      refine Wx.then_n ?_
      refine Wc.seq ?_
      refine Wc.cond rfl (fun hc3 => ?_) (fun hc3 => ?_)
      · skip
        try replace hc3 := of_decide_eq_true hc3
        refine Wc.skip ?_
        refine Wx.then_n ?_
        refine Wc.seq ?_
        refine Wc.block ?_
        refine Wc.draws 5 mixed (by kernel_rfl) (S := own T_int64 1 nv acc.length (numsV acc) * (row r4 T_api_Rec [i64 (a.toNat : Nat), nv, .slice none 0 0] * (rec0 r2 * F))) (M := row rp T_code_reader [bw] * S) (Ent.auto) ?_
        refine Wr.take [0, 1, 2] 2 (by kernel_rfl) (by kernel_rfl) rfl rfl ?_
        refine Wt.val rfl (V.fld _ rfl O_api_Rec_1 rfl) ?_
        refine Wt.val rfl (V.ld rfl C_Sint64 rfl) ?_
        refine Wt.val rfl (V.move rfl) ?_
        refine Wt.nil ?_
        refine Wr.any [3] 1 (by kernel_rfl) rfl rfl ?_
        refine Wm.callMP rfl rfl rfl rfl (s_code_reader_number hW) (TakeC.self _).t ?_ (fun x44 => ?_) ?_
        · skip
          repeat (first | refine Wx.then_p ?_ | refine Wx.blk_p ?_ | refine Wx.ng_p ?_)
          refine Wx.panicP rfl ?_
          refine Ent.pull (fun h => ?_)
          refine Ent.trans ?_ (Ent.resC (H := S * F) (by rw [decRec_cons, if_neg (by omega), hN.bad (by omega) h]))
          exact Ent.auto
        · skip
          refine Wr.any [4] 0 (by kernel_rfl) rfl rfl ?_
          refine Wm.al rfl rfl rfl (M.slice (l := [i64 x44.1]) U_Sint64 L_Sint64.size N_int64 rfl (by decide) rfl rfl) (fun r45 => ?_) ?_
          · skip
            refine Wr.tail (by kernel_rfl) rfl ?_
            refine Wl.pull (fun h2 => ?_)
            obtain ⟨hd, hV⟩ := h2
            refine Wl.ent (H' := own T_int64 1 nv acc.length (numsV acc) * (row r45 T_int64 [i64 x44.1] * (row r4 T_api_Rec [i64 (a.toNat : Nat), nv, .slice none 0 0] * (row rp T_code_reader [x44.2.2] * (S * (rec0 r2 * F)))))) Ent.auto ?_
            refine Wl.exo rfl (X.append L_Sint64 rfl rfl Take.here (Src.row U_Sint64 rfl rfl) (by unfold maxLen; omega) (by omega)) (fun v46 => ?_)
            refine Wl.know (fun g w s => own_one s) (fun h1 => ?_)
            refine Wl.val rfl (V.fld _ rfl O_api_Rec_1 rfl) ?_
            refine Wl.st (Go.Sl.S.put rfl rfl C_Sint64 h1 rfl) ?_
            refine Wl.nil ?_
            refine Wx.blk_n ?_
            refine Wx.then_n ?_
            refine Wc.region ?_
            refine Wl.val rfl (V.addk rfl rfl (r := (((acc ++ [x44.1]).length : Nat) : Int)) (by rw [wr64 (by omega) (by omega)]; simp)) ?_
            refine Wl.val rfl (V.move rfl) ?_
            refine Wl.nil ?_
            refine Wx.again (acc ++ [x44.1], x44.2.1, x44.2.2, v46) (by exact (by show numsOf b - (acc ++ [x44.1]).length < numsOf b - acc.length; simp; omega)) (by exact Ent.puOwn (by exact ⟨hN.step (by omega) hd, hV⟩) (by simp) (by simp [numsV])) (by repeat (first | exact trivial | refine ⟨rfl, ?_⟩))
          exact Wm.nil
        exact Wm.nil
      · skip
        try replace hc3 := of_decide_eq_false hc3
        have hnum2 : acc.length = numsOf b := by have := hN.le; omega
        have hN := hN.done (by omega)
        refine Wc.exit ?_
        refine Wx.then_x ?_
        refine Wx.then_x ?_
        refine Wx.blk_x ?_
        refine Wx.then_n ?_
        refine Wc.seq ?_
        refine Wc.seq ?_
        refine Wc.region ?_
        refine Wl.val rfl (V.move rfl) ?_
        refine Wl.val rfl (V.move rfl) ?_
        refine Wl.nil ?_
        refine Wx.then_n ?_
        refine Wc.block ?_
        refine Wc.loop (α := List (List UInt8) × List UInt8 × Value × Value) (fun x => textsOf b - x.1.length) (fun x => pu (TextsI (textsOf b) rs x.1 x.2.1 ∧ Vw S x.2.2.1 1 x.2.1.length (bytesV x.2.1)) * (own T_string 1 x.2.2.2 x.1.length (textsV x.1) * (row r4 T_api_Rec [i64 (a.toNat : Nat), nv, x.2.2.2] * (row rp T_code_reader [x.2.2.1] * (S * (own T_int64 1 nv acc.length (numsV acc) * (rec0 r2 * F))))))) (fun x => [(0, ptr rp), (2, ptr r2), (4, ptr r4), (50, i64 (x.1.length : Nat)), (49, i64 (textsOf b : Nat))]) ([], rs, bw, .slice none 0 0) (by exact (Ent.own_nil T_string 1 _).trans (Ent.puOwn (by exact ⟨TextsI.start _ _, hW⟩) rfl rfl)) (by repeat (first | exact trivial | refine ⟨rfl, ?_⟩)) (fun x => ?_)
        obtain ⟨act, rt, bt, tv⟩ := x
        refine Wc.pu (fun hx => ?_)
        obtain ⟨hT, hW⟩ : TextsI (textsOf b) rs act rt ∧ Vw S bt 1 rt.length (bytesV rt) := hx
        dsimp only
        refine Wc.seq ?_
        refine Wc.region ?_
        refine Wl.val rfl (V.lss rfl rfl) ?_
        refine Wl.nil ?_
        refine Wx.then_n ?_
        refine Wc.seq ?_
        refine Wc.cond rfl (fun hc4 => ?_) (fun hc4 => ?_)
        · skip
          try replace hc4 := of_decide_eq_true hc4
          refine Wc.skip ?_
          refine Wx.then_n ?_
          refine Wc.seq ?_
          refine Wc.block ?_
          refine Wc.seq ?_
          refine Wc.region ?_
          refine Wl.val rfl (V.move rfl) ?_
          refine Wl.callP rfl rfl (s_code_reader_take 1 hW) (Take.two (Take.there (Take.there Take.here)) (Take.there (Take.there Take.here))) ?_ (fun v53 => ?_)
          · skip
            repeat (first | refine Wx.then_p ?_ | refine Wx.blk_p ?_ | refine Wx.ng_p ?_)
            refine Wx.panicP rfl ?_
            refine Ent.pull (fun h => ?_)
            obtain rfl : rt = [] := List.eq_nil_of_length_eq_zero (by omega)
            exact Ent.trans Ent.auto (Ent.resC (H := S * F) (by rw [decRec_cons, if_neg (by omega), hN]; dsimp only; rw [hT.empty (by omega)]))
          refine Wl.pull (fun ht => ?_)
          obtain ⟨rfl, hk⟩ := ht
          obtain ⟨x, rt, rfl⟩ := cons_of hk
          have hX := hW.sub (l := 0) (q := 1) hk (by omega)
          have hR : Vw S (subS bt 1 (x :: rt).length 1) 1 rt.length (bytesV rt) := by have := hW.sub (l := 1) (q := (x :: rt).length) (Nat.le_refl _) hk; rwa [bytesV_tail] at this
          have hx := x.toNat_lt
          refine Wl.val rfl (V.idxW rfl rfl U_Suint8 Z_uint8 hX (by decide) (by decide)) ?_
          refine Wl.val rfl (V.ldW (u := u8 x) rfl C_uint8 hX (by simp [bytesV])) ?_
          refine Wl.val rfl (V.conv rfl U_uint8 U_int (wr64 (by omega) (by omega))) ?_
          refine Wl.val rfl (V.assign rfl) ?_
          refine Wl.nil ?_
          refine Wx.then_n ?_
          refine Wc.seq ?_
          refine Wc.seq ?_
          refine Wc.region ?_
          refine Wl.val rfl (V.move rfl) ?_
          refine Wl.val rfl (V.gtr rfl rfl) ?_
          refine Wl.nil ?_
          refine Wx.then_n ?_
          refine Wc.cond rfl (fun hc5 => ?_) (fun hc5 => ?_)
          · skip
            try replace hc5 := of_decide_eq_true hc5
            refine Wc.region ?_
            refine Wl.val rfl (V.build B_code_bad rfl rfl) ?_
            refine Wl.val rfl (V.mkIface rfl I_code_bad) ?_
            refine Wl.panic rfl ?_
            repeat (first | refine Wx.then_p ?_ | refine Wx.blk_p ?_ | refine Wx.ng_p ?_)
            refine Wx.panicP rfl ?_
            exact Ent.trans Ent.auto (Ent.resC (H := S * F) (by rw [decRec_cons, if_neg (by omega), hN]; dsimp only; rw [hT.bad (by omega) (by omega)]))
          · skip
            try replace hc5 := of_decide_eq_false hc5
            refine Wc.skip ?_
            refine Wx.then_n ?_
            refine Wc.draws 7 mixed (by kernel_rfl) (S := own T_string 1 tv act.length (textsV act) * (row r4 T_api_Rec [i64 (a.toNat : Nat), nv, tv] * (S * (own T_int64 1 nv acc.length (numsV acc) * (rec0 r2 * F))))) (M := row rp T_code_reader [subS bt 1 (x :: rt).length 1]) (Ent.auto) ?_
            refine Wr.take [0, 1, 2, 3] 3 (by kernel_rfl) (by kernel_rfl) rfl rfl ?_
            refine Wt.val rfl (V.fld _ rfl O_api_Rec_2 rfl) ?_
            refine Wt.val rfl (V.ld rfl C_Sstring rfl) ?_
            refine Wt.val rfl (V.move rfl) ?_
            refine Wt.val rfl (V.move rfl) ?_
            refine Wt.nil ?_
            refine Wr.any [4] 2 (by kernel_rfl) rfl rfl ?_
            refine Wm.callMSP rfl rfl rfl rfl (s_code_reader_take' x.toNat hR) (TakeC.self _).t (Take.there (Take.there Take.here)) ?_ (fun x65 => ?_) ?_
            · skip
              repeat (first | refine Wx.then_p ?_ | refine Wx.blk_p ?_ | refine Wx.ng_p ?_)
              refine Wx.panicP rfl ?_
              refine Ent.pull (fun h => ?_)
              exact Ent.trans Ent.auto (Ent.resC (H := S * F) (by rw [decRec_cons, if_neg (by omega), hN]; dsimp only; rw [hT.bad (by omega) (by omega)]))
            · skip
              refine Wr.take [5] 1 (by kernel_rfl) (by kernel_rfl) rfl rfl ?_
              refine Wt.val rfl (V.b2sW (bs := rt.take x.toNat) rfl U_Suint8 U_uint8 U_string (Vw.head hR x65.down)) ?_
              refine Wt.nil ?_
              refine Wr.any [6] 0 (by kernel_rfl) rfl rfl ?_
              refine Wm.al rfl rfl rfl (M.slice (l := [str (rt.take x.toNat)]) U_Sstring L_Sstring.size N_string rfl (by decide) rfl rfl) (fun r67 => ?_) ?_
              · skip
                refine Wr.tail (by kernel_rfl) rfl ?_
                refine Wl.ent (H' := own T_string 1 tv act.length (textsV act) * (row r67 T_string [str (rt.take x.toNat)] * (row r4 T_api_Rec [i64 (a.toNat : Nat), nv, tv] * (row rp T_code_reader [subS (subS bt 1 (x :: rt).length 1) x.toNat rt.length 1] * (S * (own T_int64 1 nv acc.length (numsV acc) * (rec0 r2 * F))))))) Ent.auto ?_
                refine Wl.exo rfl (X.append L_Sstring rfl rfl Take.here (Src.row U_Sstring rfl rfl) (by unfold maxLen; omega) (by omega)) (fun v68 => ?_)
                refine Wl.know (fun g w s => own_one s) (fun h1 => ?_)
                refine Wl.val rfl (V.fld _ rfl O_api_Rec_2 rfl) ?_
                refine Wl.st (Go.Sl.S.put rfl rfl C_Sstring h1 rfl) ?_
                refine Wl.nil ?_
                refine Wx.blk_n ?_
                refine Wx.then_n ?_
                refine Wc.region ?_
                refine Wl.val rfl (V.addk rfl rfl (r := (((act ++ [rt.take x.toNat]).length : Nat) : Int)) (by rw [wr64 (by omega) (by omega)]; simp)) ?_
                refine Wl.val rfl (V.move rfl) ?_
                refine Wl.nil ?_
                refine Wx.again (act ++ [rt.take x.toNat], rt.drop x.toNat, subS (subS bt 1 (x :: rt).length 1) x.toNat rt.length 1, v68) (by exact (by show textsOf b - (act ++ [rt.take x.toNat]).length < textsOf b - act.length; simp; omega)) (by exact Ent.puOwn (by exact ⟨hT.step (by omega) (by omega) x65.down, Vw.tail hR x65.down⟩) (by simp) (by simp [textsV])) (by repeat (first | exact trivial | refine ⟨rfl, ?_⟩))
              exact Wm.nil
            exact Wm.nil
        · skip
          try replace hc4 := of_decide_eq_false hc4
          refine Wc.exit ?_
          refine Wx.then_x ?_
          refine Wx.then_x ?_
          refine Wx.blk_x ?_
          refine Wx.then_n ?_
          refine Wc.seq ?_
          refine Wc.seq ?_
          refine Wc.region ?_
          refine Wl.val rfl (V.move rfl) ?_
          refine Wl.val rfl (V.nil rfl) ?_
          refine Wl.val rfl (V.fld _ rfl O_code_reader_0 rfl) ?_
          refine Wl.val rfl (V.ld rfl C_Suint8 rfl) ?_
          refine Wl.val rfl (V.lenW rfl U_Suint8 hW) ?_
          refine Wl.val rfl (V.gtr rfl rfl) ?_
          refine Wl.nil ?_
          refine Wx.then_n ?_
          refine Wc.cond rfl (fun hc6 => ?_) (fun hc6 => ?_)
          · skip
            try replace hc6 := of_decide_eq_true hc6
            refine Wc.region ?_
            refine Wl.val rfl (V.build B_code_bad rfl rfl) ?_
            refine Wl.val rfl (V.mkIface rfl I_code_bad) ?_
            refine Wl.panic rfl ?_
            repeat (first | refine Wx.then_p ?_ | refine Wx.blk_p ?_ | refine Wx.ng_p ?_)
            refine Wx.panicP rfl ?_
            exact Ent.trans Ent.auto (Ent.resC (H := S * F) (by rw [decRec_cons, if_neg (by omega), hN]; dsimp only; rw [hT.done (by omega)]; dsimp only; rw [if_neg (by rw [List.isEmpty_iff_length_eq_zero]; omega)]))
          · skip
            try replace hc6 := of_decide_eq_false hc6
            refine Wc.know (fun g w s => own_one s) (fun o1 => ?_)
            refine Wc.know (p := nv.oneCell' = true) (fun g w s => own_one (F := emp) (s.ent (Ent.auto (G := own T_int64 1 nv acc.length (numsV acc) * emp)))) (fun o2 => ?_)
            refine Wc.skip ?_
            refine Wx.then_n ?_
            refine Wc.seq ?_
            refine Wc.region ?_
            refine Wl.val rfl (V.ldA rfl C_api_Rec rfl) ?_
            refine Wl.st (Go.Sl.S.putA rfl rfl C_api_Rec (by simp only [oneCells, o1, o2]; rfl) rfl rfl rfl) ?_
            refine Wl.nil ?_
            refine Wx.then_n ?_
            refine Wc.ret ?_
            repeat (first | refine Wx.then_r ?_ | refine Wx.blk_r ?_ | refine Wx.ng_r ?_)
            refine Wx.rvP1 rfl rfl (RV.cellA rfl C_api_Rec rfl) ?_
            rw [ex_mul]; refine Ent.ex (⟨a.toNat, acc, act⟩, nv, tv) ?_
            exact Ent.resC ⟨by rw [decRec_cons, if_neg (by omega), hN]; dsimp only; rw [hT.done (by omega)]; dsimp only; rw [if_pos (by rw [List.isEmpty_iff_length_eq_zero]; omega)], rfl⟩
end Go.Proofs.YtjfacgmobpbhcaaGreat
/- The walks: code, reading, 3. -/
namespace Go.Proofs.YtjfacgmobpbhcaaGreat
open Go.Sl Sei
theorem d_Decode_1_ok (r2 r3 : Nat) : CtrD P f_code_Decode_1 ([] ++ [ptr r2, ptr r3]) .returning emp .returning emp := by
  refine CtrD.of_body (m := 9) fn_code_Decode_1 rfl rfl rfl rfl rfl (fun F g c₀ cs a w hc fi s => ?_)
  refine wpS_start (.inr ⟨recoverD_none hc, rfl, rfl⟩) rfl rfl fi s ?_
  refine Wc.seq ?_
  refine Wc.region ?_
  refine Wl.val rfl (V.move rfl) ?_
  refine Wl.nil ?_
  refine Wx.then_n ?_
  refine Wc.block ?_
  refine Wc.seq ?_
  refine Wc.region ?_
  refine Wl.val rfl (V.eqNilT rfl U_any) ?_
  refine Wl.nil ?_
  refine Wx.then_n ?_
  refine Wc.condT rfl ?_
  refine Wc.skip ?_
  refine Wx.blk_n ?_
  exact Wx.endS rfl rfl (by cases c₀; simp only at hc; subst hc; rfl) (Ent.refl _)
theorem d_Decode_1_bad (r2 r3 : Nat) (l2 : List Value) (l3 : List Value) (h2 : l2.length = 3) (h3 : l3.length = 1) : CtrD P f_code_Decode_1 ([] ++ [ptr r2, ptr r3]) (.panicking badCh) (row r2 T_api_Rec l2 * row r3 T_api_Errno l3) (.panicking [⟨.iface T_code_bad (.agg #[]), true, false⟩]) (row r2 T_api_Rec [i64 0, .slice none 0 0, .slice none 0 0] * row r3 T_api_Errno [i64 4]) := by
  match l2, h2 with
  | [a1, a2, a3], _ => match l3, h3 with
  | [b1], _ =>
  refine CtrD.of_body (m := 9) fn_code_Decode_1 rfl rfl rfl rfl rfl (fun F g c₀ cs a w hc fi s => ?_)
  refine wpS_start (.inl (recoverD_some hc)) rfl rfl fi s ?_
  refine Wc.seq ?_
  refine Wc.region ?_
  refine Wl.val rfl (V.move rfl) ?_
  refine Wl.nil ?_
  refine Wx.then_n ?_
  refine Wc.block ?_
  refine Wc.seq ?_
  refine Wc.region ?_
  refine Wl.val rfl (V.eqNilF rfl U_any) ?_
  refine Wl.nil ?_
  refine Wx.then_n ?_
  refine Wc.condF rfl ?_
  refine Wc.seq ?_
  refine Wc.region ?_
  refine Wl.val rfl (V.move rfl) ?_
  refine Wl.val rfl (V.isT1 rfl I_code_bad) ?_
  refine Wl.nil ?_
  refine Wx.then_n ?_
  refine Wc.region ?_
  refine Wl.val rfl (V.build B_api_Rec rfl rfl) ?_
  refine Wl.st (Go.Sl.S.putA rfl rfl C_api_Rec rfl rfl rfl rfl) ?_
  refine Wl.st (Go.Sl.S.put rfl rfl C_api_Errno rfl rfl) ?_
  refine Wl.nil ?_
  refine Wx.blk_n ?_
  exact Wx.endS rfl rfl rfl (Ent.refl _)
theorem s_code_Decode {S : HP} {bv : Value} {bs : List UInt8} (hw : Vw S bv 1 bs.length (bytesV bs)) :
  Ctr P f_code_Decode [bv] S (fun v => ex fun (q : Value × Value) => pu (v = .tuple #[recV (dec bs).1.kind q.1 q.2, i64 (dec bs).2]) * (own T_int64 1 q.1 (dec bs).1.nums.length (numsV (dec bs).1.nums) * (own T_string 1 q.2 (dec bs).1.texts.length (textsV (dec bs).1.texts) * S))) := by
  obtain ⟨ba, bn, bc, rfl⟩ := hw.shape
  refine Ctr.of_bodyD (m := 11) fn_code_Decode rfl rfl rfl rfl rfl (fun F g => ?_)
  refine Wc.seq ?_
  refine Wc.region ?_
  refine Wl.al rfl (M.alloc N_api_Rec) (fun r2 => ?_)
  refine Wl.al rfl (M.alloc N_api_Errno) (fun r3 => ?_)
  refine Wl.nil ?_
  refine Wx.then_n ?_
  refine Wc.seq ?_
  refine Wc.region ?_
  refine Wl.val rfl (V.mkFunc rfl rfl) ?_
  refine Wl.defer rfl ?_
  refine Wl.nil ?_
  refine Wx.then_n ?_
  refine Wc.seq ?_
  refine Wc.region ?_
  refine Wl.val rfl (V.move rfl) ?_
  refine Wl.val rfl (V.build B_code_reader rfl rfl) ?_
  refine Wl.al rfl (M.box rfl rfl) (fun r8 => ?_)
  refine Wl.val rfl (V.assign rfl) ?_
  refine Wl.nil ?_
  refine Wx.then_n ?_
  refine Wc.seq ?_
  refine Wc.region ?_
  refine Wl.val rfl (V.move rfl) ?_
  refine Wl.callP rfl rfl (s_code_reader_rec hw) (Take.two Take.here (Take.there (Take.there Take.here))) ?_ (fun v10 => ?_)
  · skip
    repeat (first | refine Wx.then_p ?_ | refine Wx.blk_p ?_ | refine Wx.ng_p ?_)
    refine Wx.pull (fun hb => ?_)
    refine Wx.leave2 (H' := S * F) (um := .panicking badCh) rfl rfl (d_Decode_1_bad r2 r3 [i64 0, .slice none 0 0, .slice none 0 0] [i64 0] rfl rfl) rfl Ent.auto (by simp) (.inr ⟨_, rfl, rfl⟩) (RV.cellA rfl C_api_Rec rfl) (RV.cell rfl C_api_Errno rfl) ?_
    rw [dec_none hb, ex_mul]
    refine Ent.ex (.slice none 0 0, .slice none 0 0) ?_
    refine Ent.trans ?_ (Ent.of_eq (sep_assoc _ _ _).symm)
    refine Ent.trans ?_ (Ent.pure rfl)
    refine Ent.trans ?_ (Ent.of_eq (sep_assoc _ _ _).symm)
    refine Ent.trans ?_ ((Ent.own_nil T_string 1 (S * F)).trans ((Ent.own_nil T_int64 1 _).trans (Ent.framel _ (Ent.of_eq (sep_assoc _ _ _).symm))))
    exact Ent.auto
  refine Wl.exm (fun q => ?_)
  refine Wl.pull (fun hq => ?_)
  obtain ⟨hq, rfl⟩ := hq
  obtain ⟨r, nv, tv⟩ := q
  dsimp only at hq
  dsimp only
  refine Wl.know (p := nv.oneCell' = true) (fun g w s => own_one (F := emp) (s.ent (Ent.auto (G := own T_int64 1 nv r.nums.length (numsV r.nums) * emp)))) (fun o1 => ?_)
  refine Wl.know (p := tv.oneCell' = true) (fun g w s => own_one (F := emp) (s.ent (Ent.auto (G := own T_string 1 tv r.texts.length (textsV r.texts) * emp)))) (fun o2 => ?_)
  refine Wl.st (Go.Sl.S.putA rfl rfl C_api_Rec (by simp only [oneCells, o1, o2]; rfl) rfl rfl rfl) ?_
  refine Wl.st (Go.Sl.S.put rfl rfl C_api_Errno rfl rfl) ?_
  refine Wl.nil ?_
  refine Wx.then_n ?_
  refine Wc.ret ?_
  repeat (first | refine Wx.then_r ?_ | refine Wx.blk_r ?_ | refine Wx.ng_r ?_)
  refine Wx.leave2 (um := .returning) rfl rfl (d_Decode_1_ok r2 r3) rfl (Ent.emp _) (by simp) (.inl ⟨rfl, rfl⟩) (RV.cellA rfl C_api_Rec rfl) (RV.cell rfl C_api_Errno rfl) ?_
  rw [dec_some hq, ex_mul]
  refine Ent.ex (nv, tv) ?_
  exact Ent.resC rfl
end Go.Proofs.YtjfacgmobpbhcaaGreat
/- The walks: devices of sectors. -/
namespace Go.Proofs.YtjfacgmobpbhcaaGreat
open Go.Sl Sei
abbrev devL (n rl : Nat) : Value := .slice (some ⟨rl, 0, none⟩) n n
abbrev DevB (d rl rm : Nat) (D : DevM) : HP := row d T_sector_Dev [devL D.l.length rl, .map (some rm), .bool D.dead, i64 D.fuse] * (row rl T_sector_sector (flatV D.l) * mapI rm (amap secV D.pend))
def Dev (d : Nat) (D : DevM) : HP := ex fun (q : Nat × Nat) => DevB d q.1 q.2 D
theorem Dev.intro (d rl rm : Nat) (D : DevM) : Ent (DevB d rl rm D) (Dev d D) := Ent.ex (rl, rm) (Ent.refl _)
theorem Wc.dev {C : Cx} {d : Nat} {D : DevM} {F : HP} {e : Env} {c : Code} {Q : Post} (k : ∀ rl rm, Wc C (row d T_sector_Dev [devL D.l.length rl, .map (some rm), .bool D.dead, i64 D.fuse] * (row rl T_sector_sector (flatV D.l) * (mapI rm (amap secV D.pend) * F))) e c Q) : Wc C (Dev d D * F) e c Q :=
  Wc.exm fun q => Wc.ent Ent.auto (k q.1 q.2)
theorem Ent.dev {d rl rm : Nat} {D : DevM} {p : Prop} {F H : HP} (hp : p) [i : En H (DevB d rl rm D * F)] : Ent H (pu p * Dev d D * F) := Ent.res hp (i.e.trans ((Dev.intro d rl rm D).frame F))
theorem Ent.devS {d rl rm : Nat} {D : DevM} {p : Prop} {S F H : HP} (hp : p) [i : En H (DevB d rl rm D * (S * F))] : Ent H (pu p * (Dev d D * S) * F) := Ent.res hp ((i.e.trans ((Dev.intro d rl rm D).frame _)).trans (Ent.of_eq (sep_assoc _ _ _).symm))
theorem Ent.devS' {d rl rm : Nat} {D : DevM} {p : Prop} {A F H : HP} (hp : p) [i : En H (DevB d rl rm D * (A * F))] : Ent H (pu p * (A * Dev d D) * F) := by
  rw [sep_comm A]; exact Ent.devS (rl := rl) (rm := rm) hp
theorem V0_sector (w : World) : (zeroValue T_sector_sector).run P w = .ok (secV (zeros 144)) w := zeroV (by kernel_rfl) w
theorem s_sector_Dev_Dead (d : Nat) (D : DevM) : Ctr P f_sector_Dev_Dead [ptr d] (Dev d D) (fun v => pu (v = .bool D.dead) * Dev d D) := by
  refine Ctr.of_body (m := 7) fn_sector_Dev_Dead rfl rfl rfl rfl rfl (fun F g => ?_)
  refine Wc.dev (fun rl rm => ?_)
  refine Wc.seq ?_
  refine Wc.region ?_
  refine Wl.val rfl (V.assign rfl) ?_
  refine Wl.nil ?_
  refine Wx.then_n ?_
  refine Wc.seq ?_
  refine Wc.region ?_
  refine Wl.val rfl (V.move rfl) ?_
  refine Wl.val rfl (V.nil rfl) ?_
  refine Wl.val rfl (V.fld _ rfl O_sector_Dev_2 rfl) ?_
  refine Wl.val rfl (V.ld rfl C_bool rfl) ?_
  refine Wl.val rfl (V.assign rfl) ?_
  refine Wl.nil ?_
  refine Wx.then_n ?_
  refine Wc.ret ?_
  repeat (first | refine Wx.then_r ?_ | refine Wx.blk_r ?_ | refine Wx.ng_r ?_)
  refine Wx.ret1 rfl rfl rfl ?_
  exact Ent.dev (rl := rl) (rm := rm) rfl
theorem s_sector_Dev_Sectors (d : Nat) (D : DevM) : Ctr P f_sector_Dev_Sectors [ptr d] (Dev d D) (fun v => pu (v = i64 (D.l.length : Nat)) * Dev d D) := by
  refine Ctr.of_body (m := 8) fn_sector_Dev_Sectors rfl rfl rfl rfl rfl (fun F g => ?_)
  refine Wc.dev (fun rl rm => ?_)
  refine Wc.seq ?_
  refine Wc.region ?_
  refine Wl.val rfl (V.assign rfl) ?_
  refine Wl.nil ?_
  refine Wx.then_n ?_
  refine Wc.seq ?_
  refine Wc.region ?_
  refine Wl.val rfl (V.move rfl) ?_
  refine Wl.val rfl (V.nil rfl) ?_
  refine Wl.val rfl (V.fld _ rfl O_sector_Dev_0 rfl) ?_
  refine Wl.val rfl (V.ld rfl C_Ssector_sector rfl) ?_
  refine Wl.val rfl (V.lenS rfl U_Ssector_sector) ?_
  refine Wl.val rfl (V.assign rfl) ?_
  refine Wl.nil ?_
  refine Wx.then_n ?_
  refine Wc.ret ?_
  repeat (first | refine Wx.then_r ?_ | refine Wx.blk_r ?_ | refine Wx.ng_r ?_)
  refine Wx.ret1 rfl rfl rfl ?_
  exact Ent.dev (rl := rl) (rm := rm) rfl
theorem s_sector_Dev_act (d : Nat) {D : DevM} (hD : DevOk D) : Ctr P f_sector_Dev_act [ptr d] (Dev d D) (fun v => pu (v = i64 (devAct D).2) * Dev d (devAct D).1) := by
  have hf := hD.fuse
  refine Ctr.of_body (m := 23) fn_sector_Dev_act rfl rfl rfl rfl rfl (fun F g => ?_)
  refine Wc.dev (fun rl rm => ?_)
  refine Wc.seq ?_
  refine Wc.region ?_
  refine Wl.val rfl (V.assign rfl) ?_
  refine Wl.nil ?_
  refine Wx.then_n ?_
  refine Wc.seq ?_
  refine Wc.seq ?_
  refine Wc.region ?_
  refine Wl.val rfl (V.move rfl) ?_
  refine Wl.val rfl (V.nil rfl) ?_
  refine Wl.val rfl (V.fld _ rfl O_sector_Dev_3 rfl) ?_
  refine Wl.val rfl (V.ld rfl C_int rfl) ?_
  refine Wl.val rfl (V.eql rfl rfl) ?_
  refine Wl.nil ?_
  refine Wx.then_n ?_
  refine Wc.cond rfl (fun hc1 => ?_) (fun hc1 => ?_)
  · skip
    try replace hc1 := of_decide_eq_true hc1
    refine Wc.seq ?_
    refine Wc.region ?_
    refine Wl.val rfl (V.move rfl) ?_
    refine Wl.val rfl (V.nil rfl) ?_
    refine Wl.val rfl (V.fld _ rfl O_sector_Dev_2 rfl) ?_
    refine Wl.st (Go.Sl.S.put rfl rfl C_bool rfl rfl) ?_
    refine Wl.nil ?_
    refine Wx.then_n ?_
    refine Wc.seq ?_
    refine Wc.region ?_
    refine Wl.val rfl (V.assign rfl) ?_
    refine Wl.nil ?_
    refine Wx.then_n ?_
    refine Wc.ret ?_
    repeat (first | refine Wx.then_r ?_ | refine Wx.blk_r ?_ | refine Wx.ng_r ?_)
    refine Wx.ret1 rfl rfl rfl ?_
    have e : devAct D = ({ D with dead := true }, 30) := by unfold devAct; rw [if_pos hc1]
    rw [e]; exact Ent.dev (rl := rl) (rm := rm) rfl
  · skip
    try replace hc1 := of_decide_eq_false hc1
    refine Wc.skip ?_
    refine Wx.then_n ?_
    refine Wc.seq ?_
    refine Wc.seq ?_
    refine Wc.region ?_
    refine Wl.val rfl (V.move rfl) ?_
    refine Wl.val rfl (V.nil rfl) ?_
    refine Wl.val rfl (V.fld _ rfl O_sector_Dev_3 rfl) ?_
    refine Wl.val rfl (V.ld rfl C_int rfl) ?_
    refine Wl.val rfl (V.gtr rfl rfl) ?_
    refine Wl.nil ?_
    refine Wx.then_n ?_
    refine Wc.cond rfl (fun hc2 => ?_) (fun hc2 => ?_)
    · skip
      try replace hc2 := of_decide_eq_true hc2
      refine Wc.region ?_
      refine Wl.val rfl (V.move rfl) ?_
      refine Wl.val rfl (V.nil rfl) ?_
      refine Wl.val rfl (V.fld _ rfl O_sector_Dev_3 rfl) ?_
      refine Wl.val rfl (V.ld rfl C_int rfl) ?_
      refine Wl.val rfl (V.subk rfl rfl (wr64 (by omega) (by omega))) ?_
      refine Wl.val rfl (V.nil rfl) ?_
      refine Wl.val rfl (V.fld _ rfl O_sector_Dev_3 rfl) ?_
      refine Wl.st (Go.Sl.S.put rfl rfl C_int rfl rfl) ?_
      refine Wl.nil ?_
      refine Wx.then_n ?_
      refine Wc.seq ?_
      refine Wc.region ?_
      refine Wl.val rfl (V.assign rfl) ?_
      refine Wl.nil ?_
      refine Wx.then_n ?_
      refine Wc.ret ?_
      repeat (first | refine Wx.then_r ?_ | refine Wx.blk_r ?_ | refine Wx.ng_r ?_)
      refine Wx.ret1 rfl rfl rfl ?_
      have e : devAct D = ({ D with fuse := D.fuse - 1 }, 0) := by unfold devAct; rw [if_neg hc1, if_pos hc2]
      rw [e]; exact Ent.dev (rl := rl) (rm := rm) rfl
    · skip
      try replace hc2 := of_decide_eq_false hc2
      refine Wc.skip ?_
      refine Wx.then_n ?_
      refine Wc.seq ?_
      refine Wc.region ?_
      refine Wl.val rfl (V.assign rfl) ?_
      refine Wl.nil ?_
      refine Wx.then_n ?_
      refine Wc.ret ?_
      repeat (first | refine Wx.then_r ?_ | refine Wx.blk_r ?_ | refine Wx.ng_r ?_)
      refine Wx.ret1 rfl rfl rfl ?_
      have e : devAct D = (D, 0) := by unfold devAct; rw [if_neg hc1, if_neg hc2]
      rw [e]; exact Ent.dev (rl := rl) (rm := rm) rfl
theorem s_sector_Dev_has (d : Nat) (D : DevM) (i : Int) : Ctr P f_sector_Dev_has [ptr d, i64 i] (Dev d D) (fun v => pu (v = i64 (devHas D i)) * Dev d D) := by
  refine Ctr.of_body (m := 22) fn_sector_Dev_has rfl rfl rfl rfl rfl (fun F g => ?_)
  refine Wc.dev (fun rl rm => ?_)
  refine Wc.seq ?_
  refine Wc.region ?_
  refine Wl.val rfl (V.assign rfl) ?_
  refine Wl.nil ?_
  refine Wx.then_n ?_
  refine Wc.seq ?_
  refine Wc.block ?_
  refine Wc.seq ?_
  refine Wc.region ?_
  refine Wl.val rfl (V.move rfl) ?_
  refine Wl.val rfl (V.nil rfl) ?_
  refine Wl.val rfl (V.fld _ rfl O_sector_Dev_2 rfl) ?_
  refine Wl.val rfl (V.ld rfl C_bool rfl) ?_
  refine Wl.val rfl (V.assign rfl) ?_
  refine Wl.nil ?_
  refine Wx.then_n ?_
  refine Wc.cond rfl (fun hc1 => ?_) (fun hc1 => ?_)
  · skip
    try replace hc1 := of_decide_eq_true hc1
    refine Wc.seq ?_
    refine Wc.region ?_
    refine Wl.val rfl (V.assign rfl) ?_
    refine Wl.nil ?_
    refine Wx.then_n ?_
    refine Wc.ret ?_
    repeat (first | refine Wx.then_r ?_ | refine Wx.blk_r ?_ | refine Wx.ng_r ?_)
    refine Wx.ret1 rfl rfl rfl ?_
    refine Ent.dev (rl := rl) (rm := rm) ?_
    unfold devHas; simp [*]
  · skip
    try replace hc1 := of_decide_eq_false hc1
    refine Wc.seq ?_
    refine Wc.region ?_
    refine Wl.val rfl (V.move rfl) ?_
    refine Wl.val rfl (V.lss rfl rfl) ?_
    refine Wl.val rfl (V.move rfl) ?_
    refine Wl.bool 13 rfl (fun hb13 => ?_) (fun hb13 => ?_)
    · -- t13 is True
      try replace hb13 := of_decide_eq_true hb13
      refine Wl.gF rfl rfl rfl ?_
      refine Wl.gF rfl rfl rfl ?_
      refine Wl.gF rfl rfl rfl ?_
      refine Wl.gF rfl rfl rfl ?_
      refine Wl.gF rfl rfl rfl ?_
      refine Wl.gF rfl rfl rfl ?_
      refine Wl.gF rfl rfl rfl ?_
      refine Wl.val rfl (V.pickT rfl rfl) ?_
      refine Wl.val rfl (V.assign rfl) ?_
      refine Wl.nil ?_
      refine Wx.then_n ?_
      refine Wc.condT rfl ?_
      refine Wc.seq ?_
      refine Wc.region ?_
      refine Wl.val rfl (V.assign rfl) ?_
      refine Wl.nil ?_
      refine Wx.then_n ?_
      refine Wc.ret ?_
      repeat (first | refine Wx.then_r ?_ | refine Wx.blk_r ?_ | refine Wx.ng_r ?_)
      refine Wx.ret1 rfl rfl rfl ?_
      refine Ent.dev (rl := rl) (rm := rm) ?_
      unfold devHas; simp [*]
    · -- t13 is False
      try replace hb13 := of_decide_eq_false hb13
      refine Wl.gT rfl rfl ?_
      refine Wl.val rfl (V.move rfl) ?_
      refine Wl.gT rfl rfl ?_
      refine Wl.val rfl (V.move rfl) ?_
      refine Wl.gT rfl rfl ?_
      refine Wl.val rfl (V.nil rfl) ?_
      refine Wl.gT rfl rfl ?_
      refine Wl.val rfl (V.fld _ rfl O_sector_Dev_0 rfl) ?_
      refine Wl.gT rfl rfl ?_
      refine Wl.val rfl (V.ld rfl C_Ssector_sector rfl) ?_
      refine Wl.gT rfl rfl ?_
      refine Wl.val rfl (V.lenS rfl U_Ssector_sector) ?_
      refine Wl.gT rfl rfl ?_
      refine Wl.val rfl (V.geq rfl rfl) ?_
      refine Wl.val rfl (V.pickF rfl rfl) ?_
      refine Wl.val rfl (V.assign rfl) ?_
      refine Wl.nil ?_
      refine Wx.then_n ?_
      refine Wc.cond rfl (fun hc2 => ?_) (fun hc2 => ?_)
      · skip
        try replace hc2 := of_decide_eq_true hc2
        refine Wc.seq ?_
        refine Wc.region ?_
        refine Wl.val rfl (V.assign rfl) ?_
        refine Wl.nil ?_
        refine Wx.then_n ?_
        refine Wc.ret ?_
        repeat (first | refine Wx.then_r ?_ | refine Wx.blk_r ?_ | refine Wx.ng_r ?_)
        refine Wx.ret1 rfl rfl rfl ?_
        refine Ent.dev (rl := rl) (rm := rm) ?_
        unfold devHas; simp [*]
      · skip
        try replace hc2 := of_decide_eq_false hc2
        refine Wc.skip ?_
        refine Wx.blk_n ?_
        refine Wx.then_n ?_
        refine Wc.seq ?_
        refine Wc.region ?_
        refine Wl.val rfl (V.assign rfl) ?_
        refine Wl.nil ?_
        refine Wx.then_n ?_
        refine Wc.ret ?_
        repeat (first | refine Wx.then_r ?_ | refine Wx.blk_r ?_ | refine Wx.ng_r ?_)
        refine Wx.ret1 rfl rfl rfl ?_
        refine Ent.dev (rl := rl) (rm := rm) ?_
        unfold devHas; simp [*]
theorem s_sector_Dev_Fuse (d : Nat) (D : DevM) (n : Int) : Ctr P f_sector_Dev_Fuse [ptr d, i64 n] (Dev d D) (fun v => pu (v = .tuple #[]) * Dev d { D with fuse := max n (-1) }) := by
  refine Ctr.of_body (m := 9) fn_sector_Dev_Fuse rfl rfl rfl rfl rfl (fun F g => ?_)
  refine Wc.dev (fun rl rm => ?_)
  refine Wc.region ?_
  refine Wl.val rfl (V.move rfl) ?_
  refine Wl.val rfl (V.move rfl) ?_
  refine Wl.val rfl (V.mx rfl rfl) ?_
  refine Wl.val rfl (V.nil rfl) ?_
  refine Wl.val rfl (V.fld _ rfl O_sector_Dev_3 rfl) ?_
  refine Wl.st (Go.Sl.S.put rfl rfl C_int rfl rfl) ?_
  refine Wl.nil ?_
  refine Wx.end0 rfl rfl ?_
  exact Ent.dev (rl := rl) (rm := rm) rfl
theorem s_sector_Dev_up (d : Nat) (D : DevM) : Ctr P f_sector_Dev_up [ptr d] (Dev d D) (fun v => pu (v = .tuple #[]) * Dev d (devUp D)) := by
  refine Ctr.of_body (m := 12) fn_sector_Dev_up rfl rfl rfl rfl rfl (fun F g => ?_)
  refine Wc.dev (fun rl rm => ?_)
  refine Wc.seq ?_
  refine Wc.region ?_
  refine Wl.val rfl (V.move rfl) ?_
  refine Wl.val rfl (V.nil rfl) ?_
  refine Wl.val rfl (V.fld _ rfl O_sector_Dev_1 rfl) ?_
  refine Wl.val rfl (V.ld rfl C_Mint_sector_sector rfl) ?_
  refine Wl.exo0 (X.clear rfl U_Mint_sector_sector rfl (by first | exact Take.here | exact Take.there Take.here | exact Take.there (Take.there Take.here) | exact Take.there (Take.there (Take.there Take.here)) | exact Take.none _ | exact TakeC.t | exact Take.there (Take.there (Take.there (Take.there Take.here))) | exact Take.there (Take.there (Take.there (Take.there (Take.there Take.here)))) | exact Take.there (Take.there (Take.there (Take.there (Take.there (Take.there Take.here))))))) (fun v => ?_)
  refine Wl.nil ?_
  refine Wx.then_n ?_
  refine Wc.region ?_
  refine Wl.val rfl (V.move rfl) ?_
  refine Wl.val rfl (V.move rfl) ?_
  refine Wl.val rfl (V.nil rfl) ?_
  refine Wl.val rfl (V.fld _ rfl O_sector_Dev_2 rfl) ?_
  refine Wl.st (Go.Sl.S.put rfl rfl C_bool rfl rfl) ?_
  refine Wl.val rfl (V.nil rfl) ?_
  refine Wl.val rfl (V.fld _ rfl O_sector_Dev_3 rfl) ?_
  refine Wl.st (Go.Sl.S.put rfl rfl C_int rfl rfl) ?_
  refine Wl.nil ?_
  refine Wx.end0 rfl rfl ?_
  exact Ent.res rfl (Ent.trans (Ent.auto (G := row d T_sector_Dev [devL D.l.length rl, .map (some rm), .bool false, i64 (-1)] * (row rl T_sector_sector (flatV D.l) * mapI rm []) * F)) ((Dev.intro d rl rm (devUp D)).frame F))
theorem s_sector_New (n : Nat) (hn : n ≤ 512) : Ctr P f_sector_New [i64 (n : Int)] emp (fun v => ex fun (d : Nat) => pu (v = ptr d) * Dev d (devNew n)) := by
  refine Ctr.of_body (m := 14) fn_sector_New rfl rfl rfl rfl rfl (fun F g => ?_)
  refine Wc.seq ?_
  refine Wc.region ?_
  refine Wl.val rfl (V.assign rfl) ?_
  refine Wl.nil ?_
  refine Wx.then_n ?_
  refine Wc.seq ?_
  refine Wc.seq ?_
  refine Wc.region ?_
  refine Wl.val rfl (V.move rfl) ?_
  refine Wl.val rfl (V.lss rfl rfl) ?_
  refine Wl.val rfl (V.move rfl) ?_
  refine Wl.bool 5 rfl (fun hb5 => ?_) (fun hb5 => ?_)
  · -- t5 is True
    try replace hb5 := of_decide_eq_true hb5
    refine Wl.gF rfl rfl rfl ?_
    refine Wl.gF rfl rfl rfl ?_
    refine Wl.val rfl (V.pickT rfl rfl) ?_
    refine Wl.nil ?_
    refine Wx.then_n ?_
    refine Wc.condT rfl ?_
    refine Wc.seq ?_
    refine Wc.region ?_
    refine Wl.val rfl (V.assign rfl) ?_
    refine Wl.nil ?_
    refine Wx.then_n ?_
    refine Wc.ret ?_
    repeat (first | refine Wx.then_r ?_ | refine Wx.blk_r ?_ | refine Wx.ng_r ?_)
    refine Wx.ret1 rfl rfl rfl ?_
    exfalso; omega
  · -- t5 is False
    try replace hb5 := of_decide_eq_false hb5
    refine Wl.gT rfl rfl ?_
    refine Wl.val rfl (V.move rfl) ?_
    refine Wl.gT rfl rfl ?_
    refine Wl.val rfl (V.gtr rfl rfl) ?_
    refine Wl.val rfl (V.pickF rfl rfl) ?_
    refine Wl.nil ?_
    refine Wx.then_n ?_
    refine Wc.cond rfl (fun hc1 => ?_) (fun hc1 => ?_)
    · (have := of_decide_eq_true hc1; exfalso; omega)
    · skip
      try replace hc1 := of_decide_eq_false hc1
      refine Wc.skip ?_
      refine Wx.then_n ?_
      refine Wc.seq ?_
      refine Wc.region ?_
      refine Wl.val rfl (V.move rfl) ?_
      refine Wl.al rfl (M.make rfl rfl L_Ssector_sector (by decide) (by omega) (by unfold maxLen; omega)) (fun r10 => ?_)
      refine Wl.al rfl (M.map) (fun r11 => ?_)
      refine Wl.val rfl (V.build B_sector_Dev rfl rfl) ?_
      refine Wl.al rfl (M.box rfl rfl) (fun r13 => ?_)
      refine Wl.val rfl (V.assign rfl) ?_
      refine Wl.nil ?_
      refine Wx.then_n ?_
      refine Wc.ret ?_
      repeat (first | refine Wx.then_r ?_ | refine Wx.blk_r ?_ | refine Wx.ng_r ?_)
      refine Wx.ret1 rfl rfl rfl ?_
      rw [ex_mul]; refine Ent.ex r13 ?_
      have e1 : madeL (List.replicate 144 (Value.int IntKind.u8 0)) (n * 144) = flatV (devNew n).l := by rw [madeL_const _ _ _ (by omega)]; show _ = flatV (List.replicate n (zeros 144)); rw [flatV_zeros]
      rw [e1]
      show Ent (row r13 T_sector_Dev [devL n r10, .map (some r11), .bool false, i64 (-1)] * _) _
      exact Ent.res rfl (Ent.trans (Ent.auto (G := row r13 T_sector_Dev [devL n r10, .map (some r11), .bool false, i64 (-1)] * (row r10 T_sector_sector (flatV (devNew n).l) * mapI r11 []) * F)) ((Ent.of_eq (by simp [devNew, DevB, amap])).trans ((Dev.intro r13 r10 r11 (devNew n)).frame F)))
theorem s_sector_Dev_Write (d : Nat) {D : DevM} (hD : DevOk D) (i : Int) {S : HP} {v : Value} {n : Nat} {b : List UInt8} (hw : Vw S v 1 n (bytesV b)) :
  Ctr P f_sector_Dev_Write [ptr d, i64 i, v] (Dev d D * S) (fun v => pu (v = i64 (devWrite D i b).2) * (Dev d (devWrite D i b).1 * S)) := by
  have hl : b.length = n := by simpa using hw.length
  refine Ctr.of_body (m := 33) fn_sector_Dev_Write rfl rfl rfl rfl rfl (fun F g => ?_)
  refine Wc.assoc ?_
  refine Wc.seq ?_
  refine Wc.region ?_
  refine Wl.val rfl (V.assign rfl) ?_
  refine Wl.nil ?_
  refine Wx.then_n ?_
  refine Wc.seq ?_
  refine Wc.seq ?_
  refine Wc.region ?_
  refine Wl.val rfl (V.move rfl) ?_
  refine Wl.val rfl (V.move rfl) ?_
  first | refine Wl.callE rfl rfl (s_sector_Dev_has d D i) ?_ | refine Wl.callD rfl rfl (s_sector_Dev_has d D i) (by first | exact Take.here | exact Take.there Take.here | exact Take.there (Take.there Take.here) | exact Take.there (Take.there (Take.there Take.here)) | exact Take.none _ | exact TakeC.t | exact Take.there (Take.there (Take.there (Take.there Take.here))) | exact Take.there (Take.there (Take.there (Take.there (Take.there Take.here)))) | exact Take.there (Take.there (Take.there (Take.there (Take.there (Take.there Take.here)))))) ?_
  refine Wl.val rfl (V.assign rfl) ?_
  refine Wl.nil ?_
  refine Wx.then_n ?_
  refine Wc.seq ?_
  refine Wc.region ?_
  refine Wl.val rfl (V.move rfl) ?_
  refine Wl.val rfl (V.neq rfl rfl) ?_
  refine Wl.nil ?_
  refine Wx.then_n ?_
  refine Wc.cond rfl (fun hc1 => ?_) (fun hc1 => ?_)
  · skip
    try replace hc1 := of_decide_eq_true hc1
    refine Wc.seq ?_
    refine Wc.region ?_
    refine Wl.val rfl (V.move rfl) ?_
    refine Wl.val rfl (V.assign rfl) ?_
    refine Wl.nil ?_
    refine Wx.then_n ?_
    refine Wc.ret ?_
    repeat (first | refine Wx.then_r ?_ | refine Wx.blk_r ?_ | refine Wx.ng_r ?_)
    refine Wx.ret1 rfl rfl rfl ?_
    rw [devWrite_has (by simpa using hc1)]; exact Ent.resC rfl
  · skip
    try replace hc1 := of_decide_eq_false hc1
    have h0 : devHas D i = 0 := by simpa using hc1
    refine Wc.skip ?_
    refine Wx.then_n ?_
    refine Wc.seq ?_
    refine Wc.seq ?_
    refine Wc.region ?_
    refine Wl.val rfl (V.move rfl) ?_
    refine Wl.val rfl (V.lenW rfl U_Suint8 hw) ?_
    refine Wl.val rfl (V.gtr rfl rfl) ?_
    refine Wl.nil ?_
    refine Wx.then_n ?_
    refine Wc.cond rfl (fun hc2 => ?_) (fun hc2 => ?_)
    · skip
      try replace hc2 := of_decide_eq_true hc2
      refine Wc.seq ?_
      refine Wc.region ?_
      refine Wl.val rfl (V.assign rfl) ?_
      refine Wl.nil ?_
      refine Wx.then_n ?_
      refine Wc.ret ?_
      repeat (first | refine Wx.then_r ?_ | refine Wx.blk_r ?_ | refine Wx.ng_r ?_)
      refine Wx.ret1 rfl rfl rfl ?_
      rw [devWrite_long h0 (by omega)]; exact Ent.resC rfl
    · skip
      try replace hc2 := of_decide_eq_false hc2
      refine Wc.skip ?_
      refine Wx.then_n ?_
      refine Wc.seq ?_
      refine Wc.seq ?_
      refine Wc.region ?_
      refine Wl.val rfl (V.move rfl) ?_
      first | refine Wl.callE rfl rfl (s_sector_Dev_act d hD) ?_ | refine Wl.callD rfl rfl (s_sector_Dev_act d hD) (by first | exact Take.here | exact Take.there Take.here | exact Take.there (Take.there Take.here) | exact Take.there (Take.there (Take.there Take.here)) | exact Take.none _ | exact TakeC.t | exact Take.there (Take.there (Take.there (Take.there Take.here))) | exact Take.there (Take.there (Take.there (Take.there (Take.there Take.here)))) | exact Take.there (Take.there (Take.there (Take.there (Take.there (Take.there Take.here)))))) ?_
      refine Wl.val rfl (V.assign rfl) ?_
      refine Wl.nil ?_
      refine Wx.then_n ?_
      refine Wc.seq ?_
      refine Wc.region ?_
      refine Wl.val rfl (V.move rfl) ?_
      refine Wl.val rfl (V.neq rfl rfl) ?_
      refine Wl.nil ?_
      refine Wx.then_n ?_
      refine Wc.cond rfl (fun hc3 => ?_) (fun hc3 => ?_)
      · skip
        try replace hc3 := of_decide_eq_true hc3
        refine Wc.seq ?_
        refine Wc.region ?_
        refine Wl.val rfl (V.move rfl) ?_
        refine Wl.val rfl (V.assign rfl) ?_
        refine Wl.nil ?_
        refine Wx.then_n ?_
        refine Wc.ret ?_
        repeat (first | refine Wx.then_r ?_ | refine Wx.blk_r ?_ | refine Wx.ng_r ?_)
        refine Wx.ret1 rfl rfl rfl ?_
        rw [devWrite_act h0 (by omega) (by simpa using hc3)]; exact Ent.resC rfl
      · skip
        try replace hc3 := of_decide_eq_false hc3
        have h1 : (devAct D).2 = 0 := by simpa using hc3
        refine Wc.dev (fun rl rm => ?_)
        refine Wc.skip ?_
        refine Wx.then_n ?_
        refine Wc.seq ?_
        refine Wc.region ?_
        refine Wl.al rfl (M.alloc N_sector_sector) (fun r9 => ?_)
        refine Wl.nil ?_
        refine Wx.then_n ?_
        refine Wc.seq ?_
        refine Wc.region ?_
        refine Wl.val rfl (V.sliceA (l := 0) (h := 144) rfl U_sector_sector Z_uint8 rfl rfl rfl rfl (by decide) (by decide)) ?_
        refine Wl.val rfl (V.move rfl) ?_
        refine Wl.exo rfl (X.copy (o := 0) rfl rfl rfl U_Suint8 Z_uint8 (Src.vw U_Suint8 hw (bytesV_one _)) (Nat.min_eq_left (by omega)) (by simp; omega)) (fun v26 => ?_)
        refine Wl.pull (fun _ => ?_)
        rw [copy_pad hl (by omega)]
        refine Wl.nil ?_
        refine Wx.then_n ?_
        refine Wc.seq ?_
        refine Wc.draws 6 mixed (by kernel_rfl) (S := _) (M := emp) (Ent.empR _) ?_
        refine Wr.take [0, 1, 2, 3, 4, 5] 0 (by kernel_rfl) (by kernel_rfl) rfl rfl ?_
        refine Wt.val rfl (V.move rfl) ?_
        refine Wt.val rfl (V.nil rfl) ?_
        refine Wt.val rfl (V.fld _ rfl O_sector_Dev_1 rfl) ?_
        refine Wt.val rfl (V.ld rfl C_Mint_sector_sector rfl) ?_
        refine Wt.val rfl (V.move rfl) ?_
        refine Wt.val rfl (V.ldA (vs := bytesV (pad b)) rfl C_sector_sector (getN_all (pad_len (by omega)))) ?_
        refine Wt.nil ?_
        refine Wr.tail (by kernel_rfl) rfl ?_
        try refine Wl.ent (Ent.unemp _) ?_
        refine Wl.st (Go.Sl.S.mapSet rfl rfl rfl K_Mint_sector_sector (by first | exact Take.here | exact Take.there Take.here | exact Take.there (Take.there Take.here) | exact Take.there (Take.there (Take.there Take.here)) | exact Take.none _ | exact TakeC.t | exact Take.there (Take.there (Take.there (Take.there Take.here))) | exact Take.there (Take.there (Take.there (Take.there (Take.there Take.here)))) | exact Take.there (Take.there (Take.there (Take.there (Take.there (Take.there Take.here))))))) ?_
        refine Wl.nil ?_
        refine Wx.then_n ?_
        refine Wc.seq ?_
        refine Wc.region ?_
        refine Wl.val rfl (V.assign rfl) ?_
        refine Wl.nil ?_
        refine Wx.then_n ?_
        refine Wc.ret ?_
        repeat (first | refine Wx.then_r ?_ | refine Wx.blk_r ?_ | refine Wx.ng_r ?_)
        refine Wx.ret1 rfl rfl rfl ?_
        rw [devWrite_ok h0 (by omega) h1]
        show Ent (mapI rm (kset (amap secV (devAct D).1.pend) i (secV (pad b))) * _) _
        rw [kset_amap secV (devAct D).1.pend i (pad b)]
        exact Ent.devS (rl := rl) (rm := rm) rfl
theorem s_sector_Dev_Read (d : Nat) {D : DevM} (hD : DevOk D) (i : Int) :
  Ctr P f_sector_Dev_Read [ptr d, i64 i] (Dev d D) (fun v => ex fun b => pu (v = .tuple #[b, i64 (devRead D i).2]) * (own T_uint8 1 b (devRead D i).1.length (bytesV (devRead D i).1) * Dev d D)) := by
  refine Ctr.of_body (m := 35) fn_sector_Dev_Read rfl rfl rfl rfl rfl (fun F g => ?_)
  refine Wc.seq ?_
  refine Wc.region ?_
  refine Wl.val rfl (V.assign rfl) ?_
  refine Wl.val rfl (V.assign rfl) ?_
  refine Wl.nil ?_
  refine Wx.then_n ?_
  refine Wc.seq ?_
  refine Wc.seq ?_
  refine Wc.region ?_
  refine Wl.val rfl (V.move rfl) ?_
  refine Wl.val rfl (V.move rfl) ?_
  first | refine Wl.callE rfl rfl (s_sector_Dev_has d D i) ?_ | refine Wl.callD rfl rfl (s_sector_Dev_has d D i) (by first | exact Take.here | exact Take.there Take.here | exact Take.there (Take.there Take.here) | exact Take.there (Take.there (Take.there Take.here)) | exact Take.none _ | exact TakeC.t | exact Take.there (Take.there (Take.there (Take.there Take.here))) | exact Take.there (Take.there (Take.there (Take.there (Take.there Take.here)))) | exact Take.there (Take.there (Take.there (Take.there (Take.there (Take.there Take.here)))))) ?_
  refine Wl.val rfl (V.assign rfl) ?_
  refine Wl.nil ?_
  refine Wx.then_n ?_
  refine Wc.seq ?_
  refine Wc.region ?_
  refine Wl.val rfl (V.move rfl) ?_
  refine Wl.val rfl (V.neq rfl rfl) ?_
  refine Wl.nil ?_
  refine Wx.then_n ?_
  refine Wc.cond rfl (fun hc1 => ?_) (fun hc1 => ?_)
  · skip
    try replace hc1 := of_decide_eq_true hc1
    refine Wc.seq ?_
    refine Wc.region ?_
    refine Wl.val rfl (V.move rfl) ?_
    refine Wl.val rfl (V.assign rfl) ?_
    refine Wl.val rfl (V.assign rfl) ?_
    refine Wl.nil ?_
    refine Wx.then_n ?_
    refine Wc.ret ?_
    repeat (first | refine Wx.then_r ?_ | refine Wx.blk_r ?_ | refine Wx.ng_r ?_)
    refine Wx.ret2 rfl rfl rfl rfl ?_
    rw [devRead_has (by simpa using hc1), ex_mul]
    refine Ent.ex (.slice none 0 0) ?_
    refine Ent.trans ?_ (Ent.of_eq (sep_assoc _ _ _).symm)
    refine Ent.trans ?_ (Ent.pure rfl)
    refine Ent.trans ?_ (Ent.of_eq (sep_assoc _ _ _).symm)
    exact Ent.own_nil T_uint8 1 _
  · skip
    try replace hc1 := of_decide_eq_false hc1
    have h0 : devHas D i = 0 := by simpa using hc1
    obtain ⟨k, rfl, hk, hsec⟩ := devSec_at hD h0
    refine Wc.dev (fun rl rm => ?_)
    refine Wc.skip ?_
    refine Wx.then_n ?_
    refine Wc.seq ?_
    refine Wc.region ?_
    refine Wl.val rfl (V.move rfl) ?_
    refine Wl.val rfl (V.nil rfl) ?_
    refine Wl.val rfl (V.fld _ rfl O_sector_Dev_1 rfl) ?_
    refine Wl.val rfl (V.ld rfl C_Mint_sector_sector rfl) ?_
    refine Wl.val rfl (V.move rfl) ?_
    refine Wl.val rfl (V.lookE (v := secV ((afind D.pend k).getD (zeros 144))) (b := (afind D.pend k).isSome) rfl rfl K_Mint_sector_sector V0_sector (Take.there (Take.there Take.here)) (by rw [kfind_amap]; cases afind D.pend k <;> rfl) (by rw [kfind_amap]; cases afind D.pend k <;> rfl)) ?_
    refine Wl.val rfl (V.move rfl) ?_
    refine Wl.val rfl (V.ext rfl rfl) ?_
    refine Wl.val rfl (V.ext rfl rfl) ?_
    refine Wl.al rfl (M.alloc N_sector_sector) (fun r7 => ?_)
    refine Wl.st (Go.Sl.S.putA (vs := bytesV ((afind D.pend k).getD (zeros 144))) rfl rfl C_sector_sector (oneCells_bytes _) (by simp [hsec.2]) rfl (updN_all (by simp) (by simp [hsec.2]))) ?_
    refine Wl.val rfl (V.assign rfl) ?_
    refine Wl.nil ?_
    refine Wx.then_n ?_
    refine Wc.seq ?_
    refine Wc.seq ?_
    refine Wc.region ?_
    refine Wl.val rfl (V.move rfl) ?_
    refine Wl.val rfl (V.not rfl) ?_
    refine Wl.nil ?_
    refine Wx.then_n ?_
    refine Wc.cond rfl (fun hc2 => ?_) (fun hc2 => ?_)
    · skip
      try replace hc2 := of_decide_eq_true hc2
      have e1 : D.l[k]?.getD [] = devSec D k := by unfold devSec; cases h : afind D.pend (k : Int) with
        | none => simp
        | some s => rw [h] at hc2; cases hc2
      refine Wc.region ?_
      refine Wl.val rfl (V.move rfl) ?_
      refine Wl.val rfl (V.nil rfl) ?_
      refine Wl.val rfl (V.fld _ rfl O_sector_Dev_0 rfl) ?_
      refine Wl.val rfl (V.ld rfl C_Ssector_sector rfl) ?_
      refine Wl.val rfl (V.move rfl) ?_
      refine Wl.val rfl (V.idx (k' := k * 144) rfl rfl U_Ssector_sector Z_sector_sector (by omega) (by omega) (by simp)) ?_
      refine Wl.val rfl (V.ldA (vs := bytesV (D.l[k]?.getD [])) rfl C_sector_sector (flatV_get hD.secs (List.getElem?_eq_getElem hk) rfl |>.trans (by simp [hk]))) ?_
      refine Wl.st (Go.Sl.S.putA (vs := bytesV (D.l[k]?.getD [])) rfl rfl C_sector_sector (oneCells_bytes _) (by simp [hk, hD.secs]) rfl (updN_all (by simp [hsec.2]) (by simp [hk, hD.secs]))) ?_
      refine Wl.nil ?_
      refine Wx.then_n ?_
      refine Wc.seq ?_
      refine Wc.region ?_
      refine Wl.val rfl (V.sliceA (l := 0) (h := 144) rfl U_sector_sector Z_uint8 rfl rfl rfl rfl (by decide) (by decide)) ?_
      refine Wl.call rfl rfl (s_slices_Clone_byte (S := row r7 T_sector_sector (bytesV (D.l[k]?.getD []))) (n := 144) (bs := D.l[k]?.getD []) (Vw.row (by decide) (by decide) (by simp [hk, hD.secs]) (fun j x h => by show (bytesV _)[0 + j]? = some x; rw [Nat.zero_add]; exact h)) (by decide)) (by first | exact Take.here | exact Take.there Take.here | exact Take.there (Take.there Take.here) | exact Take.there (Take.there (Take.there Take.here)) | exact Take.none _ | exact TakeC.t | exact Take.there (Take.there (Take.there (Take.there Take.here))) | exact Take.there (Take.there (Take.there (Take.there (Take.there Take.here)))) | exact Take.there (Take.there (Take.there (Take.there (Take.there (Take.there Take.here)))))) (fun v34 => ?_)
      refine Wl.val rfl (V.assign rfl) ?_
      refine Wl.val rfl (V.assign rfl) ?_
      refine Wl.nil ?_
      refine Wx.then_n ?_
      refine Wc.ret ?_
      repeat (first | refine Wx.then_r ?_ | refine Wx.blk_r ?_ | refine Wx.ng_r ?_)
      refine Wx.ret2 rfl rfl rfl rfl ?_
      rw [devRead_ok h0, ex_mul]
      refine Ent.ex v34 ?_
      rw [e1, show 144 = (devSec D k).length from hsec.1.symm]
      exact Ent.devS' (rl := rl) (rm := rm) rfl
    · skip
      try replace hc2 := of_decide_eq_false hc2
      have e1 : (afind D.pend k).getD (zeros 144) = devSec D k := by unfold devSec; cases h : afind D.pend (k : Int) with
        | none => rw [h] at hc2; cases hc2
        | some s => rfl
      refine Wc.skip ?_
      refine Wx.then_n ?_
      refine Wc.seq ?_
      refine Wc.region ?_
      refine Wl.val rfl (V.sliceA (l := 0) (h := 144) rfl U_sector_sector Z_uint8 rfl rfl rfl rfl (by decide) (by decide)) ?_
      refine Wl.call rfl rfl (s_slices_Clone_byte (S := row r7 T_sector_sector (bytesV ((afind D.pend k).getD (zeros 144)))) (n := 144) (bs := (afind D.pend k).getD (zeros 144)) (Vw.row (by decide) (by decide) (by simp [hsec.2]) (fun j x h => by show (bytesV _)[0 + j]? = some x; rw [Nat.zero_add]; exact h)) (by decide)) (by first | exact Take.here | exact Take.there Take.here | exact Take.there (Take.there Take.here) | exact Take.there (Take.there (Take.there Take.here)) | exact Take.none _ | exact TakeC.t | exact Take.there (Take.there (Take.there (Take.there Take.here))) | exact Take.there (Take.there (Take.there (Take.there (Take.there Take.here)))) | exact Take.there (Take.there (Take.there (Take.there (Take.there (Take.there Take.here)))))) (fun v34 => ?_)
      refine Wl.val rfl (V.assign rfl) ?_
      refine Wl.val rfl (V.assign rfl) ?_
      refine Wl.nil ?_
      refine Wx.then_n ?_
      refine Wc.ret ?_
      repeat (first | refine Wx.then_r ?_ | refine Wx.blk_r ?_ | refine Wx.ng_r ?_)
      refine Wx.ret2 rfl rfl rfl rfl ?_
      rw [devRead_ok h0, ex_mul]
      refine Ent.ex v34 ?_
      rw [e1, show 144 = (devSec D k).length from hsec.1.symm]
      exact Ent.devS' (rl := rl) (rm := rm) rfl
theorem s_sector_Dev_Barrier (d : Nat) {D : DevM} (hD : DevOk D) : Ctr P f_sector_Dev_Barrier [ptr d] (Dev d D) (fun v => pu (v = i64 (devBarrier D).2) * Dev d (devBarrier D).1) := by
  refine Ctr.of_body (m := 36) fn_sector_Dev_Barrier rfl rfl rfl rfl rfl (fun F g => ?_)
  refine Wc.dev (fun rl rm => ?_)
  refine Wc.seq ?_
  refine Wc.region ?_
  refine Wl.val rfl (V.assign rfl) ?_
  refine Wl.nil ?_
  refine Wx.then_n ?_
  refine Wc.seq ?_
  refine Wc.seq ?_
  refine Wc.region ?_
  refine Wl.val rfl (V.move rfl) ?_
  refine Wl.val rfl (V.nil rfl) ?_
  refine Wl.val rfl (V.fld _ rfl O_sector_Dev_2 rfl) ?_
  refine Wl.val rfl (V.ld rfl C_bool rfl) ?_
  refine Wl.nil ?_
  refine Wx.then_n ?_
  refine Wc.cond rfl (fun hc1 => ?_) (fun hc1 => ?_)
  · skip
    try replace hc1 := of_decide_eq_true hc1
    refine Wc.seq ?_
    refine Wc.region ?_
    refine Wl.val rfl (V.assign rfl) ?_
    refine Wl.nil ?_
    refine Wx.then_n ?_
    refine Wc.ret ?_
    repeat (first | refine Wx.then_r ?_ | refine Wx.blk_r ?_ | refine Wx.ng_r ?_)
    refine Wx.ret1 rfl rfl rfl ?_
    rw [devBarrier_dead hc1]; exact Ent.dev (rl := rl) (rm := rm) rfl
  · skip
    try replace hc1 := of_decide_eq_false hc1
    refine Wc.ent (Ent.trans Ent.auto ((Dev.intro d rl rm D).frame F)) ?_
    refine Wc.skip ?_
    refine Wx.then_n ?_
    refine Wc.seq ?_
    refine Wc.seq ?_
    refine Wc.region ?_
    refine Wl.val rfl (V.move rfl) ?_
    first | refine Wl.callE rfl rfl (s_sector_Dev_act d hD) ?_ | refine Wl.callD rfl rfl (s_sector_Dev_act d hD) (by first | exact Take.here | exact Take.there Take.here | exact Take.there (Take.there Take.here) | exact Take.there (Take.there (Take.there Take.here)) | exact Take.none _ | exact TakeC.t | exact Take.there (Take.there (Take.there (Take.there Take.here))) | exact Take.there (Take.there (Take.there (Take.there (Take.there Take.here)))) | exact Take.there (Take.there (Take.there (Take.there (Take.there (Take.there Take.here)))))) ?_
    refine Wl.val rfl (V.assign rfl) ?_
    refine Wl.nil ?_
    refine Wx.then_n ?_
    refine Wc.seq ?_
    refine Wc.region ?_
    refine Wl.val rfl (V.move rfl) ?_
    refine Wl.val rfl (V.neq rfl rfl) ?_
    refine Wl.nil ?_
    refine Wx.then_n ?_
    refine Wc.cond rfl (fun hc2 => ?_) (fun hc2 => ?_)
    · skip
      try replace hc2 := of_decide_eq_true hc2
      refine Wc.seq ?_
      refine Wc.region ?_
      refine Wl.val rfl (V.move rfl) ?_
      refine Wl.val rfl (V.assign rfl) ?_
      refine Wl.nil ?_
      refine Wx.then_n ?_
      refine Wc.ret ?_
      repeat (first | refine Wx.then_r ?_ | refine Wx.blk_r ?_ | refine Wx.ng_r ?_)
      refine Wx.ret1 rfl rfl rfl ?_
      rw [devBarrier_act hc1 (by simpa using hc2)]; exact Ent.resF rfl
    · skip
      try replace hc2 := of_decide_eq_false hc2
      have h1 : (devAct D).2 = 0 := by simpa using hc2
      have hOk := hD.act
      rw [devBarrier_ok hc1 h1]
      generalize (devAct D).1 = D' at hOk
      refine Wc.dev (fun rl rm => ?_)
      refine Wc.know (fun g w s => mapI_nodup (s.ent (Ent.auto (G := mapI rm (amap secV D'.pend) * emp)))) (fun hnd => ?_)
      refine Wc.skip ?_
      refine Wx.then_n ?_
      refine Wc.seq ?_
      refine Wc.seq ?_
      refine Wc.region ?_
      refine Wl.val rfl (V.move rfl) ?_
      refine Wl.val rfl (V.nil rfl) ?_
      refine Wl.val rfl (V.fld _ rfl O_sector_Dev_1 rfl) ?_
      refine Wl.val rfl (V.ld rfl C_Mint_sector_sector rfl) ?_
      refine Wl.al rfl (M.range rfl U_Mint_sector_sector (Take.there (Take.there Take.here))) (fun r19 => ?_)
      refine Wl.nil ?_
      refine Wx.then_n ?_
      refine Wc.block ?_
      refine Wc.loop (α := List (Int × Value) × List (List UInt8) × Option (Int × Value)) (fun x => x.1.length) (fun x => pu (BarI D' x.2.1 x.1) * (rng rm r19 (amap secV D'.pend) x.1 x.2.2 * (row d T_sector_Dev [devL D'.l.length rl, .map (some rm), .bool D'.dead, i64 D'.fuse] * (row rl T_sector_sector (flatV x.2.1) * F)))) (fun x => [(0, ptr d), (19, ptr r19)]) (amap secV D'.pend, D'.l, none) (by exact Ent.pure (BarI.start hOk hnd)) (by repeat (first | exact trivial | refine ⟨rfl, ?_⟩)) (fun x => ?_)
      obtain ⟨left, l, cur⟩ := x
      refine Wc.pu (fun hB => ?_)
      have hB : BarI D' l left := hB
      dsimp only
      refine Wc.seq ?_
      refine Wc.region ?_
      refine Wl.next rfl rfl rfl (by first | exact Take.here | exact Take.there Take.here | exact Take.there (Take.there Take.here) | exact Take.there (Take.there (Take.there Take.here)) | exact Take.none _ | exact TakeC.t | exact Take.there (Take.there (Take.there (Take.there Take.here))) | exact Take.there (Take.there (Take.there (Take.there (Take.there Take.here)))) | exact Take.there (Take.there (Take.there (Take.there (Take.there (Take.there Take.here)))))) (fun v20 => ?_)
      refine Wl.nil ?_
      refine Wx.then_n ?_
      refine Wc.seq ?_
      refine Wc.cond rfl (fun hc3 => ?_) (fun hc3 => ?_)
      · skip
        try replace hc3 := of_decide_eq_true hc3
        have hne : left ≠ [] := by rintro rfl; cases hc3
        rw [nextHP_cons hne]
        refine Wc.exm (fun y => ?_)
        refine Wc.pull (fun hy => ?_)
        obtain ⟨a, p, b⟩ := y
        dsimp only at hy
        subst hy
        dsimp only
        obtain ⟨k, s, rfl, hk, hs, hB2⟩ := hB.step hOk hnd
        have hlen := hB.len
        refine Wc.skip ?_
        refine Wx.then_n ?_
        refine Wc.block ?_
        refine Wc.seq ?_
        refine Wc.region ?_
        refine Wl.val rfl (V.entry rfl (by first | exact Take.here | exact Take.there Take.here | exact Take.there (Take.there Take.here) | exact Take.there (Take.there (Take.there Take.here)) | exact Take.none _ | exact TakeC.t | exact Take.there (Take.there (Take.there (Take.there Take.here))) | exact Take.there (Take.there (Take.there (Take.there (Take.there Take.here)))) | exact Take.there (Take.there (Take.there (Take.there (Take.there (Take.there Take.here))))))) ?_
        refine Wl.val rfl (V.ext rfl rfl) ?_
        refine Wl.val rfl (V.ext rfl rfl) ?_
        refine Wl.al rfl (M.alloc N_sector_sector) (fun r5 => ?_)
        refine Wl.val rfl (V.assign rfl) ?_
        refine Wl.st (Go.Sl.S.putA (vs := bytesV s) rfl rfl C_sector_sector (oneCells_bytes _) (by simp [hs]) rfl (updN_all (by simp) (by simp [hs]))) ?_
        refine Wl.nil ?_
        refine Wx.then_n ?_
        refine Wc.draws 7 mixed (by kernel_rfl) (S := _) (M := emp) (Ent.empR _) ?_
        refine Wr.take [0, 1, 2, 3, 4, 5, 6] 0 (by kernel_rfl) (by kernel_rfl) rfl rfl ?_
        refine Wt.val rfl (V.move rfl) ?_
        refine Wt.val rfl (V.nil rfl) ?_
        refine Wt.val rfl (V.fld _ rfl O_sector_Dev_0 rfl) ?_
        refine Wt.val rfl (V.ld rfl C_Ssector_sector rfl) ?_
        refine Wt.val rfl (V.move rfl) ?_
        refine Wt.val rfl (V.ldA (vs := bytesV s) rfl C_sector_sector (getN_all hs)) ?_
        refine Wt.val rfl (V.idx (k' := k * 144) rfl rfl U_Ssector_sector Z_sector_sector (by omega) (by omega) (by simp)) ?_
        refine Wt.nil ?_
        refine Wr.tail (by kernel_rfl) rfl ?_
        try refine Wl.ent (Ent.unemp _) ?_
        refine Wl.st (Go.Sl.S.putA (vs := bytesV s) rfl rfl C_sector_sector (oneCells_bytes _) (by simp [hs]) rfl (flatV_set hB.secs hk hs rfl)) ?_
        refine Wl.nil ?_
        refine Wx.blk_n ?_
        refine Wx.again (a ++ b, l.set k s, some ((k : Int), secV s)) (by exact (by show (a ++ b).length < (a ++ ((k : Int), secV s) :: b).length; simp)) (by exact Ent.puC hB2) (by repeat (first | exact trivial | refine ⟨rfl, ?_⟩))
      · skip
        try replace hc3 := of_decide_eq_false hc3
        obtain rfl : left = [] := by cases left with
          | nil => rfl
          | cons => cases hc3
        rw [nextHP_nil]
        refine Wc.ent (Ent.rng_map _ _ _ _ _ _) ?_
        have hl := hB.done
        have hlen := hB.len
        refine Wc.exit ?_
        refine Wx.then_x ?_
        refine Wx.then_x ?_
        refine Wx.blk_x ?_
        refine Wx.then_n ?_
        refine Wc.seq ?_
        refine Wc.region ?_
        refine Wl.val rfl (V.move rfl) ?_
        refine Wl.val rfl (V.nil rfl) ?_
        refine Wl.val rfl (V.fld _ rfl O_sector_Dev_1 rfl) ?_
        refine Wl.val rfl (V.ld rfl C_Mint_sector_sector rfl) ?_
        refine Wl.exo0 (X.clear rfl U_Mint_sector_sector rfl Take.here) (fun v => ?_)
        refine Wl.nil ?_
        refine Wx.then_n ?_
        refine Wc.seq ?_
        refine Wc.region ?_
        refine Wl.val rfl (V.assign rfl) ?_
        refine Wl.nil ?_
        refine Wx.then_n ?_
        refine Wc.ret ?_
        repeat (first | refine Wx.then_r ?_ | refine Wx.blk_r ?_ | refine Wx.ng_r ?_)
        refine Wx.ret1 rfl rfl rfl ?_
        subst hl
        rw [← hlen]
        exact Ent.res rfl (Ent.trans (Ent.auto (G := row d T_sector_Dev [devL (applyAll D'.l D'.pend).length rl, .map (some rm), .bool D'.dead, i64 D'.fuse] * (row rl T_sector_sector (flatV (applyAll D'.l D'.pend)) * mapI rm []) * F)) ((Dev.intro d rl rm { D' with l := applyAll D'.l D'.pend, pend := [] }).frame F))
end Go.Proofs.YtjfacgmobpbhcaaGreat
