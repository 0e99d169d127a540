/- Part 2: what the proof of the law rests on: the walks of the functions that it calls, and the plain laws of what they compute. -/
import Derived.Test.YtjfacgmobpbhcaaGreatBs1
import Derived.Test.YtjfacgmobpbhcaaGreatProg
import Derived.KernelRfl
/- Own layer, 15: structs and arrays that are compared. -/
namespace Go.Sl
structure Part (P : Program) (t : TypeId) (l : List Value) (off : Nat) (v : Value) : Prop where
  run : ∀ w, (part t l.toArray off).run P w = .ok v w
section
variable {P : Program}
theorem Part.s {t : TypeId} {l : List Value} {off : Nat} {v : Value} (hs : Scal P t) (hv : l[off]? = some v) : Part P t l off v := ⟨fun w => by simp [part, hs.agg, hv]⟩
theorem Part.a {t : TypeId} {l vs : List Value} {off n : Nat} (hs : Aggr P t n) (hv : getN l off n = some vs) : Part P t l off (.agg vs.toArray) := ⟨fun w => by
  obtain ⟨e1, e2⟩ := getN_spec n l off vs hv
  have e3 : l.toArray.extract off (off + n) = vs.toArray := by
    apply Array.ext_getElem?
    intro j
    rw [Array.getElem?_extract]
    by_cases hj : j < vs.length
    · have := e2 j vs[j] (by simp [hj])
      have hlt : off + j < l.length := (List.getElem?_eq_some_iff.1 this).1
      simp only [List.size_toArray]
      rw [if_pos (by omega)]
      simp [this, hj]
    · rw [if_neg (by simp only [List.size_toArray]; omega)]
      simp [List.getElem?_eq_none (show vs.length ≤ j by omega)]
  simp only [part, Sem.run_bind, hs.agg, hs.size, e3, Result.andThen_ok, Sem.run_pure, if_true]⟩
/-- Two values of a type are compared. -/
structure EqV (P : Program) (m : Nat) (t : TypeId) (x y : Value) (b : Bool) : Prop where
  run : ∀ d w, (Op.equalIn (d + m) t x y).run P w = .ok b w
structure EqF (P : Program) (m : Nat) (fs : List Field) (xs ys : List Value) (b : Bool) : Prop where
  run : ∀ d w, (Op.eqFields (d + m) xs.toArray ys.toArray fs).run P w = .ok b w
structure EqI (P : Program) (m : Nat) (t : TypeId) (c : Nat) (xs ys : List Value) (is : List Nat) (b : Bool) : Prop where
  run : ∀ d w, (Op.eqItems (d + m) t c xs.toArray ys.toArray is).run P w = .ok b w
theorem EqV.int {t : TypeId} {k : IntKind} {m : Nat} {a b : Int} (h : P.underlying t = some (.int k)) : EqV P (m + 1) t (.int k a) (.int k b) (decide (a = b)) := ⟨fun d w => by
  rw [show d + (m + 1) = (d + m) + 1 from rfl]
  simp only [Op.equalIn, Sem.run_bind, run_underlying h, Result.andThen_ok, if_true]; rfl⟩
theorem EqV.bool {t : TypeId} {m : Nat} {a b : Bool} (h : P.underlying t = some .bool) : EqV P (m + 1) t (.bool a) (.bool b) (decide (a = b)) := ⟨fun d w => by
  rw [show d + (m + 1) = (d + m) + 1 from rfl]
  simp only [Op.equalIn, Sem.run_bind, run_underlying h, Result.andThen_ok]; cases a <;> cases b <;> rfl⟩
theorem EqV.str {t : TypeId} {m : Nat} {a b : List UInt8} (h : P.underlying t = some .string) : EqV P (m + 1) t (.string ⟨a.toArray⟩) (.string ⟨b.toArray⟩) (decide (a = b)) := ⟨fun d w => by
  rw [show d + (m + 1) = (d + m) + 1 from rfl]
  have : ((⟨a.toArray⟩ : ByteArray) == ⟨b.toArray⟩) = decide (a = b) := by
    rw [beq_toListBytes, ByteArray.toList_eq, ByteArray.toList_eq, Bool.eq_iff_iff]; simp
  simp only [Op.equalIn, Sem.run_bind, run_underlying h, Result.andThen_ok, this]; rfl⟩
theorem EqV.struct {t : TypeId} {fs : List Field} {m : Nat} {xs ys : List Value} {b : Bool} (hu : P.underlying t = some (.struct fs.toArray)) (hst : P.stoodInHeld t = false) (h : EqF P m fs xs ys b) : EqV P (m + 1) t (.agg xs.toArray) (.agg ys.toArray) b := ⟨fun d w => by
  have hf : P.fieldsOf t = fs.toArray := by simp [Program.fieldsOf, hu]
  rw [show d + (m + 1) = (d + m) + 1 from rfl, run_equalIn_struct w (d + m) t xs.toArray ys.toArray (by rw [hf]; exact hu) hst, hf]
  simpa using h.run d w⟩
theorem EqF.nil {m : Nat} {xs ys : List Value} : EqF P m [] xs ys true := ⟨fun d w => by simp [Op.eqFields]⟩
theorem EqF.cons {m : Nat} {f : Field} {fs : List Field} {xs ys : List Value} {x y : Value} {a b : Bool} (hn : (f.name == "_") = false) (h1 : Part P f.type xs f.offset x) (h2 : Part P f.type ys f.offset y) (h3 : EqV P m f.type x y a) (h4 : EqF P m fs xs ys b) : EqF P m (f :: fs) xs ys (a && b) := ⟨fun d w => by
  have hn' : f.name ≠ "_" := by simpa using hn
  simp only [Op.eqFields, hn', ne_eq, not_false_eq_true, if_true, Sem.run_bind, h1.run, h2.run, h3.run, Result.andThen_ok]
  cases a
  · simp
  · simpa using h4.run d w⟩
theorem EqI.nil {m c : Nat} {t : TypeId} {xs ys : List Value} : EqI P m t c xs ys [] true := ⟨fun d w => by simp [Op.eqItems]⟩
theorem EqI.cons {m c i : Nat} {t : TypeId} {is : List Nat} {xs ys : List Value} {x y : Value} {a b : Bool} (h1 : Part P t xs (i * c) x) (h2 : Part P t ys (i * c) y) (h3 : EqV P m t x y a) (h4 : EqI P m t c xs ys is b) : EqI P m t c xs ys (i :: is) (a && b) := ⟨fun d w => by
  simp only [Op.eqItems, Sem.run_bind, h1.run, h2.run, h3.run, Result.andThen_ok]
  cases a
  · simp
  · simpa using h4.run d w⟩
theorem EqV.arr {t el : TypeId} {n c m : Nat} {xs ys : List Value} {b : Bool} (hu : P.underlying t = some (.array n el)) (hs : Size P el c) (h : EqI P m el c xs ys (List.range n) b) : EqV P (m + 1) t (.agg xs.toArray) (.agg ys.toArray) b := ⟨fun d w => by
  obtain ⟨i, hi⟩ : ∃ i, P.info? el = some i := by
    cases hi : P.info? el with
    | some i => exact ⟨i, rfl⟩
    | none => have := hs.size w; simp [sizeOf, typeInfo, hi] at this
  have hc : P.cellsOf el = c := by
    have := hs.size w
    simp [sizeOf, typeInfo, hi] at this
    simp [Program.cellsOf, hi, this]
  rw [show d + (m + 1) = (d + m) + 1 from rfl, run_equalIn_array w (d + m) xs.toArray ys.toArray hu hi, hc]
  exact h.run d w⟩
end
variable {H : HP} {e : Env} {op : Op} {ty : TypeId} {pos : String} {af : Array Edge} {v u : Value} {P : Program} {dst : Option Tmp} {gd : Option (Nat × Bool)}
theorem V.eqlV {x y : Operand} {t t' : TypeId} {m : Nat} {b : Bool} (hx : ev e x = some v) (hy : ev e y = some u) (ha : (∃ l, v = .agg l) ∧ ∃ l, u = .agg l) (hm : Nat.ble m 100 = true) (hgd : P.eqGuardType P.depth t = false) (h : EqV P m t v u b) : ValOp P H e ⟨dst, .binOp .eql t x y t', ty, pos, af, gd⟩ (.bool b) :=
  ⟨fun ρ hr g w s => by
    obtain ⟨⟨l, rfl⟩, l', rfl⟩ := ha
    have hm' : m ≤ 100 := Nat.le_of_ble_eq_true hm
    have := h.run (10000 - m) w
    rw [show 10000 - m + m = 10000 by omega] at this
    simp [execOp, hr x _ hx, hr y _ hy, eqGuard, hgd, binOp, Op.equal, Op.maxDepth, this]⟩
theorem V.neqV {x y : Operand} {t t' : TypeId} {m : Nat} {b : Bool} (hx : ev e x = some v) (hy : ev e y = some u) (ha : (∃ l, v = .agg l) ∧ ∃ l, u = .agg l) (hm : Nat.ble m 100 = true) (hgd : P.eqGuardType P.depth t = false) (h : EqV P m t v u b) : ValOp P H e ⟨dst, .binOp .neq t x y t', ty, pos, af, gd⟩ (.bool (!b)) :=
  ⟨fun ρ hr g w s => by
    obtain ⟨⟨l, rfl⟩, l', rfl⟩ := ha
    have hm' : m ≤ 100 := Nat.le_of_ble_eq_true hm
    have := h.run (10000 - m) w
    rw [show 10000 - m + m = 10000 by omega] at this
    simp [execOp, hr x _ hx, hr y _ hy, eqGuard, hgd, binOp, Op.equal, Op.maxDepth, this]⟩
theorem lookB {e : Env} {t : Nat} {b c : Bool} (h1 : look e t = some (.bool b)) (h2 : b = c) : look e t = some (.bool c) := h2 ▸ h1
theorem lookV {e : Env} {t : Nat} {b c : Value} (h1 : look e t = some b) (h2 : b = c) : look e t = some c := h2 ▸ h1
theorem V.neNilF {x : Operand} {t t' : TypeId} (hx : ev e x = some .nilIface) (ht : ∃ ms, P.underlying t = some (.interface ms)) : ValOp P H e ⟨dst, .binOp .neq t x (.const .nilIface) t', ty, pos, af, gd⟩ (.bool false) :=
  ⟨fun ρ h g w s => by
    obtain ⟨ms, ht⟩ := ht
    have h2 : ρ (.const .nilIface) = .nilIface := h _ _ rfl
    have h3 : (Op.equalIn Op.maxDepth t .nilIface .nilIface).run P w = .ok true w := by
      obtain ⟨k, hk⟩ : ∃ k, Op.maxDepth = k + 1 := ⟨9999, rfl⟩
      rw [hk]
      simp only [Op.equalIn, Sem.run_bind, run_underlying ht, Result.andThen_ok, Sem.run_pure]
    simp [execOp, h x _ hx, h2, eqGuard, binOp, Op.equal, h3]⟩
theorem V.neNilT {x : Operand} {t t' r : TypeId} (hx : ev e x = some (.iface r v)) (ht : ∃ ms, P.underlying t = some (.interface ms)) : ValOp P H e ⟨dst, .binOp .neq t x (.const .nilIface) t', ty, pos, af, gd⟩ (.bool true) :=
  ⟨fun ρ h g w s => by
    obtain ⟨ms, ht⟩ := ht
    have h2 : ρ (.const .nilIface) = .nilIface := h _ _ rfl
    have h3 : (Op.equalIn Op.maxDepth t (.iface r v) .nilIface).run P w = .ok false w := by
      obtain ⟨k, hk⟩ : ∃ k, Op.maxDepth = k + 1 := ⟨9999, rfl⟩
      rw [hk]
      simp only [Op.equalIn, Sem.run_bind, run_underlying ht, Result.andThen_ok, Sem.run_pure]
    simp [execOp, h x _ hx, h2, eqGuard, binOp, Op.equal, h3]⟩
theorem cellsL_one {v : Value} (h : v.oneCell' = true) : cellsL v = [v] := by cases v <;> first | rfl | (simp [Value.oneCell'] at h)
end Go.Sl
/- Own layer, 16: calls that are guarded in regions that draw their order. -/
namespace Go.Sl
variable {C : Cx} {H H' S M A B F G : HP} {e e' : Env} {Q : Post} {ops : Array Oper} {rest : List Oper} {n f : Nat} {listed : Array Bool}
variable {d : Tmp} {op : Op} {ty : TypeId} {pos : String} {af : Array Edge} {v u : Value} {P : Program} {dst : Option Tmp} {gd : Option (Nat × Bool)}
theorem wm_stepG {i j t : Nat} {b : Bool} {rs : List Nat} {ι : Type} {vr : ι → Value} {N : ι → HP} (hi : ops[i]? = some ⟨some d, op, ty, pos, af, some (j, b)⟩) (hj : ((ops[j]?).bind (·.dst)) = some t) (ht : look e t = some (.bool b)) (hin : Nat.blt i n = true)
    (h : ∀ a, Fits a C.n C.ds e → GrowP C.P C.g S (PanZ C Q) ⟨some d, op, ty, pos, af, some (j, b)⟩ a M vr N) (hd : Nat.blt d C.n = true)
    (k : ∀ x, Wr C S (N x) ((d, vr x) :: e) ops n (listed.setIfInBounds i true) f Q) (ks : Wm C S M e ops n listed f Q rs) : Wm C S M e ops n listed f Q (i :: rs) :=
  ⟨fun a fi inv k' hk hr => by
    rcases List.mem_cons.1 hk with rfl | hk
    · have hin' : k' < n := Nat.le_of_ble_eq_true hin
      refine ⟨hin', ?_⟩
      unfold opP
      simp only [hi]
      rw [if_pos (wanted_T fi hj ht)]
      exact .inr ⟨_, vr, N, h a fi, fun x => (k x).run _ (fi.put hd _) (inv.set hr hin')⟩
    · exact ks.run a fi inv k' hk hr⟩
theorem Wm.callMG {ι : Type} {i j t : Nat} {b : Bool} {rs : List Nat} {vr : ι → Value} {B : ι → HP} {g : FuncId} {xs : List Operand} {vs : List Value} {ts : Array TypeId} (hi : ops[i]? = some ⟨some d, .call ⟨.value (.func g), xs.toArray, ts⟩, ty, pos, af, some (j, b)⟩) (hj : ((ops[j]?).bind (·.dst)) = some t) (hb : look e t = some (.bool b)) (hin : Nat.blt i n = true) (hd : Nat.blt d C.n = true)
    (hx : evs e xs = some vs) (hs : Ctr C.P g vs A (fun v => ex fun x => pu (v = vr x) * B x)) (ht : Take A M F) (k : ∀ x, Wr C S (B x * F) ((d, vr x) :: e) ops n (listed.setIfInBounds i true) f Q) (ks : Wm C S M e ops n listed f Q rs) : Wm C S M e ops n listed f Q (i :: rs) :=
  wm_stepG (N := fun x => B x * F) hi hj hb hin (fun a fi w s => by
    rw [run_call hs fi.agrees hx w]
    replace s := s.ent ((ht.to.framel S).trans (Ent.of_eq (sep_left_comm _ _ _)))
    refine (hs.calls (S * F) C.g w s).mono fun e w' ⟨v, he, s'⟩ => ?_
    rw [ex_mul] at s'
    obtain ⟨x, s'⟩ := s'.exE
    rw [sep_assoc] at s'
    obtain ⟨hv, s2⟩ := s'.pure
    exact .inl ⟨x, hv ▸ he, by rw [sep_left_comm]; exact s2⟩) hd k ks
/-- What is guarded against is passed over. -/
theorem Wm.gF {i j t : Nat} {b : Bool} {rs : List Nat} (hi : ops[i]? = some ⟨some d, op, ty, pos, af, some (j, b)⟩) (hj : ((ops[j]?).bind (·.dst)) = some t) (ht : look e t = some (.bool (!b))) (hin : Nat.blt i n = true) (hd : Nat.blt d C.n = true)
    (k : Wr C S M ((d, undef) :: e) ops n (listed.setIfInBounds i true) f Q) (ks : Wm C S M e ops n listed f Q rs) : Wm C S M e ops n listed f Q (i :: rs) :=
  ⟨fun a fi inv k' hk hr => by
    rcases List.mem_cons.1 hk with rfl | hk
    · have hin' : k' < n := Nat.le_of_ble_eq_true hin
      refine ⟨hin', ?_⟩
      unfold opP
      simp only [hi]
      rw [if_neg (by rw [wanted_F fi hj ht]; decide)]
      exact k.run _ (fi.put hd _) (inv.set hr hin')
    · exact ks.run a fi inv k' hk hr⟩
end Go.Sl

/- PRINTED: this seat's names and facts on its types. -/
namespace Go.Proofs.YtjfacgmobpbhcaaGreat
open Go.Sl
noncomputable abbrev P : Program := Tryz.prog

/- seisin/seisinlaw09.CacheErrors -/
abbrev f_law09_CacheErrors : Nat := 3
theorem fn_law09_CacheErrors : P.funcs[f_law09_CacheErrors]? = some Tryz.f3 := Tryz.func3
/- seisin/seisinlaw09.CacheAnew -/
abbrev f_law09_CacheAnew : Nat := 4
theorem fn_law09_CacheAnew : P.funcs[f_law09_CacheAnew]? = some Tryz.f4 := Tryz.func4
/- seisin/seisinlaw09.CacheRises -/
abbrev f_law09_CacheRises : Nat := 5
theorem fn_law09_CacheRises : P.funcs[f_law09_CacheRises]? = some Tryz.f5 := Tryz.func5
/- seisin/seisinlaw09.CacheApart -/
abbrev f_law09_CacheApart : Nat := 6
theorem fn_law09_CacheApart : P.funcs[f_law09_CacheApart]? = some Tryz.f6 := Tryz.func6
/- seisin/seisinlaw09.CacheReset -/
abbrev f_law09_CacheReset : Nat := 7
theorem fn_law09_CacheReset : P.funcs[f_law09_CacheReset]? = some Tryz.f7 := Tryz.func7
/- seisin/seisinlaw09.CacheKeeps -/
abbrev f_law09_CacheKeeps : Nat := 8
theorem fn_law09_CacheKeeps : P.funcs[f_law09_CacheKeeps]? = some Tryz.f8 := Tryz.func8
/- seisin/seisinlaw09.awake -/
abbrev f_law09_awake : Nat := 9
theorem fn_law09_awake : P.funcs[f_law09_awake]? = some Tryz.f9 := Tryz.func9
/- seisin/seisinlaw09.open -/
abbrev f_law09_open : Nat := 10
theorem fn_law09_open : P.funcs[f_law09_open]? = some Tryz.f10 := Tryz.func10
/- seisin/seisinlaw09.large -/
abbrev f_law09_large : Nat := 11
theorem fn_law09_large : P.funcs[f_law09_large]? = some Tryz.f11 := Tryz.func11
/- seisin/seisinlaw09.told -/
abbrev f_law09_told : Nat := 12
theorem fn_law09_told : P.funcs[f_law09_told]? = some Tryz.f12 := Tryz.func12
/- seisin/seisinlaw09.do -/
abbrev f_law09_do : Nat := 13
theorem fn_law09_do : P.funcs[f_law09_do]? = some Tryz.f13 := Tryz.func13
/- seisin/seisinlaw09.alike -/
abbrev f_law09_alike : Nat := 14
theorem fn_law09_alike : P.funcs[f_law09_alike]? = some Tryz.f14 := Tryz.func14
/- seisin/cache.Open -/
abbrev f_cache_Open : Nat := 15
theorem fn_cache_Open : P.funcs[f_cache_Open]? = some Tryz.f15 := Tryz.func15
/- seisin/seisinref09.Above -/
abbrev f_ref09_Above : Nat := 16
theorem fn_ref09_Above : P.funcs[f_ref09_Above]? = some Tryz.f16 := Tryz.func16
/- (*seisin/cache.Cache).All -/
abbrev f_cache_Cache_All : Nat := 17
theorem fn_cache_Cache_All : P.funcs[f_cache_Cache_All]? = some Tryz.f17 := Tryz.func17
/- (*seisin/cache.Cache).Get -/
abbrev f_cache_Cache_Get : Nat := 18
theorem fn_cache_Cache_Get : P.funcs[f_cache_Cache_Get]? = some Tryz.f18 := Tryz.func18
/- (*seisin/cache.Cache).Room -/
abbrev f_cache_Cache_Room : Nat := 19
theorem fn_cache_Cache_Room : P.funcs[f_cache_Cache_Room]? = some Tryz.f19 := Tryz.func19
/- (*seisin/cache.Cache).Reset -/
abbrev f_cache_Cache_Reset : Nat := 20
theorem fn_cache_Cache_Reset : P.funcs[f_cache_Cache_Reset]? = some Tryz.f20 := Tryz.func20
/- seisin/seisinlaw09.same -/
abbrev f_law09_same : Nat := 21
theorem fn_law09_same : P.funcs[f_law09_same]? = some Tryz.f21 := Tryz.func21
/- (*seisin/cache.Cache).Note -/
abbrev f_cache_Cache_Note : Nat := 22
theorem fn_cache_Cache_Note : P.funcs[f_cache_Cache_Note]? = some Tryz.f22 := Tryz.func22
/- (*seisin/sector.Dev).Fuse -/
abbrev f_sector_Dev_Fuse : Nat := 23
theorem fn_sector_Dev_Fuse : P.funcs[f_sector_Dev_Fuse]? = some Tryz.f23 := Tryz.func23
/- (*seisin/sector.Dev).Crash -/
abbrev f_sector_Dev_Crash : Nat := 24
theorem fn_sector_Dev_Crash : P.funcs[f_sector_Dev_Crash]? = some Tryz.f24 := Tryz.func24
/- seisin/seisinlaw09.full -/
abbrev f_law09_full : Nat := 25
theorem fn_law09_full : P.funcs[f_law09_full]? = some Tryz.f25 := Tryz.func25
/- seisin/seisinlaw09.without -/
abbrev f_law09_without : Nat := 26
theorem fn_law09_without : P.funcs[f_law09_without]? = some Tryz.f26 := Tryz.func26
/- seisin/sector.New -/
abbrev f_sector_New : Nat := 27
theorem fn_sector_New : P.funcs[f_sector_New]? = some Tryz.f27 := Tryz.func27
/- seisin/seisinlaw09.awake$1 -/
abbrev f_law09_awake_1 : Nat := 28
theorem fn_law09_awake_1 : P.funcs[f_law09_awake_1]? = some Tryz.f28 := Tryz.func28
/- (*seisin/cache.Cache).Put -/
abbrev f_cache_Cache_Put : Nat := 29
theorem fn_cache_Cache_Put : P.funcs[f_cache_Cache_Put]? = some Tryz.f29 := Tryz.func29
/- (*seisin/cache.Cache).Clean -/
abbrev f_cache_Cache_Clean : Nat := 30
theorem fn_cache_Cache_Clean : P.funcs[f_cache_Cache_Clean]? = some Tryz.f30 := Tryz.func30
/- (*seisin/cache.Cache).Sync -/
abbrev f_cache_Cache_Sync : Nat := 31
theorem fn_cache_Cache_Sync : P.funcs[f_cache_Cache_Sync]? = some Tryz.f31 := Tryz.func31
/- (*seisin/cache.Cache).Last -/
abbrev f_cache_Cache_Last : Nat := 32
theorem fn_cache_Cache_Last : P.funcs[f_cache_Cache_Last]? = some Tryz.f32 := Tryz.func32
/- (*seisin/cache.Cache).Number -/
abbrev f_cache_Cache_Number : Nat := 33
theorem fn_cache_Cache_Number : P.funcs[f_cache_Cache_Number]? = some Tryz.f33 := Tryz.func33
/- (*seisin/cache.Cache).Drop -/
abbrev f_cache_Cache_Drop : Nat := 34
theorem fn_cache_Cache_Drop : P.funcs[f_cache_Cache_Drop]? = some Tryz.f34 := Tryz.func34
/- seisin/log.Open -/
abbrev f_log_Open : Nat := 35
theorem fn_log_Open : P.funcs[f_log_Open]? = some Tryz.f35 := Tryz.func35
/- (*seisin/log.Log).Records -/
abbrev f_log_Log_Records : Nat := 36
theorem fn_log_Log_Records : P.funcs[f_log_Log_Records]? = some Tryz.f36 := Tryz.func36
/- (*seisin/cache.Cache).read -/
abbrev f_cache_Cache_read : Nat := 37
theorem fn_cache_Cache_read : P.funcs[f_cache_Cache_read]? = some Tryz.f37 := Tryz.func37
/- (*seisin/cache.Cache).does -/
abbrev f_cache_Cache_does : Nat := 38
theorem fn_cache_Cache_does : P.funcs[f_cache_Cache_does]? = some Tryz.f38 := Tryz.func38
/- (*seisin/log.Log).Head -/
abbrev f_log_Log_Head : Nat := 39
theorem fn_log_Log_Head : P.funcs[f_log_Log_Head]? = some Tryz.f39 := Tryz.func39
/- seisin/cache.wrong -/
abbrev f_cache_wrong : Nat := 40
theorem fn_cache_wrong : P.funcs[f_cache_wrong]? = some Tryz.f40 := Tryz.func40
/- (*seisin/cache.Cache).come -/
abbrev f_cache_Cache_come : Nat := 41
theorem fn_cache_Cache_come : P.funcs[f_cache_Cache_come]? = some Tryz.f41 := Tryz.func41
/- seisin/cache.above -/
abbrev f_cache_above : Nat := 42
theorem fn_cache_above : P.funcs[f_cache_above]? = some Tryz.f42 := Tryz.func42
/- (*seisin/sector.Dev).Pending -/
abbrev f_sector_Dev_Pending : Nat := 43
theorem fn_sector_Dev_Pending : P.funcs[f_sector_Dev_Pending]? = some Tryz.f43 := Tryz.func43
/- (*seisin/sector.Dev).up -/
abbrev f_sector_Dev_up : Nat := 44
theorem fn_sector_Dev_up : P.funcs[f_sector_Dev_up]? = some Tryz.f44 := Tryz.func44
/- (*seisin/cache.Cache).in -/
abbrev f_cache_Cache_in : Nat := 45
theorem fn_cache_Cache_in : P.funcs[f_cache_Cache_in]? = some Tryz.f45 := Tryz.func45
/- seisin/cache.may -/
abbrev f_cache_may : Nat := 46
theorem fn_cache_may : P.funcs[f_cache_may]? = some Tryz.f46 := Tryz.func46
/- seisin/cache.within -/
abbrev f_cache_within : Nat := 47
theorem fn_cache_within : P.funcs[f_cache_within]? = some Tryz.f47 := Tryz.func47
/- seisin/cache.odd -/
abbrev f_cache_odd : Nat := 48
theorem fn_cache_odd : P.funcs[f_cache_odd]? = some Tryz.f48 := Tryz.func48
/- (*seisin/cache.Cache).spare -/
abbrev f_cache_Cache_spare : Nat := 49
theorem fn_cache_Cache_spare : P.funcs[f_cache_Cache_spare]? = some Tryz.f49 := Tryz.func49
/- (*seisin/cache.Cache).add -/
abbrev f_cache_Cache_add : Nat := 50
theorem fn_cache_Cache_add : P.funcs[f_cache_Cache_add]? = some Tryz.f50 := Tryz.func50
/- (*seisin/log.Log).Sync -/
abbrev f_log_Log_Sync : Nat := 51
theorem fn_log_Log_Sync : P.funcs[f_log_Log_Sync]? = some Tryz.f51 := Tryz.func51
/- (*seisin/sector.Dev).Sectors -/
abbrev f_sector_Dev_Sectors : Nat := 52
theorem fn_sector_Dev_Sectors : P.funcs[f_sector_Dev_Sectors]? = some Tryz.f52 := Tryz.func52
/- seisin/cell.Open -/
abbrev f_cell_Open : Nat := 53
theorem fn_cell_Open : P.funcs[f_cell_Open]? = some Tryz.f53 := Tryz.func53
/- seisin/code.Decode -/
abbrev f_code_Decode : Nat := 54
theorem fn_code_Decode : P.funcs[f_code_Decode]? = some Tryz.f54 := Tryz.func54
/- (*seisin/cell.Cell).Get -/
abbrev f_cell_Cell_Get : Nat := 55
theorem fn_cell_Cell_Get : P.funcs[f_cell_Cell_Get]? = some Tryz.f55 := Tryz.func55
/- seisin/log.within -/
abbrev f_log_within : Nat := 56
theorem fn_log_within : P.funcs[f_log_within]? = some Tryz.f56 := Tryz.func56
/- (*seisin/log.Log).scan -/
abbrev f_log_Log_scan : Nat := 57
theorem fn_log_Log_scan : P.funcs[f_log_Log_scan]? = some Tryz.f57 := Tryz.func57
/- (*seisin/log.Log).put -/
abbrev f_log_Log_put : Nat := 58
theorem fn_log_Log_put : P.funcs[f_log_Log_put]? = some Tryz.f58 := Tryz.func58
/- slices.ContainsFunc[[]int64,int64] -/
abbrev f_slices_ContainsFunc_int64 : Nat := 59
theorem fn_slices_ContainsFunc_int64 : P.funcs[f_slices_ContainsFunc_int64]? = some Tryz.f59 := Tryz.func59
/- (*seisin/cache.Cache).what -/
abbrev f_cache_Cache_what : Nat := 60
theorem fn_cache_Cache_what : P.funcs[f_cache_Cache_what]? = some Tryz.f60 := Tryz.func60
/- (*seisin/cache.Cache).make -/
abbrev f_cache_Cache_make : Nat := 61
theorem fn_cache_Cache_make : P.funcs[f_cache_Cache_make]? = some Tryz.f61 := Tryz.func61
/- slices.Sorted[int] -/
abbrev f_slices_Sorted_int : Nat := 62
theorem fn_slices_Sorted_int : P.funcs[f_slices_Sorted_int]? = some Tryz.f62 := Tryz.func62
/- maps.Keys[map[int]seisin/sector.sector,int,seisin/sector.sector] -/
abbrev f_maps_Keys_map_sector_sector : Nat := 63
theorem fn_maps_Keys_map_sector_sector : P.funcs[f_maps_Keys_map_sector_sector]? = some Tryz.f63 := Tryz.func63
/- (*seisin/log.Log).Tail -/
abbrev f_log_Log_Tail : Nat := 64
theorem fn_log_Log_Tail : P.funcs[f_log_Log_Tail]? = some Tryz.f64 := Tryz.func64
/- (*seisin/log.Log).Append -/
abbrev f_log_Log_Append : Nat := 65
theorem fn_log_Log_Append : P.funcs[f_log_Log_Append]? = some Tryz.f65 := Tryz.func65
/- seisin/cache.bytes -/
abbrev f_cache_bytes : Nat := 66
theorem fn_cache_bytes : P.funcs[f_cache_bytes]? = some Tryz.f66 := Tryz.func66
/- (*seisin/sector.Dev).Barrier -/
abbrev f_sector_Dev_Barrier : Nat := 67
theorem fn_sector_Dev_Barrier : P.funcs[f_sector_Dev_Barrier]? = some Tryz.f67 := Tryz.func67
/- (*seisin/sector.Dev).Dead -/
abbrev f_sector_Dev_Dead : Nat := 68
theorem fn_sector_Dev_Dead : P.funcs[f_sector_Dev_Dead]? = some Tryz.f68 := Tryz.func68
/- (*seisin/sector.Dev).Read -/
abbrev f_sector_Dev_Read : Nat := 69
theorem fn_sector_Dev_Read : P.funcs[f_sector_Dev_Read]? = some Tryz.f69 := Tryz.func69
/- seisin/cell.read -/
abbrev f_cell_read : Nat := 70
theorem fn_cell_read : P.funcs[f_cell_read]? = some Tryz.f70 := Tryz.func70
/- seisin/code.Decode$1 -/
abbrev f_code_Decode_1 : Nat := 71
theorem fn_code_Decode_1 : P.funcs[f_code_Decode_1]? = some Tryz.f71 := Tryz.func71
/- (*seisin/code.reader).rec -/
abbrev f_code_reader_rec : Nat := 72
theorem fn_code_reader_rec : P.funcs[f_code_reader_rec]? = some Tryz.f72 := Tryz.func72
/- (*seisin/log.Log).place -/
abbrev f_log_Log_place : Nat := 73
theorem fn_log_Log_place : P.funcs[f_log_Log_place]? = some Tryz.f73 := Tryz.func73
/- seisin/log.read -/
abbrev f_log_read : Nat := 74
theorem fn_log_read : P.funcs[f_log_read]? = some Tryz.f74 := Tryz.func74
/- seisin/code.Encode -/
abbrev f_code_Encode : Nat := 75
theorem fn_code_Encode : P.funcs[f_code_Encode]? = some Tryz.f75 := Tryz.func75
/- (*seisin/cell.Cell).Put -/
abbrev f_cell_Cell_Put : Nat := 76
theorem fn_cell_Cell_Put : P.funcs[f_cell_Cell_Put]? = some Tryz.f76 := Tryz.func76
/- slices.IndexFunc[[]int64,int64] -/
abbrev f_slices_IndexFunc_int64 : Nat := 77
theorem fn_slices_IndexFunc_int64 : P.funcs[f_slices_IndexFunc_int64]? = some Tryz.f77 := Tryz.func77
/- (*seisin/log.Log).Free -/
abbrev f_log_Log_Free : Nat := 78
theorem fn_log_Log_Free : P.funcs[f_log_Log_Free]? = some Tryz.f78 := Tryz.func78
/- (*seisin/cache.Cache).needed -/
abbrev f_cache_Cache_needed : Nat := 79
theorem fn_cache_Cache_needed : P.funcs[f_cache_Cache_needed]? = some Tryz.f79 := Tryz.func79
/- (*seisin/log.Log).Trim -/
abbrev f_log_Log_Trim : Nat := 80
theorem fn_log_Log_Trim : P.funcs[f_log_Log_Trim]? = some Tryz.f80 := Tryz.func80
/- slices.Collect[int] -/
abbrev f_slices_Collect_int : Nat := 81
theorem fn_slices_Collect_int : P.funcs[f_slices_Collect_int]? = some Tryz.f81 := Tryz.func81
/- slices.Sort[[]int,int] -/
abbrev f_slices_Sort_int : Nat := 82
theorem fn_slices_Sort_int : P.funcs[f_slices_Sort_int]? = some Tryz.f82 := Tryz.func82
/- maps.Keys[map[int]seisin/sector.sector,int,seisin/sector.sector]$1 -/
abbrev f_maps_Keys_1_map_sector_sector : Nat := 83
theorem fn_maps_Keys_1_map_sector_sector : P.funcs[f_maps_Keys_1_map_sector_sector]? = some Tryz.f83 := Tryz.func83
/- (*seisin/sector.Dev).Write -/
abbrev f_sector_Dev_Write : Nat := 84
theorem fn_sector_Dev_Write : P.funcs[f_sector_Dev_Write]? = some Tryz.f84 := Tryz.func84
/- seisin/log.framed -/
abbrev f_log_framed : Nat := 85
theorem fn_log_framed : P.funcs[f_log_framed]? = some Tryz.f85 := Tryz.func85
/- (*seisin/sector.Dev).act -/
abbrev f_sector_Dev_act : Nat := 86
theorem fn_sector_Dev_act : P.funcs[f_sector_Dev_act]? = some Tryz.f86 := Tryz.func86
/- (*seisin/sector.Dev).has -/
abbrev f_sector_Dev_has : Nat := 87
theorem fn_sector_Dev_has : P.funcs[f_sector_Dev_has]? = some Tryz.f87 := Tryz.func87
/- slices.Clone[[]byte,byte] -/
abbrev f_slices_Clone_byte : Nat := 88
theorem fn_slices_Clone_byte : P.funcs[f_slices_Clone_byte]? = some Tryz.f88 := Tryz.func88
/- seisin/crc.Check -/
abbrev f_crc_Check : Nat := 89
theorem fn_crc_Check : P.funcs[f_crc_Check]? = some Tryz.f89 := Tryz.func89
/- (*seisin/code.reader).take -/
abbrev f_code_reader_take : Nat := 90
theorem fn_code_reader_take : P.funcs[f_code_reader_take]? = some Tryz.f90 := Tryz.func90
/- (*seisin/code.reader).number -/
abbrev f_code_reader_number : Nat := 91
theorem fn_code_reader_number : P.funcs[f_code_reader_number]? = some Tryz.f91 := Tryz.func91
/- seisin/code.May -/
abbrev f_code_May : Nat := 92
theorem fn_code_May : P.funcs[f_code_May]? = some Tryz.f92 := Tryz.func92
/- seisin/code.head -/
abbrev f_code_head : Nat := 93
theorem fn_code_head : P.funcs[f_code_head]? = some Tryz.f93 := Tryz.func93
/- seisin/code.Number -/
abbrev f_code_Number : Nat := 94
theorem fn_code_Number : P.funcs[f_code_Number]? = some Tryz.f94 := Tryz.func94
/- seisin/cell.Slot -/
abbrev f_cell_Slot : Nat := 95
theorem fn_cell_Slot : P.funcs[f_cell_Slot]? = some Tryz.f95 := Tryz.func95
/- slices.Clone[[]seisin/log.item,seisin/log.item] -/
abbrev f_slices_Clone_log_item : Nat := 96
theorem fn_slices_Clone_log_item : P.funcs[f_slices_Clone_log_item]? = some Tryz.f96 := Tryz.func96
/- slices.AppendSeq[[]int,int] -/
abbrev f_slices_AppendSeq_int : Nat := 97
theorem fn_slices_AppendSeq_int : P.funcs[f_slices_AppendSeq_int]? = some Tryz.f97 := Tryz.func97
/- slices.pdqsortOrdered[int] -/
abbrev f_slices_pdqsortOrdered_int : Nat := 98
theorem fn_slices_pdqsortOrdered_int : P.funcs[f_slices_pdqsortOrdered_int]? = some Tryz.f98 := Tryz.func98
/- math/bits.Len -/
abbrev f_math_bits_Len : Nat := 99
theorem fn_math_bits_Len : P.funcs[f_math_bits_Len]? = some Tryz.f99 := Tryz.func99
/- seisin/crc.Sum -/
abbrev f_crc_Sum : Nat := 100
theorem fn_crc_Sum : P.funcs[f_crc_Sum]? = some Tryz.f100 := Tryz.func100
/- slices.ContainsFunc[[]string,string] -/
abbrev f_slices_ContainsFunc_string : Nat := 101
theorem fn_slices_ContainsFunc_string : P.funcs[f_slices_ContainsFunc_string]? = some Tryz.f101 := Tryz.func101
/- seisin/code.May$1 -/
abbrev f_code_May_1 : Nat := 102
theorem fn_code_May_1 : P.funcs[f_code_May_1]? = some Tryz.f102 := Tryz.func102
/- slices.insertionSortOrdered[int] -/
abbrev f_slices_insertionSortOrdered_int : Nat := 103
theorem fn_slices_insertionSortOrdered_int : P.funcs[f_slices_insertionSortOrdered_int]? = some Tryz.f103 := Tryz.func103
/- slices.heapSortOrdered[int] -/
abbrev f_slices_heapSortOrdered_int : Nat := 104
theorem fn_slices_heapSortOrdered_int : P.funcs[f_slices_heapSortOrdered_int]? = some Tryz.f104 := Tryz.func104
/- slices.breakPatternsOrdered[int] -/
abbrev f_slices_breakPatternsOrdered_int : Nat := 105
theorem fn_slices_breakPatternsOrdered_int : P.funcs[f_slices_breakPatternsOrdered_int]? = some Tryz.f105 := Tryz.func105
/- slices.choosePivotOrdered[int] -/
abbrev f_slices_choosePivotOrdered_int : Nat := 106
theorem fn_slices_choosePivotOrdered_int : P.funcs[f_slices_choosePivotOrdered_int]? = some Tryz.f106 := Tryz.func106
/- slices.reverseRangeOrdered[int] -/
abbrev f_slices_reverseRangeOrdered_int : Nat := 107
theorem fn_slices_reverseRangeOrdered_int : P.funcs[f_slices_reverseRangeOrdered_int]? = some Tryz.f107 := Tryz.func107
/- slices.partialInsertionSortOrdered[int] -/
abbrev f_slices_partialInsertionSortOrdered_int : Nat := 108
theorem fn_slices_partialInsertionSortOrdered_int : P.funcs[f_slices_partialInsertionSortOrdered_int]? = some Tryz.f108 := Tryz.func108
/- cmp.Less[int] -/
abbrev f_cmp_Less_int : Nat := 109
theorem fn_cmp_Less_int : P.funcs[f_cmp_Less_int]? = some Tryz.f109 := Tryz.func109
/- slices.partitionEqualOrdered[int] -/
abbrev f_slices_partitionEqualOrdered_int : Nat := 110
theorem fn_slices_partitionEqualOrdered_int : P.funcs[f_slices_partitionEqualOrdered_int]? = some Tryz.f110 := Tryz.func110
/- slices.partitionOrdered[int] -/
abbrev f_slices_partitionOrdered_int : Nat := 111
theorem fn_slices_partitionOrdered_int : P.funcs[f_slices_partitionOrdered_int]? = some Tryz.f111 := Tryz.func111
/- math/bits.Len32 -/
abbrev f_math_bits_Len32 : Nat := 112
theorem fn_math_bits_Len32 : P.funcs[f_math_bits_Len32]? = some Tryz.f112 := Tryz.func112
/- math/bits.Len64 -/
abbrev f_math_bits_Len64 : Nat := 113
theorem fn_math_bits_Len64 : P.funcs[f_math_bits_Len64]? = some Tryz.f113 := Tryz.func113
/- seisin/crc.More -/
abbrev f_crc_More : Nat := 114
theorem fn_crc_More : P.funcs[f_crc_More]? = some Tryz.f114 := Tryz.func114
/- slices.IndexFunc[[]string,string] -/
abbrev f_slices_IndexFunc_string : Nat := 115
theorem fn_slices_IndexFunc_string : P.funcs[f_slices_IndexFunc_string]? = some Tryz.f115 := Tryz.func115
/- slices.siftDownOrdered[int] -/
abbrev f_slices_siftDownOrdered_int : Nat := 116
theorem fn_slices_siftDownOrdered_int : P.funcs[f_slices_siftDownOrdered_int]? = some Tryz.f116 := Tryz.func116
/- slices.nextPowerOfTwo -/
abbrev f_slices_nextPowerOfTwo : Nat := 117
theorem fn_slices_nextPowerOfTwo : P.funcs[f_slices_nextPowerOfTwo]? = some Tryz.f117 := Tryz.func117
/- (*slices.xorshift).Next -/
abbrev f_slices_xorshift_Next : Nat := 118
theorem fn_slices_xorshift_Next : P.funcs[f_slices_xorshift_Next]? = some Tryz.f118 := Tryz.func118
/- slices.medianAdjacentOrdered[int] -/
abbrev f_slices_medianAdjacentOrdered_int : Nat := 119
theorem fn_slices_medianAdjacentOrdered_int : P.funcs[f_slices_medianAdjacentOrdered_int]? = some Tryz.f119 := Tryz.func119
/- slices.medianOrdered[int] -/
abbrev f_slices_medianOrdered_int : Nat := 120
theorem fn_slices_medianOrdered_int : P.funcs[f_slices_medianOrdered_int]? = some Tryz.f120 := Tryz.func120
/- cmp.isNaN[int] -/
abbrev f_cmp_isNaN_int : Nat := 121
theorem fn_cmp_isNaN_int : P.funcs[f_cmp_isNaN_int]? = some Tryz.f121 := Tryz.func121
/- seisin/crc.on -/
abbrev f_crc_on : Nat := 122
theorem fn_crc_on : P.funcs[f_crc_on]? = some Tryz.f122 := Tryz.func122
/- slices.order2Ordered[int] -/
abbrev f_slices_order2Ordered_int : Nat := 123
theorem fn_slices_order2Ordered_int : P.funcs[f_slices_order2Ordered_int]? = some Tryz.f123 := Tryz.func123
/- (*seisin/sector.Dev).Lose -/
abbrev f_sector_Dev_Lose : Nat := 139
theorem fn_sector_Dev_Lose : P.funcs[f_sector_Dev_Lose]? = some Tryz.f139 := Tryz.func139
/- (*seisin/cell.Cell).Gen -/
abbrev f_cell_Cell_Gen : Nat := 140
theorem fn_cell_Cell_Gen : P.funcs[f_cell_Cell_Gen]? = some Tryz.f140 := Tryz.func140

/- int64 -/
abbrev T_int64 : Nat := 2
theorem U_int64 : P.underlying T_int64 = some (.int .i64) := Tryz.underlying2
theorem Z_int64 : Size P T_int64 1 := Size.mk' (by kernel_rfl)
theorem I_int64 : NotI P T_int64 := NotI.mk' Tryz.underlying2 rfl
theorem C_int64 : Scal P T_int64 := Scal.mk' Tryz.underlying2 rfl (by kernel_rfl)
theorem V0_int64 (w : World) : (zeroValue T_int64).run P w = .ok (.int .i64 0) w := zeroV (by kernel_rfl) w
theorem N_int64 : Zero P T_int64 [.int .i64 0] := Zero.mk' (by kernel_rfl)
/- int -/
abbrev T_int : Nat := 3
theorem U_int : P.underlying T_int = some (.int .i64) := Tryz.underlying3
theorem Z_int : Size P T_int 1 := Size.mk' (by kernel_rfl)
theorem I_int : NotI P T_int := NotI.mk' Tryz.underlying3 rfl
theorem C_int : Scal P T_int := Scal.mk' Tryz.underlying3 rfl (by kernel_rfl)
theorem V0_int (w : World) : (zeroValue T_int).run P w = .ok (.int .i64 0) w := zeroV (by kernel_rfl) w
theorem N_int : Zero P T_int [.int .i64 0] := Zero.mk' (by kernel_rfl)
/- bool -/
abbrev T_bool : Nat := 4
theorem U_bool : P.underlying T_bool = some .bool := Tryz.underlying4
theorem Z_bool : Size P T_bool 1 := Size.mk' (by kernel_rfl)
theorem I_bool : NotI P T_bool := NotI.mk' Tryz.underlying4 rfl
theorem C_bool : Scal P T_bool := Scal.mk' Tryz.underlying4 rfl (by kernel_rfl)
theorem V0_bool (w : World) : (zeroValue T_bool).run P w = .ok (.bool false) w := zeroV (by kernel_rfl) w
theorem N_bool : Zero P T_bool [.bool false] := Zero.mk' (by kernel_rfl)
/- uint8 -/
abbrev T_uint8 : Nat := 5
theorem U_uint8 : P.underlying T_uint8 = some (.int .u8) := Tryz.underlying5
theorem Z_uint8 : Size P T_uint8 1 := Size.mk' (by kernel_rfl)
theorem I_uint8 : NotI P T_uint8 := NotI.mk' Tryz.underlying5 rfl
theorem C_uint8 : Scal P T_uint8 := Scal.mk' Tryz.underlying5 rfl (by kernel_rfl)
theorem V0_uint8 (w : World) : (zeroValue T_uint8).run P w = .ok (.int .u8 0) w := zeroV (by kernel_rfl) w
theorem N_uint8 : Zero P T_uint8 [.int .u8 0] := Zero.mk' (by kernel_rfl)
/- string -/
abbrev T_string : Nat := 9
theorem U_string : P.underlying T_string = some .string := Tryz.underlying9
theorem Z_string : Size P T_string 1 := Size.mk' (by kernel_rfl)
theorem I_string : NotI P T_string := NotI.mk' Tryz.underlying9 rfl
theorem C_string : Scal P T_string := Scal.mk' Tryz.underlying9 rfl (by kernel_rfl)
theorem V0_string (w : World) : (zeroValue T_string).run P w = .ok (.string ⟨#[]⟩) w := zeroV (by kernel_rfl) w
theorem N_string : Zero P T_string [.string ⟨#[]⟩] := Zero.mk' (by kernel_rfl)
/- uintptr -/
abbrev T_uintptr : Nat := 12
theorem U_uintptr : P.underlying T_uintptr = some (.int .u64) := Tryz.underlying12
theorem Z_uintptr : Size P T_uintptr 1 := Size.mk' (by kernel_rfl)
theorem I_uintptr : NotI P T_uintptr := NotI.mk' Tryz.underlying12 rfl
theorem C_uintptr : Scal P T_uintptr := Scal.mk' Tryz.underlying12 rfl (by kernel_rfl)
theorem V0_uintptr (w : World) : (zeroValue T_uintptr).run P w = .ok (.int .u64 0) w := zeroV (by kernel_rfl) w
theorem N_uintptr : Zero P T_uintptr [.int .u64 0] := Zero.mk' (by kernel_rfl)
/- interface {} -/
abbrev T_any : Nat := 20
theorem U_any : ∃ ms, P.underlying T_any = some (.interface ms) := ⟨_, Tryz.underlying20⟩
theorem Z_any : Size P T_any 1 := Size.mk' (by kernel_rfl)
theorem C_any : Scal P T_any := Scal.mk' Tryz.underlying20 rfl (by kernel_rfl)
theorem V0_any (w : World) : (zeroValue T_any).run P w = .ok (.nilIface) w := zeroV (by kernel_rfl) w
theorem N_any : Zero P T_any [.nilIface] := Zero.mk' (by kernel_rfl)
/- int32 -/
abbrev T_int32 : Nat := 21
theorem U_int32 : P.underlying T_int32 = some (.int .i32) := Tryz.underlying21
theorem Z_int32 : Size P T_int32 1 := Size.mk' (by kernel_rfl)
theorem I_int32 : NotI P T_int32 := NotI.mk' Tryz.underlying21 rfl
theorem C_int32 : Scal P T_int32 := Scal.mk' Tryz.underlying21 rfl (by kernel_rfl)
theorem V0_int32 (w : World) : (zeroValue T_int32).run P w = .ok (.int .i32 0) w := zeroV (by kernel_rfl) w
theorem N_int32 : Zero P T_int32 [.int .i32 0] := Zero.mk' (by kernel_rfl)
/- []seisinlaw09.Act -/
abbrev T_Slaw09_Act : Nat := 22
theorem U_Slaw09_Act : P.underlying T_Slaw09_Act = some (.slice 35) := Tryz.underlying22
theorem Z_Slaw09_Act : Size P T_Slaw09_Act 1 := Size.mk' (by kernel_rfl)
theorem I_Slaw09_Act : NotI P T_Slaw09_Act := NotI.mk' Tryz.underlying22 rfl
theorem C_Slaw09_Act : Scal P T_Slaw09_Act := Scal.mk' Tryz.underlying22 rfl (by kernel_rfl)
theorem V0_Slaw09_Act (w : World) : (zeroValue T_Slaw09_Act).run P w = .ok (.slice none 0 0) w := zeroV (by kernel_rfl) w
theorem L_Slaw09_Act : El P T_Slaw09_Act 35 12 144 ([.int .i64 0, .int .i64 0, .int .i64 0, .int .i64 0, .int .i64 0, .string ⟨#[]⟩, .bool false, .int .i64 0, .int .i64 0, .slice none 0 0, .string ⟨#[]⟩, .slice none 0 0]) := El.mk' Tryz.underlying22 (by kernel_rfl) rfl
theorem N_Slaw09_Act : Zero P T_Slaw09_Act [.slice none 0 0] := Zero.mk' (by kernel_rfl)
/- *sector.Dev -/
abbrev T_Psector_Dev : Nat := 24
theorem U_Psector_Dev : P.underlying T_Psector_Dev = some (.pointer 96) := Tryz.underlying24
theorem Z_Psector_Dev : Size P T_Psector_Dev 1 := Size.mk' (by kernel_rfl)
theorem I_Psector_Dev : NotI P T_Psector_Dev := NotI.mk' Tryz.underlying24 rfl
theorem C_Psector_Dev : Scal P T_Psector_Dev := Scal.mk' Tryz.underlying24 rfl (by kernel_rfl)
theorem V0_Psector_Dev (w : World) : (zeroValue T_Psector_Dev).run P w = .ok (.pointer none) w := zeroV (by kernel_rfl) w
theorem N_Psector_Dev : Zero P T_Psector_Dev [.pointer none] := Zero.mk' (by kernel_rfl)
/- *cache.Cache -/
abbrev T_Pcache_Cache : Nat := 25
theorem U_Pcache_Cache : P.underlying T_Pcache_Cache = some (.pointer 80) := Tryz.underlying25
theorem Z_Pcache_Cache : Size P T_Pcache_Cache 1 := Size.mk' (by kernel_rfl)
theorem I_Pcache_Cache : NotI P T_Pcache_Cache := NotI.mk' Tryz.underlying25 rfl
theorem C_Pcache_Cache : Scal P T_Pcache_Cache := Scal.mk' Tryz.underlying25 rfl (by kernel_rfl)
theorem V0_Pcache_Cache (w : World) : (zeroValue T_Pcache_Cache).run P w = .ok (.pointer none) w := zeroV (by kernel_rfl) w
theorem N_Pcache_Cache : Zero P T_Pcache_Cache [.pointer none] := Zero.mk' (by kernel_rfl)
/- api.Version = seisin/api.Version -/
abbrev T_api_Version : Nat := 29
theorem Z_api_Version : Size P T_api_Version 2 := Size.mk' (by kernel_rfl)
theorem I_api_Version : NotI P T_api_Version := NotI.mk' Tryz.underlying29 rfl
theorem C_api_Version : Aggr P T_api_Version 2 := Aggr.mk' Tryz.underlying29 rfl (by kernel_rfl)
theorem F_api_Version_0 : FVal P T_api_Version 0 0 2 := FVal.mk' Tryz.underlying29 rfl rfl rfl
theorem O_api_Version_0 : FOff P T_api_Version 0 0 := FOff.mk' (n := 0) Tryz.underlying29 rfl rfl (by kernel_rfl)
theorem F_api_Version_1 : FVal P T_api_Version 1 1 2 := FVal.mk' Tryz.underlying29 rfl rfl rfl
theorem O_api_Version_1 : FOff P T_api_Version 1 1 := FOff.mk' (n := 0) Tryz.underlying29 rfl rfl (by kernel_rfl)
theorem V0_api_Version (w : World) : (zeroValue T_api_Version).run P w = .ok (.agg #[.int .i64 0, .int .i64 0]) w := zeroV (by kernel_rfl) w
theorem N_api_Version : Zero P T_api_Version [.int .i64 0, .int .i64 0] := Zero.mk' (by kernel_rfl)
/- api.Entry = seisin/api.Entry -/
abbrev T_api_Entry : Nat := 31
theorem Z_api_Entry : Size P T_api_Entry 7 := Size.mk' (by kernel_rfl)
theorem I_api_Entry : NotI P T_api_Entry := NotI.mk' Tryz.underlying31 rfl
theorem C_api_Entry : Aggr P T_api_Entry 7 := Aggr.mk' Tryz.underlying31 rfl (by kernel_rfl)
theorem F_api_Entry_0 : FVal P T_api_Entry 0 0 3 := FVal.mk' Tryz.underlying31 rfl rfl rfl
theorem O_api_Entry_0 : FOff P T_api_Entry 0 0 := FOff.mk' (n := 0) Tryz.underlying31 rfl rfl (by kernel_rfl)
theorem F_api_Entry_1 : FVal P T_api_Entry 1 1 29 := FVal.mk' Tryz.underlying31 rfl rfl rfl
theorem O_api_Entry_1 : FOff P T_api_Entry 1 1 := FOff.mk' (n := 1) Tryz.underlying31 rfl rfl (by kernel_rfl)
theorem F_api_Entry_2 : FVal P T_api_Entry 2 3 9 := FVal.mk' Tryz.underlying31 rfl rfl rfl
theorem O_api_Entry_2 : FOff P T_api_Entry 2 3 := FOff.mk' (n := 0) Tryz.underlying31 rfl rfl (by kernel_rfl)
theorem F_api_Entry_3 : FVal P T_api_Entry 3 4 4 := FVal.mk' Tryz.underlying31 rfl rfl rfl
theorem O_api_Entry_3 : FOff P T_api_Entry 3 4 := FOff.mk' (n := 0) Tryz.underlying31 rfl rfl (by kernel_rfl)
theorem F_api_Entry_4 : FVal P T_api_Entry 4 5 3 := FVal.mk' Tryz.underlying31 rfl rfl rfl
theorem O_api_Entry_4 : FOff P T_api_Entry 4 5 := FOff.mk' (n := 0) Tryz.underlying31 rfl rfl (by kernel_rfl)
theorem F_api_Entry_5 : FVal P T_api_Entry 5 6 2 := FVal.mk' Tryz.underlying31 rfl rfl rfl
theorem O_api_Entry_5 : FOff P T_api_Entry 5 6 := FOff.mk' (n := 0) Tryz.underlying31 rfl rfl (by kernel_rfl)
theorem V0_api_Entry (w : World) : (zeroValue T_api_Entry).run P w = .ok (.agg #[.int .i64 0, .int .i64 0, .int .i64 0, .string ⟨#[]⟩, .bool false, .int .i64 0, .int .i64 0]) w := zeroV (by kernel_rfl) w
theorem N_api_Entry : Zero P T_api_Entry [.int .i64 0, .int .i64 0, .int .i64 0, .string ⟨#[]⟩, .bool false, .int .i64 0, .int .i64 0] := Zero.mk' (by kernel_rfl)
/- []int64 -/
abbrev T_Sint64 : Nat := 32
theorem U_Sint64 : P.underlying T_Sint64 = some (.slice 2) := Tryz.underlying32
theorem Z_Sint64 : Size P T_Sint64 1 := Size.mk' (by kernel_rfl)
theorem I_Sint64 : NotI P T_Sint64 := NotI.mk' Tryz.underlying32 rfl
theorem C_Sint64 : Scal P T_Sint64 := Scal.mk' Tryz.underlying32 rfl (by kernel_rfl)
theorem V0_Sint64 (w : World) : (zeroValue T_Sint64).run P w = .ok (.slice none 0 0) w := zeroV (by kernel_rfl) w
theorem L_Sint64 : El P T_Sint64 2 1 8 ([.int .i64 0]) := El.mk' Tryz.underlying32 (by kernel_rfl) rfl
theorem N_Sint64 : Zero P T_Sint64 [.slice none 0 0] := Zero.mk' (by kernel_rfl)
/- []sector.Keep -/
abbrev T_Ssector_Keep : Nat := 33
theorem U_Ssector_Keep : P.underlying T_Ssector_Keep = some (.slice 60) := Tryz.underlying33
theorem Z_Ssector_Keep : Size P T_Ssector_Keep 1 := Size.mk' (by kernel_rfl)
theorem I_Ssector_Keep : NotI P T_Ssector_Keep := NotI.mk' Tryz.underlying33 rfl
theorem C_Ssector_Keep : Scal P T_Ssector_Keep := Scal.mk' Tryz.underlying33 rfl (by kernel_rfl)
theorem V0_Ssector_Keep (w : World) : (zeroValue T_Ssector_Keep).run P w = .ok (.slice none 0 0) w := zeroV (by kernel_rfl) w
theorem L_Ssector_Keep : El P T_Ssector_Keep 60 2 16 ([.int .i64 0, .int .i64 0]) := El.mk' Tryz.underlying33 (by kernel_rfl) rfl
theorem N_Ssector_Keep : Zero P T_Ssector_Keep [.slice none 0 0] := Zero.mk' (by kernel_rfl)
/- seisinlaw09.Act = seisin/seisinlaw09.Act -/
abbrev T_law09_Act : Nat := 35
theorem Z_law09_Act : Size P T_law09_Act 12 := Size.mk' (by kernel_rfl)
theorem I_law09_Act : NotI P T_law09_Act := NotI.mk' Tryz.underlying35 rfl
theorem C_law09_Act : Aggr P T_law09_Act 12 := Aggr.mk' Tryz.underlying35 rfl (by kernel_rfl)
theorem F_law09_Act_0 : FVal P T_law09_Act 0 0 3 := FVal.mk' Tryz.underlying35 rfl rfl rfl
theorem O_law09_Act_0 : FOff P T_law09_Act 0 0 := FOff.mk' (n := 0) Tryz.underlying35 rfl rfl (by kernel_rfl)
theorem F_law09_Act_1 : FVal P T_law09_Act 1 1 3 := FVal.mk' Tryz.underlying35 rfl rfl rfl
theorem O_law09_Act_1 : FOff P T_law09_Act 1 1 := FOff.mk' (n := 0) Tryz.underlying35 rfl rfl (by kernel_rfl)
theorem F_law09_Act_2 : FVal P T_law09_Act 2 2 31 := FVal.mk' Tryz.underlying35 rfl rfl rfl
theorem O_law09_Act_2 : FOff P T_law09_Act 2 2 := FOff.mk' (n := 6) Tryz.underlying35 rfl rfl (by kernel_rfl)
theorem F_law09_Act_3 : FVal P T_law09_Act 3 9 32 := FVal.mk' Tryz.underlying35 rfl rfl rfl
theorem O_law09_Act_3 : FOff P T_law09_Act 3 9 := FOff.mk' (n := 0) Tryz.underlying35 rfl rfl (by kernel_rfl)
theorem F_law09_Act_4 : FVal P T_law09_Act 4 10 9 := FVal.mk' Tryz.underlying35 rfl rfl rfl
theorem O_law09_Act_4 : FOff P T_law09_Act 4 10 := FOff.mk' (n := 0) Tryz.underlying35 rfl rfl (by kernel_rfl)
theorem F_law09_Act_5 : FVal P T_law09_Act 5 11 33 := FVal.mk' Tryz.underlying35 rfl rfl rfl
theorem O_law09_Act_5 : FOff P T_law09_Act 5 11 := FOff.mk' (n := 0) Tryz.underlying35 rfl rfl (by kernel_rfl)
theorem V0_law09_Act (w : World) : (zeroValue T_law09_Act).run P w = .ok (.agg #[.int .i64 0, .int .i64 0, .int .i64 0, .int .i64 0, .int .i64 0, .string ⟨#[]⟩, .bool false, .int .i64 0, .int .i64 0, .slice none 0 0, .string ⟨#[]⟩, .slice none 0 0]) w := zeroV (by kernel_rfl) w
theorem N_law09_Act : Zero P T_law09_Act [.int .i64 0, .int .i64 0, .int .i64 0, .int .i64 0, .int .i64 0, .string ⟨#[]⟩, .bool false, .int .i64 0, .int .i64 0, .slice none 0 0, .string ⟨#[]⟩, .slice none 0 0] := Zero.mk' (by kernel_rfl)
/- []api.Entry -/
abbrev T_Sapi_Entry : Nat := 37
theorem U_Sapi_Entry : P.underlying T_Sapi_Entry = some (.slice 31) := Tryz.underlying37
theorem Z_Sapi_Entry : Size P T_Sapi_Entry 1 := Size.mk' (by kernel_rfl)
theorem I_Sapi_Entry : NotI P T_Sapi_Entry := NotI.mk' Tryz.underlying37 rfl
theorem C_Sapi_Entry : Scal P T_Sapi_Entry := Scal.mk' Tryz.underlying37 rfl (by kernel_rfl)
theorem V0_Sapi_Entry (w : World) : (zeroValue T_Sapi_Entry).run P w = .ok (.slice none 0 0) w := zeroV (by kernel_rfl) w
theorem L_Sapi_Entry : El P T_Sapi_Entry 31 7 64 ([.int .i64 0, .int .i64 0, .int .i64 0, .string ⟨#[]⟩, .bool false, .int .i64 0, .int .i64 0]) := El.mk' Tryz.underlying37 (by kernel_rfl) rfl
theorem N_Sapi_Entry : Zero P T_Sapi_Entry [.slice none 0 0] := Zero.mk' (by kernel_rfl)
/- [4]int64 -/
abbrev T_A4int64 : Nat := 38
theorem U_A4int64 : P.underlying T_A4int64 = some (.array 4 2) := Tryz.underlying38
theorem Z_A4int64 : Size P T_A4int64 4 := Size.mk' (by kernel_rfl)
theorem I_A4int64 : NotI P T_A4int64 := NotI.mk' Tryz.underlying38 rfl
theorem C_A4int64 : Aggr P T_A4int64 4 := Aggr.mk' Tryz.underlying38 rfl (by kernel_rfl)
theorem V0_A4int64 (w : World) : (zeroValue T_A4int64).run P w = .ok (.agg #[.int .i64 0, .int .i64 0, .int .i64 0, .int .i64 0]) w := zeroV (by kernel_rfl) w
theorem N_A4int64 : Zero P T_A4int64 [.int .i64 0, .int .i64 0, .int .i64 0, .int .i64 0] := Zero.mk' (by kernel_rfl)
/- seisinlaw09.state = seisin/seisinlaw09.state -/
abbrev T_law09_state : Nat := 40
theorem Z_law09_state : Size P T_law09_state 7 := Size.mk' (by kernel_rfl)
theorem I_law09_state : NotI P T_law09_state := NotI.mk' Tryz.underlying40 rfl
theorem C_law09_state : Aggr P T_law09_state 7 := Aggr.mk' Tryz.underlying40 rfl (by kernel_rfl)
theorem F_law09_state_0 : FVal P T_law09_state 0 0 37 := FVal.mk' Tryz.underlying40 rfl rfl rfl
theorem O_law09_state_0 : FOff P T_law09_state 0 0 := FOff.mk' (n := 0) Tryz.underlying40 rfl rfl (by kernel_rfl)
theorem F_law09_state_1 : FVal P T_law09_state 1 1 29 := FVal.mk' Tryz.underlying40 rfl rfl rfl
theorem O_law09_state_1 : FOff P T_law09_state 1 1 := FOff.mk' (n := 1) Tryz.underlying40 rfl rfl (by kernel_rfl)
theorem F_law09_state_2 : FVal P T_law09_state 2 3 38 := FVal.mk' Tryz.underlying40 rfl rfl rfl
theorem O_law09_state_2 : FOff P T_law09_state 2 3 := FOff.mk' (n := 3) Tryz.underlying40 rfl rfl (by kernel_rfl)
theorem V0_law09_state (w : World) : (zeroValue T_law09_state).run P w = .ok (.agg #[.slice none 0 0, .int .i64 0, .int .i64 0, .int .i64 0, .int .i64 0, .int .i64 0, .int .i64 0]) w := zeroV (by kernel_rfl) w
theorem N_law09_state : Zero P T_law09_state [.slice none 0 0, .int .i64 0, .int .i64 0, .int .i64 0, .int .i64 0, .int .i64 0, .int .i64 0] := Zero.mk' (by kernel_rfl)
/- api.Errno = seisin/api.Errno -/
abbrev T_api_Errno : Nat := 42
theorem U_api_Errno : P.underlying T_api_Errno = some (.int .i64) := Tryz.underlying42
theorem Z_api_Errno : Size P T_api_Errno 1 := Size.mk' (by kernel_rfl)
theorem I_api_Errno : NotI P T_api_Errno := NotI.mk' Tryz.underlying42 rfl
theorem C_api_Errno : Scal P T_api_Errno := Scal.mk' Tryz.underlying42 rfl (by kernel_rfl)
theorem V0_api_Errno (w : World) : (zeroValue T_api_Errno).run P w = .ok (.int .i64 0) w := zeroV (by kernel_rfl) w
theorem N_api_Errno : Zero P T_api_Errno [.int .i64 0] := Zero.mk' (by kernel_rfl)
/- []seisinlaw09.state -/
abbrev T_Slaw09_state : Nat := 57
theorem U_Slaw09_state : P.underlying T_Slaw09_state = some (.slice 40) := Tryz.underlying57
theorem Z_Slaw09_state : Size P T_Slaw09_state 1 := Size.mk' (by kernel_rfl)
theorem I_Slaw09_state : NotI P T_Slaw09_state := NotI.mk' Tryz.underlying57 rfl
theorem C_Slaw09_state : Scal P T_Slaw09_state := Scal.mk' Tryz.underlying57 rfl (by kernel_rfl)
theorem V0_Slaw09_state (w : World) : (zeroValue T_Slaw09_state).run P w = .ok (.slice none 0 0) w := zeroV (by kernel_rfl) w
theorem L_Slaw09_state : El P T_Slaw09_state 40 7 72 ([.slice none 0 0, .int .i64 0, .int .i64 0, .int .i64 0, .int .i64 0, .int .i64 0, .int .i64 0]) := El.mk' Tryz.underlying57 (by kernel_rfl) rfl
theorem N_Slaw09_state : Zero P T_Slaw09_state [.slice none 0 0] := Zero.mk' (by kernel_rfl)
/- sector.Keep = seisin/sector.Keep -/
abbrev T_sector_Keep : Nat := 60
theorem Z_sector_Keep : Size P T_sector_Keep 2 := Size.mk' (by kernel_rfl)
theorem I_sector_Keep : NotI P T_sector_Keep := NotI.mk' Tryz.underlying60 rfl
theorem C_sector_Keep : Aggr P T_sector_Keep 2 := Aggr.mk' Tryz.underlying60 rfl (by kernel_rfl)
theorem F_sector_Keep_0 : FVal P T_sector_Keep 0 0 3 := FVal.mk' Tryz.underlying60 rfl rfl rfl
theorem O_sector_Keep_0 : FOff P T_sector_Keep 0 0 := FOff.mk' (n := 0) Tryz.underlying60 rfl rfl (by kernel_rfl)
theorem F_sector_Keep_1 : FVal P T_sector_Keep 1 1 3 := FVal.mk' Tryz.underlying60 rfl rfl rfl
theorem O_sector_Keep_1 : FOff P T_sector_Keep 1 1 := FOff.mk' (n := 0) Tryz.underlying60 rfl rfl (by kernel_rfl)
theorem V0_sector_Keep (w : World) : (zeroValue T_sector_Keep).run P w = .ok (.agg #[.int .i64 0, .int .i64 0]) w := zeroV (by kernel_rfl) w
theorem N_sector_Keep : Zero P T_sector_Keep [.int .i64 0, .int .i64 0] := Zero.mk' (by kernel_rfl)
/- *log.Log -/
abbrev T_Plog_Log : Nat := 72
theorem U_Plog_Log : P.underlying T_Plog_Log = some (.pointer 118) := Tryz.underlying72
theorem Z_Plog_Log : Size P T_Plog_Log 1 := Size.mk' (by kernel_rfl)
theorem I_Plog_Log : NotI P T_Plog_Log := NotI.mk' Tryz.underlying72 rfl
theorem C_Plog_Log : Scal P T_Plog_Log := Scal.mk' Tryz.underlying72 rfl (by kernel_rfl)
theorem V0_Plog_Log (w : World) : (zeroValue T_Plog_Log).run P w = .ok (.pointer none) w := zeroV (by kernel_rfl) w
theorem N_Plog_Log : Zero P T_Plog_Log [.pointer none] := Zero.mk' (by kernel_rfl)
/- map[int]api.Entry -/
abbrev T_Mint_api_Entry : Nat := 75
theorem U_Mint_api_Entry : P.underlying T_Mint_api_Entry = some (.map 3 31) := Tryz.underlying75
theorem Z_Mint_api_Entry : Size P T_Mint_api_Entry 1 := Size.mk' (by kernel_rfl)
theorem I_Mint_api_Entry : NotI P T_Mint_api_Entry := NotI.mk' Tryz.underlying75 rfl
theorem C_Mint_api_Entry : Scal P T_Mint_api_Entry := Scal.mk' Tryz.underlying75 rfl (by kernel_rfl)
theorem K_Mint_api_Entry : KeyI P T_Mint_api_Entry 3 31 := ⟨Tryz.underlying75, Tryz.underlying3⟩
theorem V0_Mint_api_Entry (w : World) : (zeroValue T_Mint_api_Entry).run P w = .ok (.map none) w := zeroV (by kernel_rfl) w
theorem N_Mint_api_Entry : Zero P T_Mint_api_Entry [.map none] := Zero.mk' (by kernel_rfl)
/- map[int]int64 -/
abbrev T_Mint_int64 : Nat := 76
theorem U_Mint_int64 : P.underlying T_Mint_int64 = some (.map 3 2) := Tryz.underlying76
theorem Z_Mint_int64 : Size P T_Mint_int64 1 := Size.mk' (by kernel_rfl)
theorem I_Mint_int64 : NotI P T_Mint_int64 := NotI.mk' Tryz.underlying76 rfl
theorem C_Mint_int64 : Scal P T_Mint_int64 := Scal.mk' Tryz.underlying76 rfl (by kernel_rfl)
theorem K_Mint_int64 : KeyI P T_Mint_int64 3 2 := ⟨Tryz.underlying76, Tryz.underlying3⟩
theorem V0_Mint_int64 (w : World) : (zeroValue T_Mint_int64).run P w = .ok (.map none) w := zeroV (by kernel_rfl) w
theorem N_Mint_int64 : Zero P T_Mint_int64 [.map none] := Zero.mk' (by kernel_rfl)
/- cache.kept = seisin/cache.kept -/
abbrev T_cache_kept : Nat := 78
theorem Z_cache_kept : Size P T_cache_kept 6 := Size.mk' (by kernel_rfl)
theorem I_cache_kept : NotI P T_cache_kept := NotI.mk' Tryz.underlying78 rfl
theorem C_cache_kept : Aggr P T_cache_kept 6 := Aggr.mk' Tryz.underlying78 rfl (by kernel_rfl)
theorem F_cache_kept_0 : FVal P T_cache_kept 0 0 29 := FVal.mk' Tryz.underlying78 rfl rfl rfl
theorem O_cache_kept_0 : FOff P T_cache_kept 0 0 := FOff.mk' (n := 1) Tryz.underlying78 rfl rfl (by kernel_rfl)
theorem F_cache_kept_1 : FVal P T_cache_kept 1 2 38 := FVal.mk' Tryz.underlying78 rfl rfl rfl
theorem O_cache_kept_1 : FOff P T_cache_kept 1 2 := FOff.mk' (n := 3) Tryz.underlying78 rfl rfl (by kernel_rfl)
theorem V0_cache_kept (w : World) : (zeroValue T_cache_kept).run P w = .ok (.agg #[.int .i64 0, .int .i64 0, .int .i64 0, .int .i64 0, .int .i64 0, .int .i64 0]) w := zeroV (by kernel_rfl) w
theorem N_cache_kept : Zero P T_cache_kept [.int .i64 0, .int .i64 0, .int .i64 0, .int .i64 0, .int .i64 0, .int .i64 0] := Zero.mk' (by kernel_rfl)
/- cache.Cache = seisin/cache.Cache -/
abbrev T_cache_Cache : Nat := 80
theorem Z_cache_Cache : Size P T_cache_Cache 11 := Size.mk' (by kernel_rfl)
theorem I_cache_Cache : NotI P T_cache_Cache := NotI.mk' Tryz.underlying80 rfl
theorem C_cache_Cache : Aggr P T_cache_Cache 11 := Aggr.mk' Tryz.underlying80 rfl (by kernel_rfl)
theorem F_cache_Cache_0 : FVal P T_cache_Cache 0 0 72 := FVal.mk' Tryz.underlying80 rfl rfl rfl
theorem O_cache_Cache_0 : FOff P T_cache_Cache 0 0 := FOff.mk' (n := 0) Tryz.underlying80 rfl rfl (by kernel_rfl)
theorem F_cache_Cache_1 : FVal P T_cache_Cache 1 1 3 := FVal.mk' Tryz.underlying80 rfl rfl rfl
theorem O_cache_Cache_1 : FOff P T_cache_Cache 1 1 := FOff.mk' (n := 0) Tryz.underlying80 rfl rfl (by kernel_rfl)
theorem F_cache_Cache_2 : FVal P T_cache_Cache 2 2 3 := FVal.mk' Tryz.underlying80 rfl rfl rfl
theorem O_cache_Cache_2 : FOff P T_cache_Cache 2 2 := FOff.mk' (n := 0) Tryz.underlying80 rfl rfl (by kernel_rfl)
theorem F_cache_Cache_3 : FVal P T_cache_Cache 3 3 75 := FVal.mk' Tryz.underlying80 rfl rfl rfl
theorem O_cache_Cache_3 : FOff P T_cache_Cache 3 3 := FOff.mk' (n := 0) Tryz.underlying80 rfl rfl (by kernel_rfl)
theorem F_cache_Cache_4 : FVal P T_cache_Cache 4 4 76 := FVal.mk' Tryz.underlying80 rfl rfl rfl
theorem O_cache_Cache_4 : FOff P T_cache_Cache 4 4 := FOff.mk' (n := 0) Tryz.underlying80 rfl rfl (by kernel_rfl)
theorem F_cache_Cache_5 : FVal P T_cache_Cache 5 5 78 := FVal.mk' Tryz.underlying80 rfl rfl rfl
theorem O_cache_Cache_5 : FOff P T_cache_Cache 5 5 := FOff.mk' (n := 5) Tryz.underlying80 rfl rfl (by kernel_rfl)
theorem V0_cache_Cache (w : World) : (zeroValue T_cache_Cache).run P w = .ok (.agg #[.pointer none, .int .i64 0, .int .i64 0, .map none, .map none, .int .i64 0, .int .i64 0, .int .i64 0, .int .i64 0, .int .i64 0, .int .i64 0]) w := zeroV (by kernel_rfl) w
theorem N_cache_Cache : Zero P T_cache_Cache [.pointer none, .int .i64 0, .int .i64 0, .map none, .map none, .int .i64 0, .int .i64 0, .int .i64 0, .int .i64 0, .int .i64 0, .int .i64 0] := Zero.mk' (by kernel_rfl)
/- []string -/
abbrev T_Sstring : Nat := 81
theorem U_Sstring : P.underlying T_Sstring = some (.slice 9) := Tryz.underlying81
theorem Z_Sstring : Size P T_Sstring 1 := Size.mk' (by kernel_rfl)
theorem I_Sstring : NotI P T_Sstring := NotI.mk' Tryz.underlying81 rfl
theorem C_Sstring : Scal P T_Sstring := Scal.mk' Tryz.underlying81 rfl (by kernel_rfl)
theorem V0_Sstring (w : World) : (zeroValue T_Sstring).run P w = .ok (.slice none 0 0) w := zeroV (by kernel_rfl) w
theorem L_Sstring : El P T_Sstring 9 1 16 ([.string ⟨#[]⟩]) := El.mk' Tryz.underlying81 (by kernel_rfl) rfl
theorem N_Sstring : Zero P T_Sstring [.slice none 0 0] := Zero.mk' (by kernel_rfl)
/- cache.record = seisin/cache.record -/
abbrev T_cache_record : Nat := 84
theorem Z_cache_record : Size P T_cache_record 7 := Size.mk' (by kernel_rfl)
theorem I_cache_record : NotI P T_cache_record := NotI.mk' Tryz.underlying84 rfl
theorem C_cache_record : Aggr P T_cache_record 7 := Aggr.mk' Tryz.underlying84 rfl (by kernel_rfl)
theorem F_cache_record_0 : FVal P T_cache_record 0 0 20 := FVal.mk' Tryz.underlying84 rfl rfl rfl
theorem O_cache_record_0 : FOff P T_cache_record 0 0 := FOff.mk' (n := 0) Tryz.underlying84 rfl rfl (by kernel_rfl)
theorem F_cache_record_1 : FVal P T_cache_record 1 1 78 := FVal.mk' Tryz.underlying84 rfl rfl rfl
theorem O_cache_record_1 : FOff P T_cache_record 1 1 := FOff.mk' (n := 5) Tryz.underlying84 rfl rfl (by kernel_rfl)
theorem V0_cache_record (w : World) : (zeroValue T_cache_record).run P w = .ok (.agg #[.nilIface, .int .i64 0, .int .i64 0, .int .i64 0, .int .i64 0, .int .i64 0, .int .i64 0]) w := zeroV (by kernel_rfl) w
theorem N_cache_record : Zero P T_cache_record [.nilIface, .int .i64 0, .int .i64 0, .int .i64 0, .int .i64 0, .int .i64 0, .int .i64 0] := Zero.mk' (by kernel_rfl)
/- cache.note = seisin/cache.note -/
abbrev T_cache_note : Nat := 92
theorem Z_cache_note : Size P T_cache_note 0 := Size.mk' (by kernel_rfl)
theorem I_cache_note : NotI P T_cache_note := NotI.mk' Tryz.underlying92 rfl
theorem C_cache_note : Aggr P T_cache_note 0 := Aggr.mk' Tryz.underlying92 rfl (by kernel_rfl)
theorem V0_cache_note (w : World) : (zeroValue T_cache_note).run P w = .ok (.agg #[]) w := zeroV (by kernel_rfl) w
theorem N_cache_note : Zero P T_cache_note [] := Zero.mk' (by kernel_rfl)
/- []sector.sector -/
abbrev T_Ssector_sector : Nat := 93
theorem U_Ssector_sector : P.underlying T_Ssector_sector = some (.slice 100) := Tryz.underlying93
theorem Z_Ssector_sector : Size P T_Ssector_sector 1 := Size.mk' (by kernel_rfl)
theorem I_Ssector_sector : NotI P T_Ssector_sector := NotI.mk' Tryz.underlying93 rfl
theorem C_Ssector_sector : Scal P T_Ssector_sector := Scal.mk' Tryz.underlying93 rfl (by kernel_rfl)
theorem V0_Ssector_sector (w : World) : (zeroValue T_Ssector_sector).run P w = .ok (.slice none 0 0) w := zeroV (by kernel_rfl) w
theorem L_Ssector_sector : El P T_Ssector_sector 100 144 144 (List.replicate 144 (.int .u8 0)) := El.mk' Tryz.underlying93 (by kernel_rfl) rfl
theorem N_Ssector_sector : Zero P T_Ssector_sector [.slice none 0 0] := Zero.mk' (by kernel_rfl)
/- map[int]sector.sector -/
abbrev T_Mint_sector_sector : Nat := 94
theorem U_Mint_sector_sector : P.underlying T_Mint_sector_sector = some (.map 3 100) := Tryz.underlying94
theorem Z_Mint_sector_sector : Size P T_Mint_sector_sector 1 := Size.mk' (by kernel_rfl)
theorem I_Mint_sector_sector : NotI P T_Mint_sector_sector := NotI.mk' Tryz.underlying94 rfl
theorem C_Mint_sector_sector : Scal P T_Mint_sector_sector := Scal.mk' Tryz.underlying94 rfl (by kernel_rfl)
theorem K_Mint_sector_sector : KeyI P T_Mint_sector_sector 3 100 := ⟨Tryz.underlying94, Tryz.underlying3⟩
theorem V0_Mint_sector_sector (w : World) : (zeroValue T_Mint_sector_sector).run P w = .ok (.map none) w := zeroV (by kernel_rfl) w
theorem N_Mint_sector_sector : Zero P T_Mint_sector_sector [.map none] := Zero.mk' (by kernel_rfl)
/- sector.Dev = seisin/sector.Dev -/
abbrev T_sector_Dev : Nat := 96
theorem Z_sector_Dev : Size P T_sector_Dev 4 := Size.mk' (by kernel_rfl)
theorem I_sector_Dev : NotI P T_sector_Dev := NotI.mk' Tryz.underlying96 rfl
theorem C_sector_Dev : Aggr P T_sector_Dev 4 := Aggr.mk' Tryz.underlying96 rfl (by kernel_rfl)
theorem F_sector_Dev_0 : FVal P T_sector_Dev 0 0 93 := FVal.mk' Tryz.underlying96 rfl rfl rfl
theorem O_sector_Dev_0 : FOff P T_sector_Dev 0 0 := FOff.mk' (n := 0) Tryz.underlying96 rfl rfl (by kernel_rfl)
theorem F_sector_Dev_1 : FVal P T_sector_Dev 1 1 94 := FVal.mk' Tryz.underlying96 rfl rfl rfl
theorem O_sector_Dev_1 : FOff P T_sector_Dev 1 1 := FOff.mk' (n := 0) Tryz.underlying96 rfl rfl (by kernel_rfl)
theorem F_sector_Dev_2 : FVal P T_sector_Dev 2 2 4 := FVal.mk' Tryz.underlying96 rfl rfl rfl
theorem O_sector_Dev_2 : FOff P T_sector_Dev 2 2 := FOff.mk' (n := 0) Tryz.underlying96 rfl rfl (by kernel_rfl)
theorem F_sector_Dev_3 : FVal P T_sector_Dev 3 3 3 := FVal.mk' Tryz.underlying96 rfl rfl rfl
theorem O_sector_Dev_3 : FOff P T_sector_Dev 3 3 := FOff.mk' (n := 0) Tryz.underlying96 rfl rfl (by kernel_rfl)
theorem V0_sector_Dev (w : World) : (zeroValue T_sector_Dev).run P w = .ok (.agg #[.slice none 0 0, .map none, .bool false, .int .i64 0]) w := zeroV (by kernel_rfl) w
theorem N_sector_Dev : Zero P T_sector_Dev [.slice none 0 0, .map none, .bool false, .int .i64 0] := Zero.mk' (by kernel_rfl)
/- []int -/
abbrev T_Sint : Nat := 97
theorem U_Sint : P.underlying T_Sint = some (.slice 3) := Tryz.underlying97
theorem Z_Sint : Size P T_Sint 1 := Size.mk' (by kernel_rfl)
theorem I_Sint : NotI P T_Sint := NotI.mk' Tryz.underlying97 rfl
theorem C_Sint : Scal P T_Sint := Scal.mk' Tryz.underlying97 rfl (by kernel_rfl)
theorem V0_Sint (w : World) : (zeroValue T_Sint).run P w = .ok (.slice none 0 0) w := zeroV (by kernel_rfl) w
theorem L_Sint : El P T_Sint 3 1 8 ([.int .i64 0]) := El.mk' Tryz.underlying97 (by kernel_rfl) rfl
theorem N_Sint : Zero P T_Sint [.slice none 0 0] := Zero.mk' (by kernel_rfl)
/- [144]uint8 -/
abbrev T_A144uint8 : Nat := 99
theorem U_A144uint8 : P.underlying T_A144uint8 = some (.array 144 5) := Tryz.underlying99
theorem Z_A144uint8 : Size P T_A144uint8 144 := Size.mk' (by kernel_rfl)
theorem I_A144uint8 : NotI P T_A144uint8 := NotI.mk' Tryz.underlying99 rfl
theorem C_A144uint8 : Aggr P T_A144uint8 144 := Aggr.mk' Tryz.underlying99 rfl (by kernel_rfl)
theorem N_A144uint8 : Zero P T_A144uint8 (List.replicate 144 (.int .u8 0)) := Zero.mk' (by kernel_rfl)
/- sector.sector = seisin/sector.sector -/
abbrev T_sector_sector : Nat := 100
theorem U_sector_sector : P.underlying T_sector_sector = some (.array 144 5) := Tryz.underlying100
theorem Z_sector_sector : Size P T_sector_sector 144 := Size.mk' (by kernel_rfl)
theorem I_sector_sector : NotI P T_sector_sector := NotI.mk' Tryz.underlying100 rfl
theorem C_sector_sector : Aggr P T_sector_sector 144 := Aggr.mk' Tryz.underlying100 rfl (by kernel_rfl)
theorem N_sector_sector : Zero P T_sector_sector (List.replicate 144 (.int .u8 0)) := Zero.mk' (by kernel_rfl)
/- []uint8 -/
abbrev T_Suint8 : Nat := 101
theorem U_Suint8 : P.underlying T_Suint8 = some (.slice 5) := Tryz.underlying101
theorem Z_Suint8 : Size P T_Suint8 1 := Size.mk' (by kernel_rfl)
theorem I_Suint8 : NotI P T_Suint8 := NotI.mk' Tryz.underlying101 rfl
theorem C_Suint8 : Scal P T_Suint8 := Scal.mk' Tryz.underlying101 rfl (by kernel_rfl)
theorem V0_Suint8 (w : World) : (zeroValue T_Suint8).run P w = .ok (.slice none 0 0) w := zeroV (by kernel_rfl) w
theorem L_Suint8 : El P T_Suint8 5 1 1 ([.int .u8 0]) := El.mk' Tryz.underlying101 (by kernel_rfl) rfl
theorem N_Suint8 : Zero P T_Suint8 [.slice none 0 0] := Zero.mk' (by kernel_rfl)
/- cache.put = seisin/cache.put -/
abbrev T_cache_put : Nat := 106
theorem Z_cache_put : Size P T_cache_put 7 := Size.mk' (by kernel_rfl)
theorem I_cache_put : NotI P T_cache_put := NotI.mk' Tryz.underlying106 rfl
theorem C_cache_put : Aggr P T_cache_put 7 := Aggr.mk' Tryz.underlying106 rfl (by kernel_rfl)
theorem F_cache_put_0 : FVal P T_cache_put 0 0 31 := FVal.mk' Tryz.underlying106 rfl rfl rfl
theorem O_cache_put_0 : FOff P T_cache_put 0 0 := FOff.mk' (n := 6) Tryz.underlying106 rfl rfl (by kernel_rfl)
theorem V0_cache_put (w : World) : (zeroValue T_cache_put).run P w = .ok (.agg #[.int .i64 0, .int .i64 0, .int .i64 0, .string ⟨#[]⟩, .bool false, .int .i64 0, .int .i64 0]) w := zeroV (by kernel_rfl) w
theorem N_cache_put : Zero P T_cache_put [.int .i64 0, .int .i64 0, .int .i64 0, .string ⟨#[]⟩, .bool false, .int .i64 0, .int .i64 0] := Zero.mk' (by kernel_rfl)
/- cache.drop = seisin/cache.drop -/
abbrev T_cache_drop : Nat := 110
theorem Z_cache_drop : Size P T_cache_drop 1 := Size.mk' (by kernel_rfl)
theorem I_cache_drop : NotI P T_cache_drop := NotI.mk' Tryz.underlying110 rfl
theorem C_cache_drop : Aggr P T_cache_drop 1 := Aggr.mk' Tryz.underlying110 rfl (by kernel_rfl)
theorem F_cache_drop_0 : FVal P T_cache_drop 0 0 3 := FVal.mk' Tryz.underlying110 rfl rfl rfl
theorem O_cache_drop_0 : FOff P T_cache_drop 0 0 := FOff.mk' (n := 0) Tryz.underlying110 rfl rfl (by kernel_rfl)
theorem V0_cache_drop (w : World) : (zeroValue T_cache_drop).run P w = .ok (.agg #[.int .i64 0]) w := zeroV (by kernel_rfl) w
theorem N_cache_drop : Zero P T_cache_drop [.int .i64 0] := Zero.mk' (by kernel_rfl)
/- cache.clean = seisin/cache.clean -/
abbrev T_cache_clean : Nat := 112
theorem Z_cache_clean : Size P T_cache_clean 3 := Size.mk' (by kernel_rfl)
theorem I_cache_clean : NotI P T_cache_clean := NotI.mk' Tryz.underlying112 rfl
theorem C_cache_clean : Aggr P T_cache_clean 3 := Aggr.mk' Tryz.underlying112 rfl (by kernel_rfl)
theorem F_cache_clean_0 : FVal P T_cache_clean 0 0 3 := FVal.mk' Tryz.underlying112 rfl rfl rfl
theorem O_cache_clean_0 : FOff P T_cache_clean 0 0 := FOff.mk' (n := 0) Tryz.underlying112 rfl rfl (by kernel_rfl)
theorem F_cache_clean_1 : FVal P T_cache_clean 1 1 29 := FVal.mk' Tryz.underlying112 rfl rfl rfl
theorem O_cache_clean_1 : FOff P T_cache_clean 1 1 := FOff.mk' (n := 1) Tryz.underlying112 rfl rfl (by kernel_rfl)
theorem V0_cache_clean (w : World) : (zeroValue T_cache_clean).run P w = .ok (.agg #[.int .i64 0, .int .i64 0, .int .i64 0]) w := zeroV (by kernel_rfl) w
theorem N_cache_clean : Zero P T_cache_clean [.int .i64 0, .int .i64 0, .int .i64 0] := Zero.mk' (by kernel_rfl)
/- *cell.Cell -/
abbrev T_Pcell_Cell : Nat := 113
theorem U_Pcell_Cell : P.underlying T_Pcell_Cell = some (.pointer 137) := Tryz.underlying113
theorem Z_Pcell_Cell : Size P T_Pcell_Cell 1 := Size.mk' (by kernel_rfl)
theorem I_Pcell_Cell : NotI P T_Pcell_Cell := NotI.mk' Tryz.underlying113 rfl
theorem C_Pcell_Cell : Scal P T_Pcell_Cell := Scal.mk' Tryz.underlying113 rfl (by kernel_rfl)
theorem V0_Pcell_Cell (w : World) : (zeroValue T_Pcell_Cell).run P w = .ok (.pointer none) w := zeroV (by kernel_rfl) w
theorem N_Pcell_Cell : Zero P T_Pcell_Cell [.pointer none] := Zero.mk' (by kernel_rfl)
/- []log.item -/
abbrev T_Slog_item : Nat := 116
theorem U_Slog_item : P.underlying T_Slog_item = some (.slice 126) := Tryz.underlying116
theorem Z_Slog_item : Size P T_Slog_item 1 := Size.mk' (by kernel_rfl)
theorem I_Slog_item : NotI P T_Slog_item := NotI.mk' Tryz.underlying116 rfl
theorem C_Slog_item : Scal P T_Slog_item := Scal.mk' Tryz.underlying116 rfl (by kernel_rfl)
theorem V0_Slog_item (w : World) : (zeroValue T_Slog_item).run P w = .ok (.slice none 0 0) w := zeroV (by kernel_rfl) w
theorem L_Slog_item : El P T_Slog_item 126 2 24 ([.string ⟨#[]⟩, .int .i64 0]) := El.mk' Tryz.underlying116 (by kernel_rfl) rfl
theorem N_Slog_item : Zero P T_Slog_item [.slice none 0 0] := Zero.mk' (by kernel_rfl)
/- log.Log = seisin/log.Log -/
abbrev T_log_Log : Nat := 118
theorem Z_log_Log : Size P T_log_Log 8 := Size.mk' (by kernel_rfl)
theorem I_log_Log : NotI P T_log_Log := NotI.mk' Tryz.underlying118 rfl
theorem C_log_Log : Aggr P T_log_Log 8 := Aggr.mk' Tryz.underlying118 rfl (by kernel_rfl)
theorem F_log_Log_0 : FVal P T_log_Log 0 0 24 := FVal.mk' Tryz.underlying118 rfl rfl rfl
theorem O_log_Log_0 : FOff P T_log_Log 0 0 := FOff.mk' (n := 0) Tryz.underlying118 rfl rfl (by kernel_rfl)
theorem F_log_Log_1 : FVal P T_log_Log 1 1 3 := FVal.mk' Tryz.underlying118 rfl rfl rfl
theorem O_log_Log_1 : FOff P T_log_Log 1 1 := FOff.mk' (n := 0) Tryz.underlying118 rfl rfl (by kernel_rfl)
theorem F_log_Log_2 : FVal P T_log_Log 2 2 3 := FVal.mk' Tryz.underlying118 rfl rfl rfl
theorem O_log_Log_2 : FOff P T_log_Log 2 2 := FOff.mk' (n := 0) Tryz.underlying118 rfl rfl (by kernel_rfl)
theorem F_log_Log_3 : FVal P T_log_Log 3 3 113 := FVal.mk' Tryz.underlying118 rfl rfl rfl
theorem O_log_Log_3 : FOff P T_log_Log 3 3 := FOff.mk' (n := 0) Tryz.underlying118 rfl rfl (by kernel_rfl)
theorem F_log_Log_4 : FVal P T_log_Log 4 4 2 := FVal.mk' Tryz.underlying118 rfl rfl rfl
theorem O_log_Log_4 : FOff P T_log_Log 4 4 := FOff.mk' (n := 0) Tryz.underlying118 rfl rfl (by kernel_rfl)
theorem F_log_Log_5 : FVal P T_log_Log 5 5 2 := FVal.mk' Tryz.underlying118 rfl rfl rfl
theorem O_log_Log_5 : FOff P T_log_Log 5 5 := FOff.mk' (n := 0) Tryz.underlying118 rfl rfl (by kernel_rfl)
theorem F_log_Log_6 : FVal P T_log_Log 6 6 2 := FVal.mk' Tryz.underlying118 rfl rfl rfl
theorem O_log_Log_6 : FOff P T_log_Log 6 6 := FOff.mk' (n := 0) Tryz.underlying118 rfl rfl (by kernel_rfl)
theorem F_log_Log_7 : FVal P T_log_Log 7 7 116 := FVal.mk' Tryz.underlying118 rfl rfl rfl
theorem O_log_Log_7 : FOff P T_log_Log 7 7 := FOff.mk' (n := 0) Tryz.underlying118 rfl rfl (by kernel_rfl)
theorem V0_log_Log (w : World) : (zeroValue T_log_Log).run P w = .ok (.agg #[.pointer none, .int .i64 0, .int .i64 0, .pointer none, .int .i64 0, .int .i64 0, .int .i64 0, .slice none 0 0]) w := zeroV (by kernel_rfl) w
theorem N_log_Log : Zero P T_log_Log [.pointer none, .int .i64 0, .int .i64 0, .pointer none, .int .i64 0, .int .i64 0, .int .i64 0, .slice none 0 0] := Zero.mk' (by kernel_rfl)
/- api.Rec = seisin/api.Rec -/
abbrev T_api_Rec : Nat := 120
theorem Z_api_Rec : Size P T_api_Rec 3 := Size.mk' (by kernel_rfl)
theorem I_api_Rec : NotI P T_api_Rec := NotI.mk' Tryz.underlying120 rfl
theorem C_api_Rec : Aggr P T_api_Rec 3 := Aggr.mk' Tryz.underlying120 rfl (by kernel_rfl)
theorem F_api_Rec_0 : FVal P T_api_Rec 0 0 3 := FVal.mk' Tryz.underlying120 rfl rfl rfl
theorem O_api_Rec_0 : FOff P T_api_Rec 0 0 := FOff.mk' (n := 0) Tryz.underlying120 rfl rfl (by kernel_rfl)
theorem F_api_Rec_1 : FVal P T_api_Rec 1 1 32 := FVal.mk' Tryz.underlying120 rfl rfl rfl
theorem O_api_Rec_1 : FOff P T_api_Rec 1 1 := FOff.mk' (n := 0) Tryz.underlying120 rfl rfl (by kernel_rfl)
theorem F_api_Rec_2 : FVal P T_api_Rec 2 2 81 := FVal.mk' Tryz.underlying120 rfl rfl rfl
theorem O_api_Rec_2 : FOff P T_api_Rec 2 2 := FOff.mk' (n := 0) Tryz.underlying120 rfl rfl (by kernel_rfl)
theorem V0_api_Rec (w : World) : (zeroValue T_api_Rec).run P w = .ok (.agg #[.int .i64 0, .slice none 0 0, .slice none 0 0]) w := zeroV (by kernel_rfl) w
theorem N_api_Rec : Zero P T_api_Rec [.int .i64 0, .slice none 0 0, .slice none 0 0] := Zero.mk' (by kernel_rfl)
/- log.item = seisin/log.item -/
abbrev T_log_item : Nat := 126
theorem Z_log_item : Size P T_log_item 2 := Size.mk' (by kernel_rfl)
theorem I_log_item : NotI P T_log_item := NotI.mk' Tryz.underlying126 rfl
theorem C_log_item : Aggr P T_log_item 2 := Aggr.mk' Tryz.underlying126 rfl (by kernel_rfl)
theorem F_log_item_0 : FVal P T_log_item 0 0 9 := FVal.mk' Tryz.underlying126 rfl rfl rfl
theorem O_log_item_0 : FOff P T_log_item 0 0 := FOff.mk' (n := 0) Tryz.underlying126 rfl rfl (by kernel_rfl)
theorem F_log_item_1 : FVal P T_log_item 1 1 2 := FVal.mk' Tryz.underlying126 rfl rfl rfl
theorem O_log_item_1 : FOff P T_log_item 1 1 := FOff.mk' (n := 0) Tryz.underlying126 rfl rfl (by kernel_rfl)
theorem V0_log_item (w : World) : (zeroValue T_log_item).run P w = .ok (.agg #[.string ⟨#[]⟩, .int .i64 0]) w := zeroV (by kernel_rfl) w
theorem N_log_item : Zero P T_log_item [.string ⟨#[]⟩, .int .i64 0] := Zero.mk' (by kernel_rfl)
/- iter.Seq[int] -/
abbrev T_iter_Seq_int_ : Nat := 131
theorem Z_iter_Seq_int_ : Size P T_iter_Seq_int_ 1 := Size.mk' (by kernel_rfl)
theorem I_iter_Seq_int_ : NotI P T_iter_Seq_int_ := NotI.mk' Tryz.underlying131 rfl
theorem C_iter_Seq_int_ : Scal P T_iter_Seq_int_ := Scal.mk' Tryz.underlying131 rfl (by kernel_rfl)
theorem V0_iter_Seq_int_ (w : World) : (zeroValue T_iter_Seq_int_).run P w = .ok (.nilFunc) w := zeroV (by kernel_rfl) w
theorem N_iter_Seq_int_ : Zero P T_iter_Seq_int_ [.nilFunc] := Zero.mk' (by kernel_rfl)
/- [2]int -/
abbrev T_A2int : Nat := 135
theorem U_A2int : P.underlying T_A2int = some (.array 2 3) := Tryz.underlying135
theorem Z_A2int : Size P T_A2int 2 := Size.mk' (by kernel_rfl)
theorem I_A2int : NotI P T_A2int := NotI.mk' Tryz.underlying135 rfl
theorem C_A2int : Aggr P T_A2int 2 := Aggr.mk' Tryz.underlying135 rfl (by kernel_rfl)
theorem V0_A2int (w : World) : (zeroValue T_A2int).run P w = .ok (.agg #[.int .i64 0, .int .i64 0]) w := zeroV (by kernel_rfl) w
theorem N_A2int : Zero P T_A2int [.int .i64 0, .int .i64 0] := Zero.mk' (by kernel_rfl)
/- cell.Cell = seisin/cell.Cell -/
abbrev T_cell_Cell : Nat := 137
theorem Z_cell_Cell : Size P T_cell_Cell 6 := Size.mk' (by kernel_rfl)
theorem I_cell_Cell : NotI P T_cell_Cell := NotI.mk' Tryz.underlying137 rfl
theorem C_cell_Cell : Aggr P T_cell_Cell 6 := Aggr.mk' Tryz.underlying137 rfl (by kernel_rfl)
theorem F_cell_Cell_0 : FVal P T_cell_Cell 0 0 24 := FVal.mk' Tryz.underlying137 rfl rfl rfl
theorem O_cell_Cell_0 : FOff P T_cell_Cell 0 0 := FOff.mk' (n := 0) Tryz.underlying137 rfl rfl (by kernel_rfl)
theorem F_cell_Cell_1 : FVal P T_cell_Cell 1 1 135 := FVal.mk' Tryz.underlying137 rfl rfl rfl
theorem O_cell_Cell_1 : FOff P T_cell_Cell 1 1 := FOff.mk' (n := 1) Tryz.underlying137 rfl rfl (by kernel_rfl)
theorem F_cell_Cell_2 : FVal P T_cell_Cell 2 3 3 := FVal.mk' Tryz.underlying137 rfl rfl rfl
theorem O_cell_Cell_2 : FOff P T_cell_Cell 2 3 := FOff.mk' (n := 0) Tryz.underlying137 rfl rfl (by kernel_rfl)
theorem F_cell_Cell_3 : FVal P T_cell_Cell 3 4 2 := FVal.mk' Tryz.underlying137 rfl rfl rfl
theorem O_cell_Cell_3 : FOff P T_cell_Cell 3 4 := FOff.mk' (n := 0) Tryz.underlying137 rfl rfl (by kernel_rfl)
theorem F_cell_Cell_4 : FVal P T_cell_Cell 4 5 9 := FVal.mk' Tryz.underlying137 rfl rfl rfl
theorem O_cell_Cell_4 : FOff P T_cell_Cell 4 5 := FOff.mk' (n := 0) Tryz.underlying137 rfl rfl (by kernel_rfl)
theorem V0_cell_Cell (w : World) : (zeroValue T_cell_Cell).run P w = .ok (.agg #[.pointer none, .int .i64 0, .int .i64 0, .int .i64 0, .int .i64 0, .string ⟨#[]⟩]) w := zeroV (by kernel_rfl) w
theorem N_cell_Cell : Zero P T_cell_Cell [.pointer none, .int .i64 0, .int .i64 0, .int .i64 0, .int .i64 0, .string ⟨#[]⟩] := Zero.mk' (by kernel_rfl)
/- code.bad = seisin/code.bad -/
abbrev T_code_bad : Nat := 142
theorem Z_code_bad : Size P T_code_bad 0 := Size.mk' (by kernel_rfl)
theorem I_code_bad : NotI P T_code_bad := NotI.mk' Tryz.underlying142 rfl
theorem C_code_bad : Aggr P T_code_bad 0 := Aggr.mk' Tryz.underlying142 rfl (by kernel_rfl)
theorem V0_code_bad (w : World) : (zeroValue T_code_bad).run P w = .ok (.agg #[]) w := zeroV (by kernel_rfl) w
theorem N_code_bad : Zero P T_code_bad [] := Zero.mk' (by kernel_rfl)
/- *code.reader -/
abbrev T_Pcode_reader : Nat := 143
theorem U_Pcode_reader : P.underlying T_Pcode_reader = some (.pointer 145) := Tryz.underlying143
theorem Z_Pcode_reader : Size P T_Pcode_reader 1 := Size.mk' (by kernel_rfl)
theorem I_Pcode_reader : NotI P T_Pcode_reader := NotI.mk' Tryz.underlying143 rfl
theorem C_Pcode_reader : Scal P T_Pcode_reader := Scal.mk' Tryz.underlying143 rfl (by kernel_rfl)
theorem V0_Pcode_reader (w : World) : (zeroValue T_Pcode_reader).run P w = .ok (.pointer none) w := zeroV (by kernel_rfl) w
theorem N_Pcode_reader : Zero P T_Pcode_reader [.pointer none] := Zero.mk' (by kernel_rfl)
/- code.reader = seisin/code.reader -/
abbrev T_code_reader : Nat := 145
theorem Z_code_reader : Size P T_code_reader 1 := Size.mk' (by kernel_rfl)
theorem I_code_reader : NotI P T_code_reader := NotI.mk' Tryz.underlying145 rfl
theorem C_code_reader : Aggr P T_code_reader 1 := Aggr.mk' Tryz.underlying145 rfl (by kernel_rfl)
theorem F_code_reader_0 : FVal P T_code_reader 0 0 101 := FVal.mk' Tryz.underlying145 rfl rfl rfl
theorem O_code_reader_0 : FOff P T_code_reader 0 0 := FOff.mk' (n := 0) Tryz.underlying145 rfl rfl (by kernel_rfl)
theorem V0_code_reader (w : World) : (zeroValue T_code_reader).run P w = .ok (.agg #[.slice none 0 0]) w := zeroV (by kernel_rfl) w
theorem N_code_reader : Zero P T_code_reader [.slice none 0 0] := Zero.mk' (by kernel_rfl)
/- uint32 -/
abbrev T_uint32 : Nat := 160
theorem U_uint32 : P.underlying T_uint32 = some (.int .u32) := Tryz.underlying160
theorem Z_uint32 : Size P T_uint32 1 := Size.mk' (by kernel_rfl)
theorem I_uint32 : NotI P T_uint32 := NotI.mk' Tryz.underlying160 rfl
theorem C_uint32 : Scal P T_uint32 := Scal.mk' Tryz.underlying160 rfl (by kernel_rfl)
theorem V0_uint32 (w : World) : (zeroValue T_uint32).run P w = .ok (.int .u32 0) w := zeroV (by kernel_rfl) w
theorem N_uint32 : Zero P T_uint32 [.int .u32 0] := Zero.mk' (by kernel_rfl)
/- uint -/
abbrev T_uint : Nat := 161
theorem U_uint : P.underlying T_uint = some (.int .u64) := Tryz.underlying161
theorem Z_uint : Size P T_uint 1 := Size.mk' (by kernel_rfl)
theorem I_uint : NotI P T_uint := NotI.mk' Tryz.underlying161 rfl
theorem C_uint : Scal P T_uint := Scal.mk' Tryz.underlying161 rfl (by kernel_rfl)
theorem V0_uint (w : World) : (zeroValue T_uint).run P w = .ok (.int .u64 0) w := zeroV (by kernel_rfl) w
theorem N_uint : Zero P T_uint [.int .u64 0] := Zero.mk' (by kernel_rfl)
/- uint64 -/
abbrev T_uint64 : Nat := 173
theorem U_uint64 : P.underlying T_uint64 = some (.int .u64) := Tryz.underlying173
theorem Z_uint64 : Size P T_uint64 1 := Size.mk' (by kernel_rfl)
theorem I_uint64 : NotI P T_uint64 := NotI.mk' Tryz.underlying173 rfl
theorem C_uint64 : Scal P T_uint64 := Scal.mk' Tryz.underlying173 rfl (by kernel_rfl)
theorem V0_uint64 (w : World) : (zeroValue T_uint64).run P w = .ok (.int .u64 0) w := zeroV (by kernel_rfl) w
theorem N_uint64 : Zero P T_uint64 [.int .u64 0] := Zero.mk' (by kernel_rfl)
/- slices.sortedHint -/
abbrev T_slices_sortedHint : Nat := 177
theorem U_slices_sortedHint : P.underlying T_slices_sortedHint = some (.int .i64) := Tryz.underlying177
theorem Z_slices_sortedHint : Size P T_slices_sortedHint 1 := Size.mk' (by kernel_rfl)
theorem I_slices_sortedHint : NotI P T_slices_sortedHint := NotI.mk' Tryz.underlying177 rfl
theorem C_slices_sortedHint : Scal P T_slices_sortedHint := Scal.mk' Tryz.underlying177 rfl (by kernel_rfl)
theorem V0_slices_sortedHint (w : World) : (zeroValue T_slices_sortedHint).run P w = .ok (.int .i64 0) w := zeroV (by kernel_rfl) w
theorem N_slices_sortedHint : Zero P T_slices_sortedHint [.int .i64 0] := Zero.mk' (by kernel_rfl)
/- slices.xorshift -/
abbrev T_slices_xorshift : Nat := 188
theorem U_slices_xorshift : P.underlying T_slices_xorshift = some (.int .u64) := Tryz.underlying188
theorem Z_slices_xorshift : Size P T_slices_xorshift 1 := Size.mk' (by kernel_rfl)
theorem I_slices_xorshift : NotI P T_slices_xorshift := NotI.mk' Tryz.underlying188 rfl
theorem C_slices_xorshift : Scal P T_slices_xorshift := Scal.mk' Tryz.underlying188 rfl (by kernel_rfl)
theorem V0_slices_xorshift (w : World) : (zeroValue T_slices_xorshift).run P w = .ok (.int .u64 0) w := zeroV (by kernel_rfl) w
theorem N_slices_xorshift : Zero P T_slices_xorshift [.int .u64 0] := Zero.mk' (by kernel_rfl)
/- *int -/
abbrev T_Pint : Nat := 192
theorem U_Pint : P.underlying T_Pint = some (.pointer 3) := Tryz.underlying192
theorem Z_Pint : Size P T_Pint 1 := Size.mk' (by kernel_rfl)
theorem I_Pint : NotI P T_Pint := NotI.mk' Tryz.underlying192 rfl
theorem C_Pint : Scal P T_Pint := Scal.mk' Tryz.underlying192 rfl (by kernel_rfl)
theorem V0_Pint (w : World) : (zeroValue T_Pint).run P w = .ok (.pointer none) w := zeroV (by kernel_rfl) w
theorem N_Pint : Zero P T_Pint [.pointer none] := Zero.mk' (by kernel_rfl)
/- *slices.xorshift -/
abbrev T_Pslices_xorshift : Nat := 195
theorem U_Pslices_xorshift : P.underlying T_Pslices_xorshift = some (.pointer 188) := Tryz.underlying195
theorem Z_Pslices_xorshift : Size P T_Pslices_xorshift 1 := Size.mk' (by kernel_rfl)
theorem I_Pslices_xorshift : NotI P T_Pslices_xorshift := NotI.mk' Tryz.underlying195 rfl
theorem C_Pslices_xorshift : Scal P T_Pslices_xorshift := Scal.mk' Tryz.underlying195 rfl (by kernel_rfl)
theorem V0_Pslices_xorshift (w : World) : (zeroValue T_Pslices_xorshift).run P w = .ok (.pointer none) w := zeroV (by kernel_rfl) w
theorem N_Pslices_xorshift : Zero P T_Pslices_xorshift [.pointer none] := Zero.mk' (by kernel_rfl)
/- [0]*runtime.PanicNilError -/
abbrev T_A0Pruntime_PanicNilError : Nat := 200
theorem U_A0Pruntime_PanicNilError : P.underlying T_A0Pruntime_PanicNilError = some (.array 0 16) := Tryz.underlying200
theorem Z_A0Pruntime_PanicNilError : Size P T_A0Pruntime_PanicNilError 0 := Size.mk' (by kernel_rfl)
theorem I_A0Pruntime_PanicNilError : NotI P T_A0Pruntime_PanicNilError := NotI.mk' Tryz.underlying200 rfl
theorem C_A0Pruntime_PanicNilError : Aggr P T_A0Pruntime_PanicNilError 0 := Aggr.mk' Tryz.underlying200 rfl (by kernel_rfl)
theorem V0_A0Pruntime_PanicNilError (w : World) : (zeroValue T_A0Pruntime_PanicNilError).run P w = .ok (.agg #[]) w := zeroV (by kernel_rfl) w
theorem N_A0Pruntime_PanicNilError : Zero P T_A0Pruntime_PanicNilError [] := Zero.mk' (by kernel_rfl)
/- *uint8 -/
abbrev T_Puint8 : Nat := 206
theorem U_Puint8 : P.underlying T_Puint8 = some (.pointer 5) := Tryz.underlying206
theorem Z_Puint8 : Size P T_Puint8 1 := Size.mk' (by kernel_rfl)
theorem I_Puint8 : NotI P T_Puint8 := NotI.mk' Tryz.underlying206 rfl
theorem C_Puint8 : Scal P T_Puint8 := Scal.mk' Tryz.underlying206 rfl (by kernel_rfl)
theorem V0_Puint8 (w : World) : (zeroValue T_Puint8).run P w = .ok (.pointer none) w := zeroV (by kernel_rfl) w
theorem N_Puint8 : Zero P T_Puint8 [.pointer none] := Zero.mk' (by kernel_rfl)
/- unsafe.Pointer -/
abbrev T_unsafe_Pointer : Nat := 211
theorem Z_unsafe_Pointer : Size P T_unsafe_Pointer 1 := Size.mk' (by kernel_rfl)
theorem I_unsafe_Pointer : NotI P T_unsafe_Pointer := NotI.mk' Tryz.underlying211 rfl
theorem C_unsafe_Pointer : Scal P T_unsafe_Pointer := Scal.mk' Tryz.underlying211 rfl (by kernel_rfl)
theorem V0_unsafe_Pointer (w : World) : (zeroValue T_unsafe_Pointer).run P w = .ok (.pointer none) w := zeroV (by kernel_rfl) w
theorem N_unsafe_Pointer : Zero P T_unsafe_Pointer [.pointer none] := Zero.mk' (by kernel_rfl)
theorem B_api_Version : Bld P T_api_Version [.int .i64 0, .int .i64 0] [(0, 1), (1, 1)] := Bld.mk' Tryz.underlying29 N_api_Version (by kernel_rfl)
theorem B_api_Entry : Bld P T_api_Entry [.int .i64 0, .int .i64 0, .int .i64 0, .string ⟨#[]⟩, .bool false, .int .i64 0, .int .i64 0] [(0, 1), (1, 2), (3, 1), (4, 1), (5, 1), (6, 1)] := Bld.mk' Tryz.underlying31 N_api_Entry (by kernel_rfl)
theorem B_law09_Act : Bld P T_law09_Act [.int .i64 0, .int .i64 0, .int .i64 0, .int .i64 0, .int .i64 0, .string ⟨#[]⟩, .bool false, .int .i64 0, .int .i64 0, .slice none 0 0, .string ⟨#[]⟩, .slice none 0 0] [(0, 1), (1, 1), (2, 7), (9, 1), (10, 1), (11, 1)] := Bld.mk' Tryz.underlying35 N_law09_Act (by kernel_rfl)
theorem B_law09_state : Bld P T_law09_state [.slice none 0 0, .int .i64 0, .int .i64 0, .int .i64 0, .int .i64 0, .int .i64 0, .int .i64 0] [(0, 1), (1, 2), (3, 4)] := Bld.mk' Tryz.underlying40 N_law09_state (by kernel_rfl)
theorem B_sector_Keep : Bld P T_sector_Keep [.int .i64 0, .int .i64 0] [(0, 1), (1, 1)] := Bld.mk' Tryz.underlying60 N_sector_Keep (by kernel_rfl)
theorem B_cache_kept : Bld P T_cache_kept [.int .i64 0, .int .i64 0, .int .i64 0, .int .i64 0, .int .i64 0, .int .i64 0] [(0, 2), (2, 4)] := Bld.mk' Tryz.underlying78 N_cache_kept (by kernel_rfl)
theorem B_cache_Cache : Bld P T_cache_Cache [.pointer none, .int .i64 0, .int .i64 0, .map none, .map none, .int .i64 0, .int .i64 0, .int .i64 0, .int .i64 0, .int .i64 0, .int .i64 0] [(0, 1), (1, 1), (2, 1), (3, 1), (4, 1), (5, 6)] := Bld.mk' Tryz.underlying80 N_cache_Cache (by kernel_rfl)
theorem B_cache_record : Bld P T_cache_record [.nilIface, .int .i64 0, .int .i64 0, .int .i64 0, .int .i64 0, .int .i64 0, .int .i64 0] [(0, 1), (1, 6)] := Bld.mk' Tryz.underlying84 N_cache_record (by kernel_rfl)
theorem B_cache_note : Bld P T_cache_note [] [] := Bld.mk' Tryz.underlying92 N_cache_note (by kernel_rfl)
theorem B_sector_Dev : Bld P T_sector_Dev [.slice none 0 0, .map none, .bool false, .int .i64 0] [(0, 1), (1, 1), (2, 1), (3, 1)] := Bld.mk' Tryz.underlying96 N_sector_Dev (by kernel_rfl)
theorem B_cache_put : Bld P T_cache_put [.int .i64 0, .int .i64 0, .int .i64 0, .string ⟨#[]⟩, .bool false, .int .i64 0, .int .i64 0] [(0, 7)] := Bld.mk' Tryz.underlying106 N_cache_put (by kernel_rfl)
theorem B_cache_drop : Bld P T_cache_drop [.int .i64 0] [(0, 1)] := Bld.mk' Tryz.underlying110 N_cache_drop (by kernel_rfl)
theorem B_cache_clean : Bld P T_cache_clean [.int .i64 0, .int .i64 0, .int .i64 0] [(0, 1), (1, 2)] := Bld.mk' Tryz.underlying112 N_cache_clean (by kernel_rfl)
theorem B_log_Log : Bld P T_log_Log [.pointer none, .int .i64 0, .int .i64 0, .pointer none, .int .i64 0, .int .i64 0, .int .i64 0, .slice none 0 0] [(0, 1), (1, 1), (2, 1), (3, 1), (4, 1), (5, 1), (6, 1), (7, 1)] := Bld.mk' Tryz.underlying118 N_log_Log (by kernel_rfl)
theorem B_api_Rec : Bld P T_api_Rec [.int .i64 0, .slice none 0 0, .slice none 0 0] [(0, 1), (1, 1), (2, 1)] := Bld.mk' Tryz.underlying120 N_api_Rec (by kernel_rfl)
theorem B_log_item : Bld P T_log_item [.string ⟨#[]⟩, .int .i64 0] [(0, 1), (1, 1)] := Bld.mk' Tryz.underlying126 N_log_item (by kernel_rfl)
theorem B_cell_Cell : Bld P T_cell_Cell [.pointer none, .int .i64 0, .int .i64 0, .int .i64 0, .int .i64 0, .string ⟨#[]⟩] [(0, 1), (1, 2), (3, 1), (4, 1), (5, 1)] := Bld.mk' Tryz.underlying137 N_cell_Cell (by kernel_rfl)
theorem B_code_bad : Bld P T_code_bad [] [] := Bld.mk' Tryz.underlying142 N_code_bad (by kernel_rfl)
theorem B_code_reader : Bld P T_code_reader [.slice none 0 0] [(0, 1)] := Bld.mk' Tryz.underlying145 N_code_reader (by kernel_rfl)
theorem E_api_Version {x0 y0 : Int} {x1 y1 : Int} : EqV P 2 T_api_Version (.agg [.int .i64 x0, .int .i64 x1].toArray) (.agg [.int .i64 y0, .int .i64 y1].toArray) (decide (x0 = y0) && (decide (x1 = y1) && true)) := (EqV.struct (xs := [.int .i64 x0, .int .i64 x1]) (ys := [.int .i64 y0, .int .i64 y1]) Tryz.underlying29 (by kernel_rfl) (EqF.cons (xs := [.int .i64 x0, .int .i64 x1]) (ys := [.int .i64 y0, .int .i64 y1]) rfl (Part.s (v := .int .i64 x0) (Scal.mk' Tryz.underlying2 rfl (by kernel_rfl)) rfl) (Part.s (v := .int .i64 y0) (Scal.mk' Tryz.underlying2 rfl (by kernel_rfl)) rfl) (EqV.int Tryz.underlying2) (EqF.cons (xs := [.int .i64 x0, .int .i64 x1]) (ys := [.int .i64 y0, .int .i64 y1]) rfl (Part.s (v := .int .i64 x1) (Scal.mk' Tryz.underlying2 rfl (by kernel_rfl)) rfl) (Part.s (v := .int .i64 y1) (Scal.mk' Tryz.underlying2 rfl (by kernel_rfl)) rfl) (EqV.int Tryz.underlying2) EqF.nil)))
theorem G_api_Version : P.eqGuardType P.depth T_api_Version = false := by kernel_rfl
theorem E_api_Entry {x0 y0 : Int} {x1 y1 : Int} {x2 y2 : Int} {x3 y3 : List UInt8} {x4 y4 : Bool} {x5 y5 : Int} {x6 y6 : Int} : EqV P 3 T_api_Entry (.agg [.int .i64 x0, .int .i64 x1, .int .i64 x2, .string ⟨(x3).toArray⟩, .bool x4, .int .i64 x5, .int .i64 x6].toArray) (.agg [.int .i64 y0, .int .i64 y1, .int .i64 y2, .string ⟨(y3).toArray⟩, .bool y4, .int .i64 y5, .int .i64 y6].toArray) (decide (x0 = y0) && ((decide (x1 = y1) && (decide (x2 = y2) && true)) && (decide (x3 = y3) && (decide (x4 = y4) && (decide (x5 = y5) && (decide (x6 = y6) && true)))))) := (EqV.struct (xs := [.int .i64 x0, .int .i64 x1, .int .i64 x2, .string ⟨(x3).toArray⟩, .bool x4, .int .i64 x5, .int .i64 x6]) (ys := [.int .i64 y0, .int .i64 y1, .int .i64 y2, .string ⟨(y3).toArray⟩, .bool y4, .int .i64 y5, .int .i64 y6]) Tryz.underlying31 (by kernel_rfl) (EqF.cons (xs := [.int .i64 x0, .int .i64 x1, .int .i64 x2, .string ⟨(x3).toArray⟩, .bool x4, .int .i64 x5, .int .i64 x6]) (ys := [.int .i64 y0, .int .i64 y1, .int .i64 y2, .string ⟨(y3).toArray⟩, .bool y4, .int .i64 y5, .int .i64 y6]) rfl (Part.s (v := .int .i64 x0) (Scal.mk' Tryz.underlying3 rfl (by kernel_rfl)) rfl) (Part.s (v := .int .i64 y0) (Scal.mk' Tryz.underlying3 rfl (by kernel_rfl)) rfl) (EqV.int Tryz.underlying3) (EqF.cons (xs := [.int .i64 x0, .int .i64 x1, .int .i64 x2, .string ⟨(x3).toArray⟩, .bool x4, .int .i64 x5, .int .i64 x6]) (ys := [.int .i64 y0, .int .i64 y1, .int .i64 y2, .string ⟨(y3).toArray⟩, .bool y4, .int .i64 y5, .int .i64 y6]) rfl (Part.a (n := 2) (vs := [.int .i64 x1, .int .i64 x2]) (Aggr.mk' Tryz.underlying29 rfl (by kernel_rfl)) rfl) (Part.a (n := 2) (vs := [.int .i64 y1, .int .i64 y2]) (Aggr.mk' Tryz.underlying29 rfl (by kernel_rfl)) rfl) (EqV.struct (xs := [.int .i64 x1, .int .i64 x2]) (ys := [.int .i64 y1, .int .i64 y2]) Tryz.underlying29 (by kernel_rfl) (EqF.cons (xs := [.int .i64 x1, .int .i64 x2]) (ys := [.int .i64 y1, .int .i64 y2]) rfl (Part.s (v := .int .i64 x1) (Scal.mk' Tryz.underlying2 rfl (by kernel_rfl)) rfl) (Part.s (v := .int .i64 y1) (Scal.mk' Tryz.underlying2 rfl (by kernel_rfl)) rfl) (EqV.int Tryz.underlying2) (EqF.cons (xs := [.int .i64 x1, .int .i64 x2]) (ys := [.int .i64 y1, .int .i64 y2]) rfl (Part.s (v := .int .i64 x2) (Scal.mk' Tryz.underlying2 rfl (by kernel_rfl)) rfl) (Part.s (v := .int .i64 y2) (Scal.mk' Tryz.underlying2 rfl (by kernel_rfl)) rfl) (EqV.int Tryz.underlying2) EqF.nil))) (EqF.cons (xs := [.int .i64 x0, .int .i64 x1, .int .i64 x2, .string ⟨(x3).toArray⟩, .bool x4, .int .i64 x5, .int .i64 x6]) (ys := [.int .i64 y0, .int .i64 y1, .int .i64 y2, .string ⟨(y3).toArray⟩, .bool y4, .int .i64 y5, .int .i64 y6]) rfl (Part.s (v := .string ⟨(x3).toArray⟩) (Scal.mk' Tryz.underlying9 rfl (by kernel_rfl)) rfl) (Part.s (v := .string ⟨(y3).toArray⟩) (Scal.mk' Tryz.underlying9 rfl (by kernel_rfl)) rfl) (EqV.str Tryz.underlying9) (EqF.cons (xs := [.int .i64 x0, .int .i64 x1, .int .i64 x2, .string ⟨(x3).toArray⟩, .bool x4, .int .i64 x5, .int .i64 x6]) (ys := [.int .i64 y0, .int .i64 y1, .int .i64 y2, .string ⟨(y3).toArray⟩, .bool y4, .int .i64 y5, .int .i64 y6]) rfl (Part.s (v := .bool x4) (Scal.mk' Tryz.underlying4 rfl (by kernel_rfl)) rfl) (Part.s (v := .bool y4) (Scal.mk' Tryz.underlying4 rfl (by kernel_rfl)) rfl) (EqV.bool Tryz.underlying4) (EqF.cons (xs := [.int .i64 x0, .int .i64 x1, .int .i64 x2, .string ⟨(x3).toArray⟩, .bool x4, .int .i64 x5, .int .i64 x6]) (ys := [.int .i64 y0, .int .i64 y1, .int .i64 y2, .string ⟨(y3).toArray⟩, .bool y4, .int .i64 y5, .int .i64 y6]) rfl (Part.s (v := .int .i64 x5) (Scal.mk' Tryz.underlying3 rfl (by kernel_rfl)) rfl) (Part.s (v := .int .i64 y5) (Scal.mk' Tryz.underlying3 rfl (by kernel_rfl)) rfl) (EqV.int Tryz.underlying3) (EqF.cons (xs := [.int .i64 x0, .int .i64 x1, .int .i64 x2, .string ⟨(x3).toArray⟩, .bool x4, .int .i64 x5, .int .i64 x6]) (ys := [.int .i64 y0, .int .i64 y1, .int .i64 y2, .string ⟨(y3).toArray⟩, .bool y4, .int .i64 y5, .int .i64 y6]) rfl (Part.s (v := .int .i64 x6) (Scal.mk' Tryz.underlying2 rfl (by kernel_rfl)) rfl) (Part.s (v := .int .i64 y6) (Scal.mk' Tryz.underlying2 rfl (by kernel_rfl)) rfl) (EqV.int Tryz.underlying2) EqF.nil)))))))
theorem G_api_Entry : P.eqGuardType P.depth T_api_Entry = false := by kernel_rfl
theorem E_A4int64 {x0 y0 : Int} {x1 y1 : Int} {x2 y2 : Int} {x3 y3 : Int} : EqV P 2 T_A4int64 (.agg [.int .i64 x0, .int .i64 x1, .int .i64 x2, .int .i64 x3].toArray) (.agg [.int .i64 y0, .int .i64 y1, .int .i64 y2, .int .i64 y3].toArray) (decide (x0 = y0) && (decide (x1 = y1) && (decide (x2 = y2) && (decide (x3 = y3) && true)))) := (EqV.arr (c := 1) (xs := [.int .i64 x0, .int .i64 x1, .int .i64 x2, .int .i64 x3]) (ys := [.int .i64 y0, .int .i64 y1, .int .i64 y2, .int .i64 y3]) Tryz.underlying38 (Size.mk' (by kernel_rfl)) (EqI.cons (xs := [.int .i64 x0, .int .i64 x1, .int .i64 x2, .int .i64 x3]) (ys := [.int .i64 y0, .int .i64 y1, .int .i64 y2, .int .i64 y3]) (Part.s (v := .int .i64 x0) (Scal.mk' Tryz.underlying2 rfl (by kernel_rfl)) rfl) (Part.s (v := .int .i64 y0) (Scal.mk' Tryz.underlying2 rfl (by kernel_rfl)) rfl) (EqV.int Tryz.underlying2) (EqI.cons (xs := [.int .i64 x0, .int .i64 x1, .int .i64 x2, .int .i64 x3]) (ys := [.int .i64 y0, .int .i64 y1, .int .i64 y2, .int .i64 y3]) (Part.s (v := .int .i64 x1) (Scal.mk' Tryz.underlying2 rfl (by kernel_rfl)) rfl) (Part.s (v := .int .i64 y1) (Scal.mk' Tryz.underlying2 rfl (by kernel_rfl)) rfl) (EqV.int Tryz.underlying2) (EqI.cons (xs := [.int .i64 x0, .int .i64 x1, .int .i64 x2, .int .i64 x3]) (ys := [.int .i64 y0, .int .i64 y1, .int .i64 y2, .int .i64 y3]) (Part.s (v := .int .i64 x2) (Scal.mk' Tryz.underlying2 rfl (by kernel_rfl)) rfl) (Part.s (v := .int .i64 y2) (Scal.mk' Tryz.underlying2 rfl (by kernel_rfl)) rfl) (EqV.int Tryz.underlying2) (EqI.cons (xs := [.int .i64 x0, .int .i64 x1, .int .i64 x2, .int .i64 x3]) (ys := [.int .i64 y0, .int .i64 y1, .int .i64 y2, .int .i64 y3]) (Part.s (v := .int .i64 x3) (Scal.mk' Tryz.underlying2 rfl (by kernel_rfl)) rfl) (Part.s (v := .int .i64 y3) (Scal.mk' Tryz.underlying2 rfl (by kernel_rfl)) rfl) (EqV.int Tryz.underlying2) EqI.nil)))))
theorem G_A4int64 : P.eqGuardType P.depth T_A4int64 = false := by kernel_rfl
theorem E_sector_Keep {x0 y0 : Int} {x1 y1 : Int} : EqV P 2 T_sector_Keep (.agg [.int .i64 x0, .int .i64 x1].toArray) (.agg [.int .i64 y0, .int .i64 y1].toArray) (decide (x0 = y0) && (decide (x1 = y1) && true)) := (EqV.struct (xs := [.int .i64 x0, .int .i64 x1]) (ys := [.int .i64 y0, .int .i64 y1]) Tryz.underlying60 (by kernel_rfl) (EqF.cons (xs := [.int .i64 x0, .int .i64 x1]) (ys := [.int .i64 y0, .int .i64 y1]) rfl (Part.s (v := .int .i64 x0) (Scal.mk' Tryz.underlying3 rfl (by kernel_rfl)) rfl) (Part.s (v := .int .i64 y0) (Scal.mk' Tryz.underlying3 rfl (by kernel_rfl)) rfl) (EqV.int Tryz.underlying3) (EqF.cons (xs := [.int .i64 x0, .int .i64 x1]) (ys := [.int .i64 y0, .int .i64 y1]) rfl (Part.s (v := .int .i64 x1) (Scal.mk' Tryz.underlying3 rfl (by kernel_rfl)) rfl) (Part.s (v := .int .i64 y1) (Scal.mk' Tryz.underlying3 rfl (by kernel_rfl)) rfl) (EqV.int Tryz.underlying3) EqF.nil)))
theorem G_sector_Keep : P.eqGuardType P.depth T_sector_Keep = false := by kernel_rfl
theorem E_cache_kept {x0 y0 : Int} {x1 y1 : Int} {x2 y2 : Int} {x3 y3 : Int} {x4 y4 : Int} {x5 y5 : Int} : EqV P 3 T_cache_kept (.agg [.int .i64 x0, .int .i64 x1, .int .i64 x2, .int .i64 x3, .int .i64 x4, .int .i64 x5].toArray) (.agg [.int .i64 y0, .int .i64 y1, .int .i64 y2, .int .i64 y3, .int .i64 y4, .int .i64 y5].toArray) ((decide (x0 = y0) && (decide (x1 = y1) && true)) && ((decide (x2 = y2) && (decide (x3 = y3) && (decide (x4 = y4) && (decide (x5 = y5) && true)))) && true)) := (EqV.struct (xs := [.int .i64 x0, .int .i64 x1, .int .i64 x2, .int .i64 x3, .int .i64 x4, .int .i64 x5]) (ys := [.int .i64 y0, .int .i64 y1, .int .i64 y2, .int .i64 y3, .int .i64 y4, .int .i64 y5]) Tryz.underlying78 (by kernel_rfl) (EqF.cons (xs := [.int .i64 x0, .int .i64 x1, .int .i64 x2, .int .i64 x3, .int .i64 x4, .int .i64 x5]) (ys := [.int .i64 y0, .int .i64 y1, .int .i64 y2, .int .i64 y3, .int .i64 y4, .int .i64 y5]) rfl (Part.a (n := 2) (vs := [.int .i64 x0, .int .i64 x1]) (Aggr.mk' Tryz.underlying29 rfl (by kernel_rfl)) rfl) (Part.a (n := 2) (vs := [.int .i64 y0, .int .i64 y1]) (Aggr.mk' Tryz.underlying29 rfl (by kernel_rfl)) rfl) (EqV.struct (xs := [.int .i64 x0, .int .i64 x1]) (ys := [.int .i64 y0, .int .i64 y1]) Tryz.underlying29 (by kernel_rfl) (EqF.cons (xs := [.int .i64 x0, .int .i64 x1]) (ys := [.int .i64 y0, .int .i64 y1]) rfl (Part.s (v := .int .i64 x0) (Scal.mk' Tryz.underlying2 rfl (by kernel_rfl)) rfl) (Part.s (v := .int .i64 y0) (Scal.mk' Tryz.underlying2 rfl (by kernel_rfl)) rfl) (EqV.int Tryz.underlying2) (EqF.cons (xs := [.int .i64 x0, .int .i64 x1]) (ys := [.int .i64 y0, .int .i64 y1]) rfl (Part.s (v := .int .i64 x1) (Scal.mk' Tryz.underlying2 rfl (by kernel_rfl)) rfl) (Part.s (v := .int .i64 y1) (Scal.mk' Tryz.underlying2 rfl (by kernel_rfl)) rfl) (EqV.int Tryz.underlying2) EqF.nil))) (EqF.cons (xs := [.int .i64 x0, .int .i64 x1, .int .i64 x2, .int .i64 x3, .int .i64 x4, .int .i64 x5]) (ys := [.int .i64 y0, .int .i64 y1, .int .i64 y2, .int .i64 y3, .int .i64 y4, .int .i64 y5]) rfl (Part.a (n := 4) (vs := [.int .i64 x2, .int .i64 x3, .int .i64 x4, .int .i64 x5]) (Aggr.mk' Tryz.underlying38 rfl (by kernel_rfl)) rfl) (Part.a (n := 4) (vs := [.int .i64 y2, .int .i64 y3, .int .i64 y4, .int .i64 y5]) (Aggr.mk' Tryz.underlying38 rfl (by kernel_rfl)) rfl) (EqV.arr (c := 1) (xs := [.int .i64 x2, .int .i64 x3, .int .i64 x4, .int .i64 x5]) (ys := [.int .i64 y2, .int .i64 y3, .int .i64 y4, .int .i64 y5]) Tryz.underlying38 (Size.mk' (by kernel_rfl)) (EqI.cons (xs := [.int .i64 x2, .int .i64 x3, .int .i64 x4, .int .i64 x5]) (ys := [.int .i64 y2, .int .i64 y3, .int .i64 y4, .int .i64 y5]) (Part.s (v := .int .i64 x2) (Scal.mk' Tryz.underlying2 rfl (by kernel_rfl)) rfl) (Part.s (v := .int .i64 y2) (Scal.mk' Tryz.underlying2 rfl (by kernel_rfl)) rfl) (EqV.int Tryz.underlying2) (EqI.cons (xs := [.int .i64 x2, .int .i64 x3, .int .i64 x4, .int .i64 x5]) (ys := [.int .i64 y2, .int .i64 y3, .int .i64 y4, .int .i64 y5]) (Part.s (v := .int .i64 x3) (Scal.mk' Tryz.underlying2 rfl (by kernel_rfl)) rfl) (Part.s (v := .int .i64 y3) (Scal.mk' Tryz.underlying2 rfl (by kernel_rfl)) rfl) (EqV.int Tryz.underlying2) (EqI.cons (xs := [.int .i64 x2, .int .i64 x3, .int .i64 x4, .int .i64 x5]) (ys := [.int .i64 y2, .int .i64 y3, .int .i64 y4, .int .i64 y5]) (Part.s (v := .int .i64 x4) (Scal.mk' Tryz.underlying2 rfl (by kernel_rfl)) rfl) (Part.s (v := .int .i64 y4) (Scal.mk' Tryz.underlying2 rfl (by kernel_rfl)) rfl) (EqV.int Tryz.underlying2) (EqI.cons (xs := [.int .i64 x2, .int .i64 x3, .int .i64 x4, .int .i64 x5]) (ys := [.int .i64 y2, .int .i64 y3, .int .i64 y4, .int .i64 y5]) (Part.s (v := .int .i64 x5) (Scal.mk' Tryz.underlying2 rfl (by kernel_rfl)) rfl) (Part.s (v := .int .i64 y5) (Scal.mk' Tryz.underlying2 rfl (by kernel_rfl)) rfl) (EqV.int Tryz.underlying2) EqI.nil))))) EqF.nil)))
theorem G_cache_kept : P.eqGuardType P.depth T_cache_kept = false := by kernel_rfl
theorem E_cache_put {x0 y0 : Int} {x1 y1 : Int} {x2 y2 : Int} {x3 y3 : List UInt8} {x4 y4 : Bool} {x5 y5 : Int} {x6 y6 : Int} : EqV P 4 T_cache_put (.agg [.int .i64 x0, .int .i64 x1, .int .i64 x2, .string ⟨(x3).toArray⟩, .bool x4, .int .i64 x5, .int .i64 x6].toArray) (.agg [.int .i64 y0, .int .i64 y1, .int .i64 y2, .string ⟨(y3).toArray⟩, .bool y4, .int .i64 y5, .int .i64 y6].toArray) ((decide (x0 = y0) && ((decide (x1 = y1) && (decide (x2 = y2) && true)) && (decide (x3 = y3) && (decide (x4 = y4) && (decide (x5 = y5) && (decide (x6 = y6) && true)))))) && true) := (EqV.struct (xs := [.int .i64 x0, .int .i64 x1, .int .i64 x2, .string ⟨(x3).toArray⟩, .bool x4, .int .i64 x5, .int .i64 x6]) (ys := [.int .i64 y0, .int .i64 y1, .int .i64 y2, .string ⟨(y3).toArray⟩, .bool y4, .int .i64 y5, .int .i64 y6]) Tryz.underlying106 (by kernel_rfl) (EqF.cons (xs := [.int .i64 x0, .int .i64 x1, .int .i64 x2, .string ⟨(x3).toArray⟩, .bool x4, .int .i64 x5, .int .i64 x6]) (ys := [.int .i64 y0, .int .i64 y1, .int .i64 y2, .string ⟨(y3).toArray⟩, .bool y4, .int .i64 y5, .int .i64 y6]) rfl (Part.a (n := 7) (vs := [.int .i64 x0, .int .i64 x1, .int .i64 x2, .string ⟨(x3).toArray⟩, .bool x4, .int .i64 x5, .int .i64 x6]) (Aggr.mk' Tryz.underlying31 rfl (by kernel_rfl)) rfl) (Part.a (n := 7) (vs := [.int .i64 y0, .int .i64 y1, .int .i64 y2, .string ⟨(y3).toArray⟩, .bool y4, .int .i64 y5, .int .i64 y6]) (Aggr.mk' Tryz.underlying31 rfl (by kernel_rfl)) rfl) (EqV.struct (xs := [.int .i64 x0, .int .i64 x1, .int .i64 x2, .string ⟨(x3).toArray⟩, .bool x4, .int .i64 x5, .int .i64 x6]) (ys := [.int .i64 y0, .int .i64 y1, .int .i64 y2, .string ⟨(y3).toArray⟩, .bool y4, .int .i64 y5, .int .i64 y6]) Tryz.underlying31 (by kernel_rfl) (EqF.cons (xs := [.int .i64 x0, .int .i64 x1, .int .i64 x2, .string ⟨(x3).toArray⟩, .bool x4, .int .i64 x5, .int .i64 x6]) (ys := [.int .i64 y0, .int .i64 y1, .int .i64 y2, .string ⟨(y3).toArray⟩, .bool y4, .int .i64 y5, .int .i64 y6]) rfl (Part.s (v := .int .i64 x0) (Scal.mk' Tryz.underlying3 rfl (by kernel_rfl)) rfl) (Part.s (v := .int .i64 y0) (Scal.mk' Tryz.underlying3 rfl (by kernel_rfl)) rfl) (EqV.int Tryz.underlying3) (EqF.cons (xs := [.int .i64 x0, .int .i64 x1, .int .i64 x2, .string ⟨(x3).toArray⟩, .bool x4, .int .i64 x5, .int .i64 x6]) (ys := [.int .i64 y0, .int .i64 y1, .int .i64 y2, .string ⟨(y3).toArray⟩, .bool y4, .int .i64 y5, .int .i64 y6]) rfl (Part.a (n := 2) (vs := [.int .i64 x1, .int .i64 x2]) (Aggr.mk' Tryz.underlying29 rfl (by kernel_rfl)) rfl) (Part.a (n := 2) (vs := [.int .i64 y1, .int .i64 y2]) (Aggr.mk' Tryz.underlying29 rfl (by kernel_rfl)) rfl) (EqV.struct (xs := [.int .i64 x1, .int .i64 x2]) (ys := [.int .i64 y1, .int .i64 y2]) Tryz.underlying29 (by kernel_rfl) (EqF.cons (xs := [.int .i64 x1, .int .i64 x2]) (ys := [.int .i64 y1, .int .i64 y2]) rfl (Part.s (v := .int .i64 x1) (Scal.mk' Tryz.underlying2 rfl (by kernel_rfl)) rfl) (Part.s (v := .int .i64 y1) (Scal.mk' Tryz.underlying2 rfl (by kernel_rfl)) rfl) (EqV.int Tryz.underlying2) (EqF.cons (xs := [.int .i64 x1, .int .i64 x2]) (ys := [.int .i64 y1, .int .i64 y2]) rfl (Part.s (v := .int .i64 x2) (Scal.mk' Tryz.underlying2 rfl (by kernel_rfl)) rfl) (Part.s (v := .int .i64 y2) (Scal.mk' Tryz.underlying2 rfl (by kernel_rfl)) rfl) (EqV.int Tryz.underlying2) EqF.nil))) (EqF.cons (xs := [.int .i64 x0, .int .i64 x1, .int .i64 x2, .string ⟨(x3).toArray⟩, .bool x4, .int .i64 x5, .int .i64 x6]) (ys := [.int .i64 y0, .int .i64 y1, .int .i64 y2, .string ⟨(y3).toArray⟩, .bool y4, .int .i64 y5, .int .i64 y6]) rfl (Part.s (v := .string ⟨(x3).toArray⟩) (Scal.mk' Tryz.underlying9 rfl (by kernel_rfl)) rfl) (Part.s (v := .string ⟨(y3).toArray⟩) (Scal.mk' Tryz.underlying9 rfl (by kernel_rfl)) rfl) (EqV.str Tryz.underlying9) (EqF.cons (xs := [.int .i64 x0, .int .i64 x1, .int .i64 x2, .string ⟨(x3).toArray⟩, .bool x4, .int .i64 x5, .int .i64 x6]) (ys := [.int .i64 y0, .int .i64 y1, .int .i64 y2, .string ⟨(y3).toArray⟩, .bool y4, .int .i64 y5, .int .i64 y6]) rfl (Part.s (v := .bool x4) (Scal.mk' Tryz.underlying4 rfl (by kernel_rfl)) rfl) (Part.s (v := .bool y4) (Scal.mk' Tryz.underlying4 rfl (by kernel_rfl)) rfl) (EqV.bool Tryz.underlying4) (EqF.cons (xs := [.int .i64 x0, .int .i64 x1, .int .i64 x2, .string ⟨(x3).toArray⟩, .bool x4, .int .i64 x5, .int .i64 x6]) (ys := [.int .i64 y0, .int .i64 y1, .int .i64 y2, .string ⟨(y3).toArray⟩, .bool y4, .int .i64 y5, .int .i64 y6]) rfl (Part.s (v := .int .i64 x5) (Scal.mk' Tryz.underlying3 rfl (by kernel_rfl)) rfl) (Part.s (v := .int .i64 y5) (Scal.mk' Tryz.underlying3 rfl (by kernel_rfl)) rfl) (EqV.int Tryz.underlying3) (EqF.cons (xs := [.int .i64 x0, .int .i64 x1, .int .i64 x2, .string ⟨(x3).toArray⟩, .bool x4, .int .i64 x5, .int .i64 x6]) (ys := [.int .i64 y0, .int .i64 y1, .int .i64 y2, .string ⟨(y3).toArray⟩, .bool y4, .int .i64 y5, .int .i64 y6]) rfl (Part.s (v := .int .i64 x6) (Scal.mk' Tryz.underlying2 rfl (by kernel_rfl)) rfl) (Part.s (v := .int .i64 y6) (Scal.mk' Tryz.underlying2 rfl (by kernel_rfl)) rfl) (EqV.int Tryz.underlying2) EqF.nil))))))) EqF.nil))
theorem G_cache_put : P.eqGuardType P.depth T_cache_put = false := by kernel_rfl
theorem E_cache_drop {x0 y0 : Int} : EqV P 2 T_cache_drop (.agg [.int .i64 x0].toArray) (.agg [.int .i64 y0].toArray) (decide (x0 = y0) && true) := (EqV.struct (xs := [.int .i64 x0]) (ys := [.int .i64 y0]) Tryz.underlying110 (by kernel_rfl) (EqF.cons (xs := [.int .i64 x0]) (ys := [.int .i64 y0]) rfl (Part.s (v := .int .i64 x0) (Scal.mk' Tryz.underlying3 rfl (by kernel_rfl)) rfl) (Part.s (v := .int .i64 y0) (Scal.mk' Tryz.underlying3 rfl (by kernel_rfl)) rfl) (EqV.int Tryz.underlying3) EqF.nil))
theorem G_cache_drop : P.eqGuardType P.depth T_cache_drop = false := by kernel_rfl
theorem E_cache_clean {x0 y0 : Int} {x1 y1 : Int} {x2 y2 : Int} : EqV P 3 T_cache_clean (.agg [.int .i64 x0, .int .i64 x1, .int .i64 x2].toArray) (.agg [.int .i64 y0, .int .i64 y1, .int .i64 y2].toArray) (decide (x0 = y0) && ((decide (x1 = y1) && (decide (x2 = y2) && true)) && true)) := (EqV.struct (xs := [.int .i64 x0, .int .i64 x1, .int .i64 x2]) (ys := [.int .i64 y0, .int .i64 y1, .int .i64 y2]) Tryz.underlying112 (by kernel_rfl) (EqF.cons (xs := [.int .i64 x0, .int .i64 x1, .int .i64 x2]) (ys := [.int .i64 y0, .int .i64 y1, .int .i64 y2]) rfl (Part.s (v := .int .i64 x0) (Scal.mk' Tryz.underlying3 rfl (by kernel_rfl)) rfl) (Part.s (v := .int .i64 y0) (Scal.mk' Tryz.underlying3 rfl (by kernel_rfl)) rfl) (EqV.int Tryz.underlying3) (EqF.cons (xs := [.int .i64 x0, .int .i64 x1, .int .i64 x2]) (ys := [.int .i64 y0, .int .i64 y1, .int .i64 y2]) rfl (Part.a (n := 2) (vs := [.int .i64 x1, .int .i64 x2]) (Aggr.mk' Tryz.underlying29 rfl (by kernel_rfl)) rfl) (Part.a (n := 2) (vs := [.int .i64 y1, .int .i64 y2]) (Aggr.mk' Tryz.underlying29 rfl (by kernel_rfl)) rfl) (EqV.struct (xs := [.int .i64 x1, .int .i64 x2]) (ys := [.int .i64 y1, .int .i64 y2]) Tryz.underlying29 (by kernel_rfl) (EqF.cons (xs := [.int .i64 x1, .int .i64 x2]) (ys := [.int .i64 y1, .int .i64 y2]) rfl (Part.s (v := .int .i64 x1) (Scal.mk' Tryz.underlying2 rfl (by kernel_rfl)) rfl) (Part.s (v := .int .i64 y1) (Scal.mk' Tryz.underlying2 rfl (by kernel_rfl)) rfl) (EqV.int Tryz.underlying2) (EqF.cons (xs := [.int .i64 x1, .int .i64 x2]) (ys := [.int .i64 y1, .int .i64 y2]) rfl (Part.s (v := .int .i64 x2) (Scal.mk' Tryz.underlying2 rfl (by kernel_rfl)) rfl) (Part.s (v := .int .i64 y2) (Scal.mk' Tryz.underlying2 rfl (by kernel_rfl)) rfl) (EqV.int Tryz.underlying2) EqF.nil))) EqF.nil)))
theorem G_cache_clean : P.eqGuardType P.depth T_cache_clean = false := by kernel_rfl
theorem E_log_item {x0 y0 : List UInt8} {x1 y1 : Int} : EqV P 2 T_log_item (.agg [.string ⟨(x0).toArray⟩, .int .i64 x1].toArray) (.agg [.string ⟨(y0).toArray⟩, .int .i64 y1].toArray) (decide (x0 = y0) && (decide (x1 = y1) && true)) := (EqV.struct (xs := [.string ⟨(x0).toArray⟩, .int .i64 x1]) (ys := [.string ⟨(y0).toArray⟩, .int .i64 y1]) Tryz.underlying126 (by kernel_rfl) (EqF.cons (xs := [.string ⟨(x0).toArray⟩, .int .i64 x1]) (ys := [.string ⟨(y0).toArray⟩, .int .i64 y1]) rfl (Part.s (v := .string ⟨(x0).toArray⟩) (Scal.mk' Tryz.underlying9 rfl (by kernel_rfl)) rfl) (Part.s (v := .string ⟨(y0).toArray⟩) (Scal.mk' Tryz.underlying9 rfl (by kernel_rfl)) rfl) (EqV.str Tryz.underlying9) (EqF.cons (xs := [.string ⟨(x0).toArray⟩, .int .i64 x1]) (ys := [.string ⟨(y0).toArray⟩, .int .i64 y1]) rfl (Part.s (v := .int .i64 x1) (Scal.mk' Tryz.underlying2 rfl (by kernel_rfl)) rfl) (Part.s (v := .int .i64 y1) (Scal.mk' Tryz.underlying2 rfl (by kernel_rfl)) rfl) (EqV.int Tryz.underlying2) EqF.nil)))
theorem G_log_item : P.eqGuardType P.depth T_log_item = false := by kernel_rfl
theorem E_A2int {x0 y0 : Int} {x1 y1 : Int} : EqV P 2 T_A2int (.agg [.int .i64 x0, .int .i64 x1].toArray) (.agg [.int .i64 y0, .int .i64 y1].toArray) (decide (x0 = y0) && (decide (x1 = y1) && true)) := (EqV.arr (c := 1) (xs := [.int .i64 x0, .int .i64 x1]) (ys := [.int .i64 y0, .int .i64 y1]) Tryz.underlying135 (Size.mk' (by kernel_rfl)) (EqI.cons (xs := [.int .i64 x0, .int .i64 x1]) (ys := [.int .i64 y0, .int .i64 y1]) (Part.s (v := .int .i64 x0) (Scal.mk' Tryz.underlying3 rfl (by kernel_rfl)) rfl) (Part.s (v := .int .i64 y0) (Scal.mk' Tryz.underlying3 rfl (by kernel_rfl)) rfl) (EqV.int Tryz.underlying3) (EqI.cons (xs := [.int .i64 x0, .int .i64 x1]) (ys := [.int .i64 y0, .int .i64 y1]) (Part.s (v := .int .i64 x1) (Scal.mk' Tryz.underlying3 rfl (by kernel_rfl)) rfl) (Part.s (v := .int .i64 y1) (Scal.mk' Tryz.underlying3 rfl (by kernel_rfl)) rfl) (EqV.int Tryz.underlying3) EqI.nil)))
theorem G_A2int : P.eqGuardType P.depth T_A2int = false := by kernel_rfl
theorem mixed : P.follows .mixedOrders = true := by kernel_rfl
end Go.Proofs.YtjfacgmobpbhcaaGreat
/- Plain: values, numbers. -/
namespace Go.Sl
abbrev ptr (r : Nat) : Value := .pointer (some ⟨r, 0, none⟩)
abbrev i64 (n : Int) : Value := .int .i64 n
abbrev u8 (b : UInt8) : Value := .int .u8 (b.toNat : Int)
abbrev u32 (x : UInt32) : Value := .int .u32 (x.toNat : Int)
abbrev u64 (x : UInt64) : Value := .int .u64 (x.toNat : Int)
abbrev str (l : List UInt8) : Value := .string ⟨l.toArray⟩
theorem wr64 {x : Int} (h : -9223372036854775808 ≤ x) (h' : x ≤ 9223372036854775807) : IntKind.i64.wrap x = x := Go.IntWalk.i64_in x ⟨h, h'⟩
theorem wrapU {k : IntKind} (hs : k.signed = false) (x : Int) : k.wrap x = x % 2 ^ k.bits := by
  cases k <;> first | (simp [IntKind.signed] at hs; done) | (simp [IntKind.wrap, IntKind.signed, IntKind.bits])
theorem wrap_u32_nat (n : Nat) (h : n < 4294967296) : IntKind.u32.wrap (n : Int) = n := by
  rw [wrapU rfl]; simp only [IntKind.bits]; omega
theorem wrap_u8_nat (n : Nat) (h : n < 256) : IntKind.u8.wrap (n : Int) = n := by
  rw [wrapU rfl]; simp only [IntKind.bits]; omega
theorem wrap_u64_nat (n : Nat) (h : n < 18446744073709551616) : IntKind.u64.wrap (n : Int) = n := by
  rw [wrapU rfl]; simp only [IntKind.bits]; omega
theorem ofInt_u32 (x : UInt32) : BitVec.ofInt 32 (x.toNat : Int) = x.toBitVec := by
  apply BitVec.eq_of_toNat_eq; simp
theorem ofInt_u64 (x : UInt64) : BitVec.ofInt 64 (x.toNat : Int) = x.toBitVec := by
  apply BitVec.eq_of_toNat_eq; simp
theorem xor_u32 (x y : UInt32) : IntKind.u32.wrap (((BitVec.ofInt IntKind.u32.bits (x.toNat : Int) ^^^ BitVec.ofInt IntKind.u32.bits (y.toNat : Int)).toNat : Nat) : Int) = ((x ^^^ y).toNat : Int) := by
  show IntKind.u32.wrap (((BitVec.ofInt 32 (x.toNat : Int) ^^^ BitVec.ofInt 32 (y.toNat : Int)).toNat : Nat) : Int) = _
  rw [ofInt_u32, ofInt_u32, wrap_u32_nat _ (by exact (x.toBitVec ^^^ y.toBitVec).isLt)]
  rfl
theorem and_u32 (x y : UInt32) : IntKind.u32.wrap (((BitVec.ofInt IntKind.u32.bits (x.toNat : Int) &&& BitVec.ofInt IntKind.u32.bits (y.toNat : Int)).toNat : Nat) : Int) = ((x &&& y).toNat : Int) := by
  show IntKind.u32.wrap (((BitVec.ofInt 32 (x.toNat : Int) &&& BitVec.ofInt 32 (y.toNat : Int)).toNat : Nat) : Int) = _
  rw [ofInt_u32, ofInt_u32, wrap_u32_nat _ (by exact (x.toBitVec &&& y.toBitVec).isLt)]
  rfl
theorem or_u32 (x y : UInt32) : IntKind.u32.wrap (((BitVec.ofInt IntKind.u32.bits (x.toNat : Int) ||| BitVec.ofInt IntKind.u32.bits (y.toNat : Int)).toNat : Nat) : Int) = ((x ||| y).toNat : Int) := by
  show IntKind.u32.wrap (((BitVec.ofInt 32 (x.toNat : Int) ||| BitVec.ofInt 32 (y.toNat : Int)).toNat : Nat) : Int) = _
  rw [ofInt_u32, ofInt_u32, wrap_u32_nat _ (by exact (x.toBitVec ||| y.toBitVec).isLt)]
  rfl
theorem xor_u32c (x : UInt32) (n : Nat) (h : n < 4294967296) : IntKind.u32.wrap (((BitVec.ofInt IntKind.u32.bits (x.toNat : Int) ^^^ BitVec.ofInt IntKind.u32.bits (n : Int)).toNat : Nat) : Int) = ((x ^^^ UInt32.ofNat n).toNat : Int) := by
  have : (n : Int) = ((UInt32.ofNat n).toNat : Int) := by simp; omega
  rw [this]; exact xor_u32 _ _
theorem and_u32c (x : UInt32) (n : Nat) (h : n < 4294967296) : IntKind.u32.wrap (((BitVec.ofInt IntKind.u32.bits (x.toNat : Int) &&& BitVec.ofInt IntKind.u32.bits (n : Int)).toNat : Nat) : Int) = ((x &&& UInt32.ofNat n).toNat : Int) := by
  have : (n : Int) = ((UInt32.ofNat n).toNat : Int) := by simp; omega
  rw [this]; exact and_u32 _ _
theorem compl_u32 (x : UInt32) : IntKind.u32.wrap (((BitVec.ofInt IntKind.u32.bits (if IntKind.u32.signed then -1 else IntKind.u32.max) ^^^ BitVec.ofInt IntKind.u32.bits (x.toNat : Int)).toNat : Nat) : Int) = ((~~~x).toNat : Int) := by
  show IntKind.u32.wrap (((BitVec.ofInt 32 4294967295 ^^^ BitVec.ofInt 32 (x.toNat : Int)).toNat : Nat) : Int) = _
  rw [ofInt_u32, wrap_u32_nat _ (by exact (BitVec.ofInt 32 4294967295 ^^^ x.toBitVec).isLt)]
  have : BitVec.ofInt 32 4294967295 ^^^ x.toBitVec = ~~~x.toBitVec := by
    rw [show BitVec.ofInt 32 4294967295 = BitVec.allOnes 32 by decide, BitVec.allOnes_xor]
  rw [this]; rfl
theorem shr_u32 (x : UInt32) (k : Nat) (h : k < 32) : Int.fdiv (x.toNat : Int) (2 ^ (min (k : Int).toNat IntKind.u32.bits)) = ((x >>> UInt32.ofNat k).toNat : Int) := by
  have e1 : min (k : Int).toNat IntKind.u32.bits = k := by simp [IntKind.bits]; omega
  rw [e1]
  rw [Int.fdiv_eq_ediv_of_nonneg _ (by exact Int.pow_nonneg (by omega))]
  simp only [UInt32.toNat_shiftRight, UInt32.toNat_ofNat', Nat.shiftRight_eq_div_pow]
  rw [show k % 2 ^ 32 % 32 = k by omega]
  rfl
theorem shr_u32_one (x : UInt32) : Int.fdiv (x.toNat : Int) (2 ^ (min (1 : Int).toNat IntKind.u32.bits)) = ((x >>> 1).toNat : Int) := shr_u32 x 1 (by omega)
theorem conv_u8_u32 (b : UInt8) : IntKind.u32.wrap (b.toNat : Int) = (b.toUInt32.toNat : Int) := by
  rw [wrap_u32_nat _ (by have := b.toNat_lt; omega)]; simp
theorem conv_u8_i64 (b : UInt8) : IntKind.i64.wrap (b.toNat : Int) = (b.toNat : Int) := wr64 (by omega) (by have := b.toNat_lt; omega)
end Go.Sl
/- Plain: the sum. -/
namespace Sei
open Go.Sl
def crcBit (s : UInt32) : UInt32 := if s &&& 1 = 1 then (s >>> 1) ^^^ 0x82f63b78 else s >>> 1
def crcBits : Nat → UInt32 → UInt32
  | 0, s => s
  | k + 1, s => crcBits k (crcBit s)
def crcOn (s : UInt32) (b : UInt8) : UInt32 := crcBits 8 (s ^^^ b.toUInt32)
def crcFold (s : UInt32) (l : List UInt8) : UInt32 := l.foldl crcOn s
def crcMore (s : UInt32) (l : List UInt8) : UInt32 := ~~~(crcFold (~~~s) l)
def crcSum (l : List UInt8) : UInt32 := crcMore 0 l
theorem one_of {s : UInt32} : (((s &&& UInt32.ofNat 1).toNat : Int) = 1) ↔ s &&& 1 = 1 := by
  constructor
  · intro h; apply UInt32.toNat_inj.mp; exact Int.ofNat.inj h
  · intro h; rw [show UInt32.ofNat 1 = 1 from rfl, h]; rfl
theorem crcBit_t {s : UInt32} (h : decide (((s &&& UInt32.ofNat 1).toNat : Int) = 1) = true) : crcBit s = (s >>> 1) ^^^ UInt32.ofNat 2197175160 := by
  unfold crcBit; rw [if_pos (one_of.1 (of_decide_eq_true h))]; rfl
theorem crcBit_f {s : UInt32} (h : decide (((s &&& UInt32.ofNat 1).toNat : Int) = 1) = false) : crcBit s = s >>> 1 := by
  unfold crcBit; rw [if_neg (fun e => of_decide_eq_false h (one_of.2 e))]
theorem crcOn_step {s : UInt32} {b : UInt8} {k : Nat} {t : UInt32} (hc : decide ((k : Int) < 8) = true) (hx : k ≤ 8 ∧ crcBits (8 - k) t = crcOn s b) :
    k + 1 ≤ 8 ∧ crcBits (8 - (k + 1)) (crcBit t) = crcOn s b := by
  have hk := of_decide_eq_true hc
  refine ⟨by omega, ?_⟩
  rw [← hx.2, show 8 - k = (8 - (k + 1)) + 1 by omega]; rfl
theorem crcOn_done {s : UInt32} {b : UInt8} {k : Nat} {t : UInt32} (hc : decide ((k : Int) < 8) = false) (hx : k ≤ 8 ∧ crcBits (8 - k) t = crcOn s b) : t = crcOn s b := by
  have hk := of_decide_eq_false hc
  rw [← hx.2, show 8 - k = 0 by omega]; rfl
theorem crcMore_step {s t : UInt32} {bs : List UInt8} {k n : Nat} (hl : bs.length = n) (hc : (k : Int) < (n : Int)) (hx : k ≤ n ∧ crcFold t (bs.drop k) = crcFold (~~~s) bs) :
    ∃ b, bs[k]? = some b ∧ k + 1 ≤ n ∧ crcFold (crcOn t b) (bs.drop (k + 1)) = crcFold (~~~s) bs := by
  have hk : k < bs.length := by omega
  refine ⟨bs[k], by simp [hk], by omega, ?_⟩
  rw [← hx.2, List.drop_eq_getElem_cons hk]
  rfl
theorem crcMore_done {s t : UInt32} {bs : List UInt8} {k n : Nat} (hl : bs.length = n) (hc : ¬ (k : Int) < (n : Int)) (hx : k ≤ n ∧ crcFold t (bs.drop k) = crcFold (~~~s) bs) : ~~~t = crcMore s bs := by
  unfold crcMore
  rw [← hx.2, List.drop_eq_nil_of_le (by omega)]
  rfl
theorem u32_beq (a b : UInt32) : decide ((a.toNat : Int) = (b.toNat : Int)) = (a == b) := by
  by_cases h : a = b
  · subst h; simp
  · have : ¬ (a.toNat : Int) = (b.toNat : Int) := fun e => h (UInt32.toNat_inj.mp (by omega))
    simp [h, this]
end Sei
/- Plain: more of numbers. -/
namespace Go.Sl
theorem ofInt_nat (w n : Nat) : BitVec.ofInt w (n : Int) = BitVec.ofNat w n := by
  apply BitVec.eq_of_toNat_eq; simp
theorem wrap_nat {k : IntKind} (hs : k.signed = false) {n : Nat} (h : n < 2 ^ k.bits) : k.wrap (n : Int) = n := by
  rw [wrapU hs]
  have h2 : ((n : Int)) < 2 ^ k.bits := by exact_mod_cast h
  exact Int.emod_eq_of_lt (by omega) h2
theorem and_nat {k : IntKind} (hs : k.signed = false) {a b : Nat} (ha : a < 2 ^ k.bits) (hb : b < 2 ^ k.bits) : k.wrap ((BitVec.ofInt k.bits (a : Int) &&& BitVec.ofInt k.bits (b : Int)).toNat : Int) = ((a &&& b : Nat) : Int) := by
  rw [ofInt_nat, ofInt_nat, BitVec.toNat_and, BitVec.toNat_ofNat, BitVec.toNat_ofNat, Nat.mod_eq_of_lt ha, Nat.mod_eq_of_lt hb]
  exact wrap_nat hs (Nat.lt_of_le_of_lt Nat.and_le_left ha)
theorem or_nat {k : IntKind} (hs : k.signed = false) {a b : Nat} (ha : a < 2 ^ k.bits) (hb : b < 2 ^ k.bits) : k.wrap ((BitVec.ofInt k.bits (a : Int) ||| BitVec.ofInt k.bits (b : Int)).toNat : Int) = ((a ||| b : Nat) : Int) := by
  rw [ofInt_nat, ofInt_nat, BitVec.toNat_or, BitVec.toNat_ofNat, BitVec.toNat_ofNat, Nat.mod_eq_of_lt ha, Nat.mod_eq_of_lt hb]
  exact wrap_nat hs (Nat.or_lt_two_pow ha hb)
theorem xor_nat {k : IntKind} (hs : k.signed = false) {a b : Nat} (ha : a < 2 ^ k.bits) (hb : b < 2 ^ k.bits) : k.wrap ((BitVec.ofInt k.bits (a : Int) ^^^ BitVec.ofInt k.bits (b : Int)).toNat : Int) = ((a ^^^ b : Nat) : Int) := by
  rw [ofInt_nat, ofInt_nat, BitVec.toNat_xor, BitVec.toNat_ofNat, BitVec.toNat_ofNat, Nat.mod_eq_of_lt ha, Nat.mod_eq_of_lt hb]
  exact wrap_nat hs (Nat.xor_lt_two_pow ha hb)
theorem shr_nat {k : IntKind} (a s : Nat) (h : s ≤ k.bits) : Int.fdiv (a : Int) (2 ^ (min (s : Int).toNat k.bits)) = ((a / 2 ^ s : Nat) : Int) := by
  rw [show min (s : Int).toNat k.bits = s by simp; omega]
  rw [Int.fdiv_eq_ediv_of_nonneg _ (by exact Int.pow_nonneg (by omega))]
  simp
theorem shl_nat {k : IntKind} (hs : k.signed = false) (a s : Nat) (h : s ≤ k.bits) (hl : a * 2 ^ s < 2 ^ k.bits) : k.wrap ((a : Int) * 2 ^ (min (s : Int).toNat k.bits)) = ((a * 2 ^ s : Nat) : Int) := by
  rw [show min (s : Int).toNat k.bits = s by simp; omega]
  rw [← wrap_nat hs hl]; simp
/-- Zigzag. -/
def zig (n : Int) : Nat := if 0 ≤ n then (2 * n).toNat else (-2 * n - 1).toNat
def unzig (u : Nat) : Int := if u % 2 = 0 then (u / 2 : Nat) else -(u / 2 : Nat) - 1
theorem unzig_zig (n : Int) : unzig (zig n) = n := by unfold unzig zig; split <;> split <;> omega
def I64 (n : Int) : Prop := -9223372036854775808 ≤ n ∧ n ≤ 9223372036854775807
theorem zig_lt {n : Int} (h : I64 n) : zig n < 2 ^ 64 := by unfold I64 at h; unfold zig; split <;> omega
theorem unzig_I64 {u : Nat} (h : u < 2 ^ 64) : I64 (unzig u) := by unfold I64 unzig; split <;> omega
theorem zig_raw {n : Int} (h : I64 n) : IntKind.u64.wrap ((BitVec.ofInt IntKind.u64.bits (IntKind.u64.wrap (IntKind.u64.wrap n * 2 ^ (min (1 : Int).toNat IntKind.u64.bits))) ^^^ BitVec.ofInt IntKind.u64.bits (IntKind.u64.wrap (Int.fdiv n (2 ^ (min (63 : Int).toNat IntKind.i64.bits))))).toNat : Int) = (zig n : Int) := by
  unfold I64 at h
  have e1 : IntKind.u64.wrap (IntKind.u64.wrap n * 2 ^ (min (1 : Int).toNat IntKind.u64.bits)) = (((2 * n) % 2 ^ 64).toNat : Int) := by
    rw [wrapU rfl, wrapU rfl, show (2 : Int) ^ (min (1 : Int).toNat IntKind.u64.bits) = 2 from rfl]; simp only [IntKind.bits]; omega
  rw [e1]
  by_cases hn : 0 ≤ n
  · have e2 : IntKind.u64.wrap (Int.fdiv n (2 ^ (min (63 : Int).toNat IntKind.i64.bits))) = ((0 : Nat) : Int) := by
      rw [Int.fdiv_eq_ediv_of_nonneg _ (by decide)]
      rw [show n / 2 ^ (min (63 : Int).toNat IntKind.i64.bits) = 0 from Int.ediv_eq_zero_of_lt hn (by show n < 9223372036854775808; omega)]
      rfl
    rw [e2, xor_nat rfl (by show _ < 2 ^ 64; omega) (by decide), Nat.xor_zero]
    unfold zig; rw [if_pos hn]; omega
  · have e2 : IntKind.u64.wrap (Int.fdiv n (2 ^ (min (63 : Int).toNat IntKind.i64.bits))) = ((2 ^ 64 - 1 : Nat) : Int) := by
      rw [Int.fdiv_eq_ediv_of_nonneg _ (by decide)]
      rw [show n / 2 ^ (min (63 : Int).toNat IntKind.i64.bits) = -1 by show n / 9223372036854775808 = -1; omega]
      rfl
    rw [e2, xor_nat rfl (by show _ < 2 ^ 64; omega) (by decide)]
    have e3 : ((2 * n) % 2 ^ 64).toNat ^^^ (2 ^ 64 - 1) = 2 ^ 64 - 1 - ((2 * n) % 2 ^ 64).toNat := by
      have hlt : ((2 * n) % 2 ^ 64).toNat < 2 ^ 64 := by omega
      have := BitVec.toNat_not (x := BitVec.ofNat 64 (((2 * n) % 2 ^ 64).toNat))
      rw [← BitVec.xor_allOnes, BitVec.toNat_xor, BitVec.toNat_allOnes, BitVec.toNat_ofNat, Nat.mod_eq_of_lt hlt] at this
      exact this
    rw [e3]
    unfold zig; rw [if_neg hn]; omega
theorem unzig_raw {u : Nat} (h : u < 2 ^ 64) : IntKind.i64.wrap ((BitVec.ofInt IntKind.i64.bits (IntKind.i64.wrap (Int.fdiv (u : Int) (2 ^ (min (1 : Int).toNat IntKind.u64.bits)))) ^^^ BitVec.ofInt IntKind.i64.bits (IntKind.i64.wrap (0 - IntKind.i64.wrap (IntKind.u64.wrap ((BitVec.ofInt IntKind.u64.bits (u : Int) &&& BitVec.ofInt IntKind.u64.bits (1 : Int)).toNat : Int))))).toNat : Int) = unzig u := by
  have e1 : IntKind.i64.wrap (Int.fdiv (u : Int) (2 ^ (min (1 : Int).toNat IntKind.u64.bits))) = ((u / 2 : Nat) : Int) := by
    rw [show (1 : Int).toNat = ((1 : Nat) : Int).toNat from rfl, shr_nat (k := .u64) u 1 (by decide), wr64 (by omega) (by omega)]
  have e2 : IntKind.i64.wrap (IntKind.u64.wrap ((BitVec.ofInt IntKind.u64.bits (u : Int) &&& BitVec.ofInt IntKind.u64.bits (1 : Int)).toNat : Int)) = ((u % 2 : Nat) : Int) := by
    rw [show (1 : Int) = ((1 : Nat) : Int) from rfl, and_nat (k := .u64) rfl h (by decide), Nat.and_one_is_mod, wr64 (by omega) (by omega)]
  rw [e1, e2]
  have hk : u / 2 < 2 ^ 63 := by omega
  unfold unzig
  split
  · rename_i h2
    rw [h2, show IntKind.i64.wrap (0 - ((0 : Nat) : Int)) = ((0 : Nat) : Int) from rfl]
    rw [ofInt_nat, ofInt_nat, BitVec.toNat_xor, BitVec.toNat_ofNat, BitVec.toNat_ofNat]
    simp only [Nat.zero_mod, Nat.xor_zero, IntKind.bits]
    rw [Nat.mod_eq_of_lt (by omega), wr64 (by omega) (by omega)]
  · rename_i h2
    rw [show u % 2 = 1 by omega, show IntKind.i64.wrap (0 - ((1 : Nat) : Int)) = -1 from rfl]
    have e3 : BitVec.ofInt IntKind.i64.bits (-1) = BitVec.allOnes 64 := rfl
    rw [e3, ofInt_nat]
    show IntKind.i64.wrap ((BitVec.ofNat 64 (u / 2) ^^^ BitVec.allOnes 64).toNat : Int) = _
    rw [BitVec.xor_allOnes, BitVec.toNat_not, BitVec.toNat_ofNat, Nat.mod_eq_of_lt (by omega)]
    have : ((2 ^ 64 - 1 - u / 2 : Nat) : Int) = (-(u / 2 : Nat) - 1) + 2 ^ 64 := by omega
    rw [this]
    have hw : ∀ x : Int, IntKind.i64.wrap (x + 2 ^ 64) = IntKind.i64.wrap x := by
      intro x; simp [IntKind.wrap, IntKind.signed, IntKind.bits]
    rw [hw, wr64 (by omega) (by omega)]
theorem or128 (x : Nat) (h : x < 256) : x ||| 128 = x % 128 + 128 := by
  have e2 : 128 + x % 128 = 128 ||| x % 128 := Nat.two_pow_add_eq_or_of_lt (i := 7) (show x % 128 < 2 ^ 7 by omega) 1
  rcases Nat.lt_or_ge x 128 with hx | hx
  · rw [Nat.mod_eq_of_lt hx] at e2 ⊢
    rw [Nat.or_comm, ← e2]; omega
  · have e3 : x = 128 ||| x % 128 := by rw [← e2]; omega
    have e4 : x ||| 128 = (128 ||| x % 128) ||| 128 := by rw [← e3]
    rw [e4, Nat.or_comm, ← Nat.or_assoc, Nat.or_self, ← e2]; omega
theorem and127 (x : Nat) : x &&& 127 = x % 128 := Nat.and_two_pow_sub_one_eq_mod x 7
theorem or_add {u x s : Nat} (h : u < 2 ^ s) : u ||| (x * 2 ^ s) = u + x * 2 ^ s := by
  have := Nat.two_pow_add_eq_or_of_lt h x
  rw [Nat.or_comm, Nat.mul_comm, ← this]; omega
theorem u8_ofNat (n : Nat) (h : n < 256) : Value.int .u8 (n : Int) = u8 (UInt8.ofNat n) := by
  simp; omega
theorem wrap_u8_mod (n : Nat) : IntKind.u8.wrap (n : Int) = ((n % 256 : Nat) : Int) := by
  rw [wrapU rfl]; simp [IntKind.bits]
theorem byte_or128 (u : Nat) : IntKind.u8.wrap ((BitVec.ofInt IntKind.u8.bits (IntKind.u8.wrap (u : Int)) ||| BitVec.ofInt IntKind.u8.bits (128 : Int)).toNat : Int) = ((u % 128 + 128 : Nat) : Int) := by
  rw [wrap_u8_mod]
  refine (or_nat (k := .u8) rfl (a := u % 256) (b := 128) (Nat.mod_lt _ (by decide)) (by decide)).trans ?_
  rw [or128 _ (Nat.mod_lt _ (by omega))]; omega
theorem tmod_nat (a b : Nat) : Int.tmod (a : Int) (b : Int) = ((a % b : Nat) : Int) := rfl
theorem quo_u8 (a b : Nat) (h : a < 256) : IntKind.u8.wrap (Int.tdiv (a : Int) (b : Int)) = ((a / b : Nat) : Int) := by
  rw [show Int.tdiv (a : Int) (b : Int) = ((a / b : Nat) : Int) by simp]
  exact wrap_u8_nat _ (Nat.lt_of_le_of_lt (Nat.div_le_self a b) h)
end Go.Sl
/- Plain: what the library's generic functions compute. -/
namespace Sei
open Go Go.Sl
def idxGo (p : Value → Bool) : List Value → Int → Int
  | [], _ => -1
  | x :: xs, k => if p x then k else idxGo p xs (k + 1)
theorem idxGo_step {p : Value → Bool} {xs : List Value} {k n : Nat} (hl : xs.length = n) (hc : (k : Int) < (n : Int)) (hx : k ≤ n ∧ idxGo p (xs.drop k) k = idxGo p xs 0) :
    ∃ x, xs[k]? = some x ∧ x ∈ xs ∧ (p x = true → idxGo p xs 0 = k) ∧ (p x = false → k + 1 ≤ n ∧ idxGo p (xs.drop (k + 1)) ((k + 1 : Nat) : Int) = idxGo p xs 0) := by
  have hk : k < xs.length := by omega
  refine ⟨xs[k], by simp [hk], by simp, fun h => ?_, fun h => ⟨by omega, ?_⟩⟩ <;> rw [← hx.2, List.drop_eq_getElem_cons hk]
  · simp [idxGo, h]
  · simp [idxGo, h]
theorem idxGo_done {p : Value → Bool} {xs : List Value} {k n : Nat} (hl : xs.length = n) (hc : ¬ (k : Int) < (n : Int)) (hx : k ≤ n ∧ idxGo p (xs.drop k) k = idxGo p xs 0) : idxGo p xs 0 = -1 := by
  rw [← hx.2, List.drop_eq_nil_of_le (by omega)]
  rfl
theorem idxGo_any {p : Value → Bool} : ∀ (xs : List Value) (k : Int), 0 ≤ k → decide (idxGo p xs k ≥ 0) = xs.any p
  | [], _, _ => rfl
  | x :: xs, k, hk => by
    unfold idxGo
    by_cases h : p x = true
    · simp [h, hk]
    · simp only [if_neg h, List.any_cons, Bool.eq_false_iff.2 h, Bool.false_or]
      exact idxGo_any xs (k + 1) (by omega)
end Sei
/- Plain: records as bytes. -/
namespace Sei
open Go Go.Sl
structure Rec where
  kind : Int
  nums : List Int
  texts : List (List UInt8)
  deriving DecidableEq
def numsV (l : List Int) : List Value := l.map i64
def textsV (l : List (List UInt8)) : List Value := l.map str
@[simp] theorem numsV_length (l : List Int) : (numsV l).length = l.length := by simp [numsV]
@[simp] theorem textsV_length (l : List (List UInt8)) : (textsV l).length = l.length := by simp [textsV]
@[simp] theorem numsV_append (a b : List Int) : numsV (a ++ b) = numsV a ++ numsV b := by simp [numsV]
@[simp] theorem textsV_append (a b : List (List UInt8)) : textsV (a ++ b) = textsV a ++ textsV b := by simp [textsV]
abbrev recV (k : Int) (nv tv : Value) : Value := .agg [i64 k, nv, tv].toArray
def longT : Value → Bool
  | .string s => decide (200 < (s.size : Int))
  | _ => false
theorem longT_any (l : List (List UInt8)) : (textsV l).any longT = l.any fun t => decide (t.length > 200) := by
  induction l with
  | nil => rfl
  | cons t l ih =>
    have : longT (str t) = decide (t.length > 200) := by
      show decide (200 < ((t.toArray.size : Nat) : Int)) = _
      simp only [decide_eq_decide, List.size_toArray]; omega
    simp only [textsV, List.map_cons, List.any_cons] at ih ⊢
    rw [ih, this]
def mayRec (r : Rec) : Bool := decide (0 ≤ r.kind) && (decide (r.kind ≤ 255) && (decide (r.nums.length ≤ 16) && (decide (r.texts.length ≤ 4) && !(r.texts.any fun t => decide (t.length > 200)))))
def headB (nums texts : Nat) : Nat := if nums = 16 then 240 + texts else nums + 16 * texts
def vbs : Nat → Nat → List UInt8
  | 0, u => [UInt8.ofNat u]
  | f + 1, u => if u > 127 then UInt8.ofNat (u % 128 + 128) :: vbs f (u / 128) else [UInt8.ofNat u]
def numB (n : Int) : List UInt8 := vbs 9 (zig n)
structure NumI (n : Int) (f u : Nat) (acc : List UInt8) : Prop where
  eq : acc ++ vbs f u = numB n
  lt' : u < 2 ^ (7 * f + 1)
  le : f ≤ 9
  len : acc.length + f = 9
theorem NumI.start {n : Int} (h : I64 n) : NumI n 9 (zig n) [] := ⟨rfl, zig_lt h, by omega, rfl⟩
theorem NumI.lt {n : Int} {f u : Nat} {acc : List UInt8} (h : NumI n f u acc) : u < 2 ^ 64 := by
  have := h.lt'; have h2 := h.le
  have : 2 ^ (7 * f + 1) ≤ 2 ^ 64 := Nat.pow_le_pow_right (by omega) (by omega)
  omega
theorem NumI.pos {n : Int} {f u : Nat} {acc : List UInt8} (h : NumI n f u acc) (hu : 127 < u) : 0 < f := by
  rcases Nat.eq_zero_or_pos f with h0 | h0
  · have := h.lt'; subst h0; omega
  · exact h0
theorem NumI.step {n : Int} {f u : Nat} {acc : List UInt8} (h : NumI n f u acc) (hu : 127 < u) : NumI n (f - 1) (u / 128) (acc ++ [UInt8.ofNat (u % 128 + 128)]) := by
  have h0 := h.pos hu
  obtain ⟨f, rfl⟩ : ∃ k, f = k + 1 := ⟨f - 1, by omega⟩
  refine ⟨?_, ?_, by have := h.le; omega, by have := h.len; simp; omega⟩
  · rw [← h.eq]; simp [vbs, hu]
  · have := h.lt'
    simp only [Nat.add_sub_cancel]
    rw [show 7 * (f + 1) + 1 = (7 * f + 1) + 7 by omega, Nat.pow_add] at this
    omega
theorem NumI.done {n : Int} {f u : Nat} {acc : List UInt8} (h : NumI n f u acc) (hu : ¬ 127 < u) : acc ++ [UInt8.ofNat u] = numB n := by
  rw [← h.eq]
  cases f with
  | zero => rfl
  | succ f => simp [vbs, hu]
theorem vbs_len : ∀ f u, (vbs f u).length ≤ f + 1
  | 0, u => by simp [vbs]
  | f + 1, u => by
    unfold vbs; split
    · have := vbs_len f (u / 128); simp; omega
    · simp
theorem numB_len (n : Int) : (numB n).length ≤ 10 := vbs_len 9 _
def textB (t : List UInt8) : List UInt8 := UInt8.ofNat t.length :: t
def encB (r : Rec) : List UInt8 := [UInt8.ofNat r.kind.toNat, UInt8.ofNat (headB r.nums.length r.texts.length)] ++ (r.nums.flatMap numB ++ r.texts.flatMap textB)
def enc (r : Rec) : List UInt8 × Int := if mayRec r then (encB r, 0) else ([], 4)
theorem flat_le {α : Type} (f : α → List UInt8) (m : Nat) : ∀ (l : List α), (∀ x ∈ l, (f x).length ≤ m) → (l.flatMap f).length ≤ l.length * m
  | [], _ => by simp
  | x :: l, h => by
    have h1 := h x (by simp)
    have h2 := flat_le f m l fun y hy => h y (by simp [hy])
    simp only [List.flatMap_cons, List.length_append, List.length_cons, Nat.add_mul]; omega
theorem mayRec_nums {r : Rec} (h : mayRec r = true) : r.nums.length ≤ 16 := by simp [mayRec] at h; exact h.2.2.1
theorem mayRec_texts {r : Rec} (h : mayRec r = true) : r.texts.length ≤ 4 := by simp [mayRec] at h; exact h.2.2.2.1
theorem mayRec_text {r : Rec} (h : mayRec r = true) : ∀ t ∈ r.texts, t.length ≤ 200 := by
  simp [mayRec] at h; exact h.2.2.2.2
theorem mayRec_kind {r : Rec} (h : mayRec r = true) : 0 ≤ r.kind ∧ r.kind ≤ 255 := by simp [mayRec] at h; exact ⟨h.1, h.2.1⟩
def headBs (r : Rec) : List UInt8 := [UInt8.ofNat r.kind.toNat, UInt8.ofNat (headB r.nums.length r.texts.length)]
/-- What has been written when k numbers, j texts are done. -/
def encN (r : Rec) (k : Nat) : List UInt8 := headBs r ++ (r.nums.take k).flatMap numB
def encT (r : Rec) (j : Nat) : List UInt8 := encN r r.nums.length ++ (r.texts.take j).flatMap textB
theorem encN_len {r : Rec} (h : mayRec r = true) (k : Nat) : (encN r k).length ≤ 162 := by
  have := flat_le numB 10 (r.nums.take k) fun x _ => numB_len x
  have h2 := mayRec_nums h
  have h3 : (r.nums.take k).length ≤ r.nums.length := by simp; omega
  have h4 : (r.nums.take k).length * 10 ≤ 16 * 10 := Nat.mul_le_mul_right _ (by omega)
  simp only [encN, headBs, List.length_append, List.length_cons, List.length_nil]; omega
theorem encT_len {r : Rec} (h : mayRec r = true) (j : Nat) : (encT r j).length ≤ 1000 := by
  have := flat_le textB 201 (r.texts.take j) fun x hx => by
    have := mayRec_text h x (List.mem_of_mem_take hx); simp [textB]; omega
  have h2 := mayRec_texts h
  have h3 : (r.texts.take j).length ≤ r.texts.length := by simp; omega
  have h4 : (r.texts.take j).length * 201 ≤ 4 * 201 := Nat.mul_le_mul_right _ (by omega)
  have := encN_len h r.nums.length
  simp only [encT, List.length_append]; omega
theorem encN_step {r : Rec} {k : Nat} {n : Int} (h : r.nums[k]? = some n) : encN r (k + 1) = encN r k ++ numB n := by
  simp [encN, List.take_add_one, h]
theorem encT_step {r : Rec} {k : Nat} {t : List UInt8} (h : r.texts[k]? = some t) : encT r (k + 1) = encT r k ++ textB t := by
  simp [encT, List.take_add_one, h]
theorem encT_all (r : Rec) (h : mayRec r = true) : encT r r.texts.length = (enc r).1 := by
  simp [encT, encN, headBs, enc, h, encB]
theorem enc_no {r : Rec} (h : mayRec r = false) : enc r = ([], 4) := by simp [enc, h]
theorem enc_ok {r : Rec} (h : mayRec r = true) : (enc r).2 = 0 := by simp [enc, h]
theorem headBs_cells {r : Rec} (h : mayRec r = true) : (Value.int IntKind.u8 (IntKind.u8.wrap r.kind) :: u8 (UInt8.ofNat (headB r.nums.length r.texts.length)) :: []).take (2 * 1) = bytesV (headBs r) := by
  obtain ⟨h1, h2⟩ := mayRec_kind h
  have : r.kind = ((r.kind.toNat : Nat) : Int) := by omega
  rw [this, wrap_u8_nat _ (by omega), u8_ofNat _ (by omega)]
  simp [headBs, bytesV]
def RecOk (r : Rec) : Prop := I64 r.kind ∧ (∀ n ∈ r.nums, I64 n) ∧ ∀ t ∈ r.texts, t.length ≤ 9223372036854775807
/-! the way back -/
def decNumGo : Nat → Nat → Nat → List UInt8 → Option (Int × List UInt8)
  | 0, _, _, _ => none
  | f + 1, s, u, bs => match bs with
    | [] => none
    | x :: rest => if (s = 63 ∧ 1 < x.toNat) ∨ (0 < s ∧ x.toNat = 0) then none
      else if x.toNat < 128 then some (unzig (u + x.toNat % 128 * 2 ^ s), rest) else decNumGo f (s + 7) (u + x.toNat % 128 * 2 ^ s) rest
def decNum (bs : List UInt8) : Option (Int × List UInt8) := decNumGo 10 0 0 bs
def decNums : Nat → List UInt8 → Option (List Int × List UInt8)
  | 0, bs => some ([], bs)
  | k + 1, bs => match decNum bs with
    | none => none
    | some (n, bs) => match decNums k bs with
      | none => none
      | some (l, bs) => some (n :: l, bs)
def decTexts : Nat → List UInt8 → Option (List (List UInt8) × List UInt8)
  | 0, bs => some ([], bs)
  | k + 1, bs => match bs with
    | [] => none
    | x :: bs => if 200 < x.toNat ∨ bs.length < x.toNat then none else match decTexts k (bs.drop x.toNat) with
      | none => none
      | some (l, bs') => some (bs.take x.toNat :: l, bs')
def decRec (bs : List UInt8) : Option Rec := match bs with
  | a :: b :: rest =>
    let nums := if 240 ≤ b.toNat then 16 else b.toNat % 16
    let texts := if 240 ≤ b.toNat then b.toNat - 240 else b.toNat / 16
    if 4 < texts then none else match decNums nums rest with
    | none => none
    | some (ns, rest) => match decTexts texts rest with
      | none => none
      | some (ts, rest) => if rest.isEmpty then some ⟨a.toNat, ns, ts⟩ else none
  | _ => none
def dec (bs : List UInt8) : Rec × Int := match decRec bs with
  | some r => (r, 0)
  | none => (⟨0, [], []⟩, 4)
end Sei
/- Plain: reading a number. -/
namespace Sei
open Go Go.Sl
def badB (s : Nat) (x : UInt8) : Prop := (s = 63 ∧ 1 < x.toNat) ∨ (0 < s ∧ x.toNat = 0)
structure DecI (bs0 : List UInt8) (f s u : Nat) (bs : List UInt8) : Prop where
  eq : decNumGo f s u bs = decNum bs0
  hs : s + 7 * f = 70
  hf : 1 ≤ f
  hu : u < 2 ^ s
theorem DecI.start (bs : List UInt8) : DecI bs 10 0 0 bs := ⟨rfl, by omega, by omega, by decide⟩
theorem DecI.empty {bs0 : List UInt8} {f s u : Nat} (h : DecI bs0 f s u []) : decNum bs0 = none := by
  rw [← h.eq]; obtain ⟨f, rfl⟩ : ∃ k, f = k + 1 := ⟨f - 1, by have := h.hf; omega⟩; rfl
theorem DecI.bad {bs0 : List UInt8} {f s u : Nat} {x : UInt8} {rest : List UInt8} (h : DecI bs0 f s u (x :: rest)) (hb : badB s x) : decNum bs0 = none := by
  rw [← h.eq]; obtain ⟨f, rfl⟩ : ∃ k, f = k + 1 := ⟨f - 1, by have := h.hf; omega⟩
  unfold badB at hb; simp only [decNumGo]; rw [if_pos hb]
theorem DecI.small {bs0 : List UInt8} {f s u : Nat} {x : UInt8} {rest : List UInt8} (h : DecI bs0 f s u (x :: rest)) (hb : ¬ badB s x) : x.toNat % 128 * 2 ^ s < 2 ^ 64 ∧ u + x.toNat % 128 * 2 ^ s < 2 ^ 64 := by
  have h1 := h.hs; have h2 := h.hf; have h3 := h.hu
  unfold badB at hb
  rcases Nat.lt_or_ge s 57 with hs | hs
  · have h4 : 2 ^ s ≤ 2 ^ 56 := Nat.pow_le_pow_right (by omega) (by omega)
    have h5 : x.toNat % 128 * 2 ^ s ≤ 127 * 2 ^ 56 := Nat.mul_le_mul (by omega) h4
    omega
  · have : s = 63 := by omega
    subst this
    have h6 : x.toNat % 128 ≤ 1 := by omega
    have h5 : x.toNat % 128 * 2 ^ 63 ≤ 1 * 2 ^ 63 := Nat.mul_le_mul_right _ h6
    omega
theorem DecI.le {bs0 : List UInt8} {f s u : Nat} {bs : List UInt8} (h : DecI bs0 f s u bs) : s ≤ 63 := by have h1 := h.hs; have h2 := h.hf; omega
theorem DecI.lt {bs0 : List UInt8} {f s u : Nat} {bs : List UInt8} (h : DecI bs0 f s u bs) : u < 2 ^ 64 := Nat.lt_of_lt_of_le h.hu (Nat.pow_le_pow_right (by omega) (by have := h.le; omega))
theorem DecI.done {bs0 : List UInt8} {f s u : Nat} {x : UInt8} {rest : List UInt8} (h : DecI bs0 f s u (x :: rest)) (hb : ¬ badB s x) (hx : x.toNat < 128) : decNum bs0 = some (unzig (u + x.toNat % 128 * 2 ^ s), rest) := by
  rw [← h.eq]; obtain ⟨f, rfl⟩ : ∃ k, f = k + 1 := ⟨f - 1, by have := h.hf; omega⟩
  unfold badB at hb; simp only [decNumGo]; rw [if_neg hb, if_pos hx]
theorem DecI.step {bs0 : List UInt8} {f s u : Nat} {x : UInt8} {rest : List UInt8} (h : DecI bs0 f s u (x :: rest)) (hb : ¬ badB s x) (hx : ¬ x.toNat < 128) : DecI bs0 (f - 1) (s + 7) (u + x.toNat % 128 * 2 ^ s) rest := by
  have h1 := h.hs; have h2 := h.hf; have h3 := h.hu
  have hs : s ≠ 63 := fun e => hb (.inl ⟨e, by omega⟩)
  refine ⟨?_, by omega, by omega, ?_⟩
  · rw [← h.eq]; obtain ⟨f, rfl⟩ : ∃ k, f = k + 1 := ⟨f - 1, by omega⟩
    unfold badB at hb; simp only [decNumGo]; rw [if_neg hb, if_neg hx]; rfl
  · have h5 : x.toNat % 128 * 2 ^ s ≤ 127 * 2 ^ s := Nat.mul_le_mul_right _ (by omega)
    rw [Nat.pow_add]; omega
theorem byte_and127 (x : UInt8) : IntKind.u8.wrap ((BitVec.ofInt IntKind.u8.bits (x.toNat : Int) &&& BitVec.ofInt IntKind.u8.bits (127 : Int)).toNat : Int) = ((x.toNat % 128 : Nat) : Int) := by
  have h : x.toNat < 256 := x.toNat_lt
  exact (and_nat (k := .u8) rfl (a := x.toNat) (b := 127) h (by decide)).trans (by rw [and127])
theorem or_step {u x s : Nat} (h : u < 2 ^ s) (hl : u < 2 ^ 64) (h2 : x * 2 ^ s < 2 ^ 64) : IntKind.u64.wrap ((BitVec.ofInt IntKind.u64.bits (u : Int) ||| BitVec.ofInt IntKind.u64.bits ((x * 2 ^ s : Nat) : Int)).toNat : Int) = ((u + x * 2 ^ s : Nat) : Int) :=
  (or_nat (k := .u64) rfl hl h2).trans (by rw [or_add h])
theorem cons_of {bs : List UInt8} (h : 1 ≤ bs.length) : ∃ x rest, bs = x :: rest := by
  cases bs with
  | nil => simp at h
  | cons x rest => exact ⟨x, rest, rfl⟩
theorem decNum_I64 {bs : List UInt8} {n : Int} {rest : List UInt8} (h : decNum bs = some (n, rest)) : I64 n := by
  suffices H : ∀ f s u bs, DecI bs f s u bs → True by
    have : ∀ f s u bs', s + 7 * f = 70 → u < 2 ^ s → decNumGo f s u bs' = some (n, rest) → I64 n := by
      intro f
      induction f with
      | zero => intro s u bs' _ _ h; cases h
      | succ f ih =>
        intro s u bs' hs hu h
        cases bs' with
        | nil => cases h
        | cons x r =>
          simp only [decNumGo] at h
          split at h
          · cases h
          · rename_i hb
            have hD : DecI (x :: r) (f + 1) s u (x :: r) → True := fun _ => trivial
            have hsm : x.toNat % 128 * 2 ^ s < 2 ^ 64 ∧ u + x.toNat % 128 * 2 ^ s < 2 ^ 64 := by
              rcases Nat.lt_or_ge s 57 with hs' | hs'
              · have h4 : 2 ^ s ≤ 2 ^ 56 := Nat.pow_le_pow_right (by omega) (by omega)
                have h5 : x.toNat % 128 * 2 ^ s ≤ 127 * 2 ^ 56 := Nat.mul_le_mul (by omega) h4
                omega
              · have : s = 63 := by omega
                subst this
                have h6 : x.toNat % 128 ≤ 1 := by omega
                have h5 : x.toNat % 128 * 2 ^ 63 ≤ 1 * 2 ^ 63 := Nat.mul_le_mul_right _ h6
                omega
            split at h
            · injection h with h; injection h with h1 h2
              rw [← h1]; exact unzig_I64 hsm.2
            · refine ih (s + 7) _ r (by omega) ?_ h
              have h5 : x.toNat % 128 * 2 ^ s ≤ 127 * 2 ^ s := Nat.mul_le_mul_right _ (by omega)
              rw [Nat.pow_add]; omega
    exact this 10 0 0 bs (by omega) (by decide) h
  intros; trivial
theorem decNums_I64 : ∀ (k : Nat) {bs : List UInt8} {l : List Int} {rest : List UInt8}, decNums k bs = some (l, rest) → l.length = k ∧ ∀ n ∈ l, I64 n
  | 0, bs, l, rest, h => by simp [decNums] at h; simp [h.1]
  | k + 1, bs, l, rest, h => by
    unfold decNums at h
    split at h
    · cases h
    · rename_i n bs1 h1
      split at h
      · cases h
      · rename_i l2 bs2 h2
        injection h with h; injection h with h3 h4
        subst h3
        obtain ⟨e1, e2⟩ := decNums_I64 k h2
        refine ⟨by simp [e1], fun m hm => ?_⟩
        rcases List.mem_cons.1 hm with rfl | hm
        · exact decNum_I64 h1
        · exact e2 m hm
theorem bytesV_tail (x : UInt8) (rest : List UInt8) : ((bytesV (x :: rest)).drop (1 * 1)).take (((x :: rest).length - 1) * 1) = bytesV rest := by
  simp [bytesV]
  rw [List.take_of_length_le (by simp)]
end Sei
namespace Sei
open Go Go.Sl
def numsOf (b : UInt8) : Nat := if 240 ≤ b.toNat then 16 else b.toNat % 16
def textsOf (b : UInt8) : Nat := if 240 ≤ b.toNat then b.toNat - 240 else b.toNat / 16
/-- So far k of the numbers have been read. -/
structure NumsI (N : Nat) (bs : List UInt8) (acc : List Int) (rest : List UInt8) : Prop where
  le : acc.length ≤ N
  eq : decNums N bs = (decNums (N - acc.length) rest).map fun p => (acc ++ p.1, p.2)
theorem NumsI.start (N : Nat) (bs : List UInt8) : NumsI N bs [] bs := ⟨Nat.zero_le _, by simp⟩
theorem NumsI.step {N : Nat} {bs : List UInt8} {acc : List Int} {rest rest' : List UInt8} {n : Int} (h : NumsI N bs acc rest) (hl : acc.length < N) (hd : decNum rest = some (n, rest')) : NumsI N bs (acc ++ [n]) rest' := by
  refine ⟨by simp; omega, ?_⟩
  rw [h.eq, show N - acc.length = (N - (acc ++ [n]).length) + 1 by simp; omega]
  simp only [decNums, hd]
  cases decNums (N - (acc ++ [n]).length) rest' <;> simp
theorem NumsI.bad {N : Nat} {bs : List UInt8} {acc : List Int} {rest : List UInt8} (h : NumsI N bs acc rest) (hl : acc.length < N) (hd : decNum rest = none) : decNums N bs = none := by
  rw [h.eq, show N - acc.length = (N - acc.length - 1) + 1 by omega]
  simp only [decNums, hd]; rfl
theorem NumsI.done {N : Nat} {bs : List UInt8} {acc : List Int} {rest : List UInt8} (h : NumsI N bs acc rest) (hl : ¬ acc.length < N) : decNums N bs = some (acc, rest) := by
  rw [h.eq, show N - acc.length = 0 by omega]; simp [decNums]
structure TextsI (N : Nat) (bs : List UInt8) (acc : List (List UInt8)) (rest : List UInt8) : Prop where
  le : acc.length ≤ N
  eq : decTexts N bs = (decTexts (N - acc.length) rest).map fun p => (acc ++ p.1, p.2)
theorem TextsI.start (N : Nat) (bs : List UInt8) : TextsI N bs [] bs := ⟨Nat.zero_le _, by simp⟩
theorem TextsI.step {N : Nat} {bs : List UInt8} {acc : List (List UInt8)} {rest : List UInt8} {x : UInt8} (h : TextsI N bs acc (x :: rest)) (hl : acc.length < N) (h1 : ¬ 200 < x.toNat) (h2 : x.toNat ≤ rest.length) : TextsI N bs (acc ++ [rest.take x.toNat]) (rest.drop x.toNat) := by
  refine ⟨by simp; omega, ?_⟩
  rw [h.eq, show N - acc.length = (N - (acc ++ [rest.take x.toNat]).length) + 1 by simp; omega]
  simp only [decTexts]
  rw [if_neg (by omega)]
  cases decTexts (N - (acc ++ [rest.take x.toNat]).length) (rest.drop x.toNat) <;> simp
theorem TextsI.empty {N : Nat} {bs : List UInt8} {acc : List (List UInt8)} (h : TextsI N bs acc []) (hl : acc.length < N) : decTexts N bs = none := by
  rw [h.eq, show N - acc.length = (N - acc.length - 1) + 1 by omega]; rfl
theorem TextsI.bad {N : Nat} {bs : List UInt8} {acc : List (List UInt8)} {rest : List UInt8} {x : UInt8} (h : TextsI N bs acc (x :: rest)) (hl : acc.length < N) (h1 : 200 < x.toNat ∨ rest.length < x.toNat) : decTexts N bs = none := by
  rw [h.eq, show N - acc.length = (N - acc.length - 1) + 1 by omega]
  simp only [decTexts]; rw [if_pos h1]; rfl
theorem TextsI.done {N : Nat} {bs : List UInt8} {acc : List (List UInt8)} {rest : List UInt8} (h : TextsI N bs acc rest) (hl : ¬ acc.length < N) : decTexts N bs = some (acc, rest) := by
  rw [h.eq, show N - acc.length = 0 by omega]; simp [decTexts]
theorem decRec_short {bs : List UInt8} (h : bs.length < 2) : decRec bs = none := by
  match bs, h with
  | [], _ => rfl
  | [_], _ => rfl
theorem decRec_cons (a b : UInt8) (rest : List UInt8) : decRec (a :: b :: rest) = if 4 < textsOf b then none else match decNums (numsOf b) rest with
    | none => none
    | some (ns, rest) => match decTexts (textsOf b) rest with
      | none => none
      | some (ts, rest) => if rest.isEmpty then some ⟨a.toNat, ns, ts⟩ else none := rfl
theorem cons2_of {bs : List UInt8} (h : 2 ≤ bs.length) : ∃ x y rest, bs = x :: y :: rest := by
  match bs, h with
  | x :: y :: rest, _ => exact ⟨x, y, rest, rfl⟩
theorem bytesV_tail2 (x y : UInt8) (rest : List UInt8) : ((bytesV (x :: y :: rest)).drop (2 * 1)).take (((x :: y :: rest).length - 2) * 1) = bytesV rest := by
  simp [bytesV]
  rw [List.take_of_length_le (by simp)]
theorem bytesV_sub (bs : List UInt8) (l q : Nat) : ((bytesV bs).drop (l * 1)).take ((q - l) * 1) = bytesV ((bs.drop l).take (q - l)) := by
  simp [bytesV, List.map_take, List.map_drop]
theorem Vw.head {S : HP} {v : Value} {bs : List UInt8} {k : Nat} (hR : Vw S v 1 bs.length (bytesV bs)) (hk : k ≤ bs.length) : Vw S (subS v 0 k 1) 1 k (bytesV (bs.take k)) := by
  have := hR.sub (l := 0) (q := k) hk (Nat.zero_le _)
  rw [bytesV_sub] at this
  rwa [Nat.sub_zero, List.drop_zero] at this
theorem Vw.tail {S : HP} {v : Value} {bs : List UInt8} {k : Nat} (hR : Vw S v 1 bs.length (bytesV bs)) (hk : k ≤ bs.length) : Vw S (subS v k bs.length 1) 1 (bs.drop k).length (bytesV (bs.drop k)) := by
  have := hR.sub (l := k) (q := bs.length) (Nat.le_refl _) hk
  rw [bytesV_sub, List.take_of_length_le (by simp)] at this
  simpa using this
theorem dec_none {bs : List UInt8} (h : decRec bs = none) : dec bs = (⟨0, [], []⟩, 4) := by simp [dec, h]
theorem dec_some {bs : List UInt8} {r : Rec} (h : decRec bs = some r) : dec bs = (r, 0) := by simp [dec, h]
end Sei
/- Plain: devices of sectors. -/
namespace Sei
open Go Go.Sl
/-! lists that stand one behind the other -/
theorem getN_intro : ∀ (n : Nat) (l : List Value) (k : Nat), k + n ≤ l.length → getN l k n = some ((l.drop k).take n)
  | 0, l, k, _ => by simp [getN]
  | n + 1, l, k, h => by
    have hk : k < l.length := by omega
    rw [getN, getN_intro n l (k + 1) (by omega), List.drop_eq_getElem_cons hk, List.take_succ_cons, List.getElem?_eq_getElem hk]
theorem upd_intro : ∀ (l : List Value) (k : Nat) (v : Value), k < l.length → upd l k v = some (l.set k v)
  | x :: xs, 0, v, _ => rfl
  | x :: xs, k + 1, v, h => by
    have := upd_intro xs k v (by simpa using h)
    simp [upd, this]
theorem updN_ex : ∀ (vs l : List Value) (k : Nat), k + vs.length ≤ l.length → ∃ l', updN l k vs = some l'
  | [], l, k, _ => ⟨l, rfl⟩
  | v :: vs, l, k, h => by
    simp only [List.length_cons] at h
    obtain ⟨l', h'⟩ := updN_ex vs (l.set k v) (k + 1) (by simp; omega)
    exact ⟨l', by rw [updN, upd_intro l k v (by omega)]; exact h'⟩
theorem updN_intro {vs l : List Value} {k : Nat} (h : k + vs.length ≤ l.length) : updN l k vs = some (l.take k ++ vs ++ l.drop (k + vs.length)) := by
  obtain ⟨l', h'⟩ := updN_ex vs l k h
  rw [h', (updN_spec vs l k l' h').1]; rfl
theorem flat_len {m : Nat} : ∀ (l : List (List Value)), (∀ s ∈ l, s.length = m) → l.flatten.length = l.length * m
  | [], _ => by simp
  | s :: l, h => by
    rw [List.flatten_cons, List.length_append, flat_len l fun x hx => h x (by simp [hx]), h s (by simp), List.length_cons, Nat.add_mul]; omega
theorem flat_get {m : Nat} : ∀ (l : List (List Value)) (i : Nat), (∀ s ∈ l, s.length = m) → (h : i < l.length) → (l.flatten.drop (i * m)).take m = l[i]
  | s :: l, 0, hs, _ => by simp [← hs s (by simp)]
  | s :: l, i + 1, hs, h => by
    have h1 := hs s (by simp)
    rw [List.flatten_cons, show (i + 1) * m = s.length + i * m by rw [h1, Nat.add_mul]; omega, ← List.drop_drop, List.drop_left]
    simpa using flat_get l i (fun x hx => hs x (by simp [hx])) (by simpa using h)
theorem flat_set {m : Nat} : ∀ (l : List (List Value)) (i : Nat) (t : List Value), (∀ s ∈ l, s.length = m) → i < l.length → l.flatten.take (i * m) ++ (t ++ l.flatten.drop (i * m + m)) = (l.set i t).flatten
  | s :: l, 0, t, hs, _ => by simp [← hs s (by simp)]
  | s :: l, i + 1, t, hs, h => by
    have h1 := hs s (by simp)
    have h2 := flat_set l i t (fun x hx => hs x (by simp [hx])) (by simpa using h)
    rw [List.set_cons_succ, List.flatten_cons, List.flatten_cons, ← h2]
    rw [show (i + 1) * m = s.length + i * m by rw [h1, Nat.add_mul]; omega, List.take_append, List.take_of_length_le (by omega)]
    rw [show s.length + i * m + m = s.length + (i * m + m) by omega, ← List.drop_drop, List.drop_left]
    simp
def flatV (l : List (List UInt8)) : List Value := (l.map bytesV).flatten
theorem flatV_all {l : List (List UInt8)} (h : ∀ s ∈ l, s.length = 144) : ∀ s ∈ l.map bytesV, s.length = 144 := by
  intro s hs; obtain ⟨b, hb, rfl⟩ := List.mem_map.1 hs; simpa using h b hb
theorem flatV_len {l : List (List UInt8)} (h : ∀ s ∈ l, s.length = 144) : (flatV l).length = l.length * 144 := by
  have := flat_len _ (flatV_all h)
  rw [List.length_map] at this; exact this
theorem flatV_get {l : List (List UInt8)} (h : ∀ s ∈ l, s.length = 144) {i k : Nat} {s : List UInt8} (hi : l[i]? = some s) (hk : i * 144 = k) : getN (flatV l) k 144 = some (bytesV s) := by
  obtain ⟨hlt, rfl⟩ := List.getElem?_eq_some_iff.1 hi
  have := flatV_len h
  rw [getN_intro _ _ _ (by omega), ← hk]
  have := flat_get (l.map bytesV) i (flatV_all h) (by simpa using hlt)
  rw [flatV, this]; simp
theorem flatV_set {l : List (List UInt8)} (h : ∀ s ∈ l, s.length = 144) {i k : Nat} {s : List UInt8} (hi : i < l.length) (hs : s.length = 144) (hk : i * 144 = k) : updN (flatV l) k (bytesV s) = some (flatV (l.set i s)) := by
  have := flatV_len h
  rw [updN_intro (by simp; omega), ← hk]
  have := flat_set (l.map bytesV) i (bytesV s) (flatV_all h) (by simpa using hi)
  rw [flatV, flatV, List.map_set, ← this]; simp [hs]
/-! lists of keys and values -/
def afind {α : Type} (l : List (Int × α)) (k : Int) : Option α := (l.find? fun p => p.1 == k).map (·.2)
def aset {α : Type} (l : List (Int × α)) (k : Int) (v : α) : List (Int × α) := if l.any (fun p => p.1 == k) then l.map (fun p => if p.1 == k then (k, v) else p) else l ++ [(k, v)]
def adel {α : Type} (l : List (Int × α)) (k : Int) : List (Int × α) := l.filter fun p => !(p.1 == k)
def amap {α : Type} (f : α → Value) (l : List (Int × α)) : List (Int × Value) := l.map fun p => (p.1, f p.2)
theorem kfind_amap {α : Type} (f : α → Value) (l : List (Int × α)) (k : Int) : kfind (amap f l) k = (afind l k).map f := by
  induction l with
  | nil => rfl
  | cons p l ih =>
    unfold kfind afind amap at *
    by_cases h : p.1 == k
    · simp [h]
    · simp only [List.map_cons, List.find?_cons, h]; exact ih
theorem any_amap {α : Type} (f : α → Value) (l : List (Int × α)) (k : Int) : (amap f l).any (fun p => p.1 == k) = l.any (fun p => p.1 == k) := by
  simp [amap, List.any_map, Function.comp_def]
theorem kset_amap {α : Type} (f : α → Value) (l : List (Int × α)) (k : Int) (v : α) : kset (amap f l) k (f v) = amap f (aset l k v) := by
  unfold kset aset
  rw [any_amap]
  split
  · unfold amap
    rw [List.map_map, List.map_map]
    apply List.map_congr_left
    intro p _
    simp only [Function.comp]
    split <;> rfl
  · simp [amap]
theorem kdel_amap {α : Type} (f : α → Value) (l : List (Int × α)) (k : Int) : kdel (amap f l) k = amap f (adel l k) := by
  unfold kdel adel amap
  rw [List.filter_map]; rfl
@[simp] theorem amap_length {α : Type} (f : α → Value) (l : List (Int × α)) : (amap f l).length = l.length := by simp [amap]
/-! devices -/
structure DevM where
  l : List (List UInt8)
  pend : List (Int × List UInt8)
  dead : Bool
  fuse : Int
  deriving DecidableEq
structure DevOk (D : DevM) : Prop where
  secs : ∀ s ∈ D.l, s.length = 144
  pend : ∀ p ∈ D.pend, 0 ≤ p.1 ∧ p.1 < (D.l.length : Int) ∧ p.2.length = 144
  n : D.l.length ≤ 512
  fuse : -1 ≤ D.fuse ∧ D.fuse ≤ 9223372036854775807
def zeros (n : Nat) : List UInt8 := List.replicate n 0
def pad (b : List UInt8) : List UInt8 := b ++ zeros (144 - b.length)
def devNew (n : Nat) : DevM := ⟨List.replicate n (zeros 144), [], false, -1⟩
def devAct (D : DevM) : DevM × Int := if D.fuse = 0 then ({ D with dead := true }, 30) else ({ D with fuse := if 0 < D.fuse then D.fuse - 1 else D.fuse }, 0)
def devHas (D : DevM) (i : Int) : Int := if D.dead then 30 else if i < 0 ∨ (D.l.length : Int) ≤ i then 2 else 0
def devWrite (D : DevM) (i : Int) (b : List UInt8) : DevM × Int :=
  if devHas D i ≠ 0 then (D, devHas D i) else if 144 < b.length then (D, 3)
  else if (devAct D).2 ≠ 0 then devAct D else ({ (devAct D).1 with pend := aset (devAct D).1.pend i (pad b) }, 0)
def secV (s : List UInt8) : Value := .agg (bytesV s).toArray
def applyAll (l : List (List UInt8)) (pend : List (Int × List UInt8)) : List (List UInt8) := l.mapIdx fun i s => (afind pend (i : Int)).getD s
def devBarrier (D : DevM) : DevM × Int :=
  if D.dead then (D, 30) else if (devAct D).2 ≠ 0 then devAct D else ({ (devAct D).1 with l := applyAll (devAct D).1.l (devAct D).1.pend, pend := [] }, 0)
def devSec (D : DevM) (i : Int) : List UInt8 := (afind D.pend i).getD (D.l[i.toNat]?.getD [])
def devRead (D : DevM) (i : Int) : List UInt8 × Int := if devHas D i ≠ 0 then ([], devHas D i) else (devSec D i, 0)
def devUp (D : DevM) : DevM := { D with pend := [], dead := false, fuse := -1 }
theorem DevOk.act {D : DevM} (h : DevOk D) : DevOk (devAct D).1 := by
  obtain ⟨h1, h2, h3, h4⟩ := h
  unfold devAct; split
  · exact ⟨h1, h2, h3, h4⟩
  · exact ⟨h1, h2, h3, by dsimp only; split <;> omega⟩
theorem flatV_zeros (n : Nat) : flatV (List.replicate n (zeros 144)) = List.replicate (n * 144) (Value.int .u8 0) := by
  have : bytesV (zeros 144) = List.replicate 144 (Value.int .u8 0) := rfl
  rw [flatV, List.map_replicate, this, List.flatten_replicate_replicate]
theorem devWrite_has {D : DevM} {i : Int} {b : List UInt8} (h : devHas D i ≠ 0) : devWrite D i b = (D, devHas D i) := by unfold devWrite; rw [if_pos h]
theorem devWrite_long {D : DevM} {i : Int} {b : List UInt8} (h : devHas D i = 0) (h2 : 144 < b.length) : devWrite D i b = (D, 3) := by unfold devWrite; rw [if_neg (by simp [h]), if_pos h2]
theorem devWrite_act {D : DevM} {i : Int} {b : List UInt8} (h : devHas D i = 0) (h2 : ¬ 144 < b.length) (h3 : (devAct D).2 ≠ 0) : devWrite D i b = devAct D := by unfold devWrite; rw [if_neg (by simp [h]), if_neg h2, if_pos h3]
theorem devWrite_ok {D : DevM} {i : Int} {b : List UInt8} (h : devHas D i = 0) (h2 : ¬ 144 < b.length) (h3 : (devAct D).2 = 0) : devWrite D i b = ({ (devAct D).1 with pend := aset (devAct D).1.pend i (pad b) }, 0) := by unfold devWrite; rw [if_neg (by simp [h]), if_neg h2, if_neg (by simp [h3])]
theorem pad_len {b : List UInt8} (h : b.length ≤ 144) : (pad b).length = 144 := by simp [pad, zeros]; omega
theorem putAt_front (k : Nat) (z : Value) (vs : List Value) : putAt (List.replicate k z) 0 vs = vs ++ List.replicate (k - vs.length) z := by simp [putAt]
theorem bytesV_pad (k : Nat) (b : List UInt8) : bytesV (b ++ zeros k) = bytesV b ++ List.replicate k (Value.int .u8 0) := by
  simp only [bytesV, zeros, List.map_append, List.map_replicate]; rfl
theorem copy_pad {b : List UInt8} {n : Nat} (hl : b.length = n) (h : n ≤ 144) : putAt (List.replicate 144 (Value.int IntKind.u8 0)) 0 ((bytesV b).take (n * 1)) = bytesV (pad b) := by
  rw [List.take_of_length_le (by rw [bytesV_length]; omega), putAt_front, pad, bytesV_pad, bytesV_length]
theorem getN_all {s : List UInt8} (h : s.length = 144) : getN (bytesV s) 0 144 = some (bytesV s) := by
  rw [getN_intro _ _ _ (by simp; omega)]; simp; rw [List.take_of_length_le (by simp; omega)]
theorem devRead_has {D : DevM} {i : Int} (h : devHas D i ≠ 0) : devRead D i = ([], devHas D i) := by unfold devRead; rw [if_pos h]
theorem devRead_ok {D : DevM} {i : Int} (h : devHas D i = 0) : devRead D i = (devSec D i, 0) := by unfold devRead; rw [if_neg (by simp [h])]
theorem afind_mem {α : Type} {l : List (Int × α)} {k : Int} {v : α} (h : afind l k = some v) : (k, v) ∈ l := by
  unfold afind at h
  cases hf : l.find? (fun p => p.1 == k) with
  | none => rw [hf] at h; cases h
  | some p =>
    rw [hf] at h
    injection h with h
    have h1 := List.mem_of_find?_eq_some hf
    have h2 : p.1 = k := by simpa using List.find?_some hf
    rw [← h, ← h2]; exact h1
theorem devSec_at {D : DevM} (hD : DevOk D) {i : Int} (h : devHas D i = 0) : ∃ k : Nat, i = (k : Int) ∧ k < D.l.length ∧ (devSec D i).length = 144 ∧ ((afind D.pend i).getD (zeros 144)).length = 144 := by
  unfold devHas at h
  split at h
  · cases h
  · split at h
    · cases h
    · rename_i h2
      refine ⟨i.toNat, by omega, by omega, ?_, ?_⟩
      · unfold devSec
        cases hf : afind D.pend i with
        | none =>
          have hlt : i.toNat < D.l.length := by omega
          simp only [Option.getD_none, List.getElem?_eq_getElem hlt, Option.getD_some]
          exact hD.secs _ (by simp)
        | some s => exact (hD.pend _ (afind_mem hf)).2.2
      · cases hf : afind D.pend i with
        | none => simp [zeros]
        | some s => exact (hD.pend _ (afind_mem hf)).2.2
theorem oneCells_bytes : ∀ (bs : List UInt8), oneCells (bytesV bs) = true
  | [] => rfl
  | b :: bs => oneCells_bytes bs
theorem updN_all {l vs : List Value} (h : l.length = 144) (h2 : vs.length = 144) : updN l 0 vs = some vs := by
  rw [updN_intro (by omega)]
  simp [List.drop_eq_nil_of_le (show l.length ≤ vs.length by omega)]
theorem devBarrier_dead {D : DevM} (h : D.dead = true) : devBarrier D = (D, 30) := by unfold devBarrier; rw [if_pos h]
theorem devBarrier_act {D : DevM} (h : D.dead = false) (h3 : (devAct D).2 ≠ 0) : devBarrier D = devAct D := by unfold devBarrier; rw [if_neg (by simp [h]), if_pos h3]
theorem devBarrier_ok {D : DevM} (h : D.dead = false) (h3 : (devAct D).2 = 0) : devBarrier D = ({ (devAct D).1 with l := applyAll (devAct D).1.l (devAct D).1.pend, pend := [] }, 0) := by
  unfold devBarrier; rw [if_neg (by simp [h]), if_neg (by simp [h3])]
/-- While a barrier goes on: what has been laid down, what is still to come. -/
structure BarI (D : DevM) (l : List (List UInt8)) (left : List (Int × Value)) : Prop where
  len : l.length = D.l.length
  secs : ∀ s ∈ l, s.length = 144
  mem : ∀ p ∈ left, p ∈ amap secV D.pend
  nodup : (left.map (·.1)).Nodup
  val : ∀ j : Nat, l[j]? = if (j : Int) ∈ left.map (·.1) then D.l[j]? else D.l[j]?.map fun s => (afind D.pend (j : Int)).getD s
theorem amap_keys {α : Type} (f : α → Value) (l : List (Int × α)) : (amap f l).map (·.1) = l.map (·.1) := by simp [amap, Function.comp_def]
theorem afind_none {α : Type} {l : List (Int × α)} {k : Int} (h : k ∉ l.map (·.1)) : afind l k = none := by
  cases hf : afind l k with
  | none => rfl
  | some v => exact absurd (List.mem_map.2 ⟨_, afind_mem hf, rfl⟩) h
theorem afind_of_mem {α : Type} {l : List (Int × α)} {k : Int} {v : α} (hn : (l.map (·.1)).Nodup) (h : (k, v) ∈ l) : afind l k = some v := by
  induction l with
  | nil => cases h
  | cons p l ih =>
    unfold afind
    rw [List.map_cons, List.nodup_cons] at hn
    by_cases hp : p.1 == k
    · rcases List.mem_cons.1 h with rfl | h
      · simp
      · exact absurd (List.mem_map.2 ⟨(k, v), h, (show k = p.1 from (beq_iff_eq.1 hp).symm)⟩) hn.1
    · rcases List.mem_cons.1 h with rfl | h
      · simp at hp
      · rw [List.find?_cons]; simp only [hp]; exact ih hn.2 h
theorem BarI.start {D : DevM} (hD : DevOk D) (hn : ((amap secV D.pend).map (·.1)).Nodup) : BarI D D.l (amap secV D.pend) := by
  refine ⟨rfl, hD.secs, fun p hp => hp, hn, fun j => ?_⟩
  split
  · rfl
  · rename_i h
    rw [amap_keys] at h
    rw [afind_none h]; simp
theorem BarI.step {D : DevM} (hD : DevOk D) (hn : ((amap secV D.pend).map (·.1)).Nodup) {l : List (List UInt8)} {a b : List (Int × Value)} {p : Int × Value} (h : BarI D l (a ++ p :: b)) :
    ∃ (k : Nat) (s : List UInt8), p = ((k : Int), secV s) ∧ k < l.length ∧ s.length = 144 ∧ BarI D (l.set k s) (a ++ b) := by
  have hp := h.mem p (by simp)
  obtain ⟨⟨k, s⟩, hks, rfl⟩ := List.mem_map.1 hp
  obtain ⟨h1, h2, h3⟩ := hD.pend _ hks
  dsimp only at h1 h2 h3
  obtain ⟨k, rfl⟩ : ∃ n : Nat, k = (n : Int) := ⟨k.toNat, by omega⟩
  have hlt : k < l.length := by rw [h.len]; omega
  have hnd := h.nodup
  simp only [List.map_append, List.map_cons] at hnd
  refine ⟨k, s, rfl, hlt, h3, ⟨by simp [h.len], fun t ht => ?_, fun q hq => h.mem q ?_, ?_, fun j => ?_⟩⟩
  · rcases List.mem_or_eq_of_mem_set ht with h4 | h4
    · exact h.secs t h4
    · rw [h4]; exact h3
  · rcases List.mem_append.1 hq with h4 | h4
    · exact List.mem_append.2 (.inl h4)
    · exact List.mem_append.2 (.inr (by simp [h4]))
  · rw [List.map_append]; exact hnd.sublist (List.Sublist.append_left (List.sublist_cons_self _ _) _)
  · rw [List.getElem?_set]
    have hval := h.val j
    by_cases hj : k = j
    · subst hj
      have hnot : ¬ ((k : Int) ∈ (a ++ b).map (·.1)) := by
        rw [List.map_append]
        have h6 := List.nodup_append.1 hnd
        rw [List.mem_append]
        rintro (h7 | h7)
        · exact h6.2.2 _ h7 _ (List.mem_cons_self ..) rfl
        · exact (List.nodup_cons.1 h6.2.1).1 h7
      rw [if_pos rfl, if_pos hlt, if_neg hnot]
      rw [amap_keys] at hn
      have hd : k < D.l.length := by rw [← h.len]; exact hlt
      rw [List.getElem?_eq_getElem hd, afind_of_mem hn hks]; rfl
    · rw [if_neg hj, hval]
      have : ((j : Int) ∈ (a ++ ((k : Int), secV s) :: b).map (·.1)) ↔ (j : Int) ∈ (a ++ b).map (·.1) := by
        simp only [List.map_append, List.map_cons, List.mem_append, List.mem_cons]
        constructor
        · rintro (h5 | h5 | h5)
          · exact .inl h5
          · omega
          · exact .inr h5
        · rintro (h5 | h5)
          · exact .inl h5
          · exact .inr (.inr h5)
      simp only [this]
theorem BarI.done {D : DevM} {l : List (List UInt8)} (h : BarI D l []) : l = applyAll D.l D.pend := by
  apply List.ext_getElem?
  intro j
  rw [h.val j, applyAll, List.getElem?_mapIdx]
  simp
end Sei
/- Plain: framed records, cells. -/
namespace Sei
open Go Go.Sl
def be32 (s : UInt32) : List UInt8 := [UInt8.ofNat (s >>> 24).toNat, UInt8.ofNat (s >>> 16).toNat, UInt8.ofNat (s >>> 8).toNat, UInt8.ofNat s.toNat]
def lenB (b : List UInt8) : List UInt8 := UInt8.ofNat b.length :: b
def framed (b : List UInt8) : List UInt8 := be32 (crcSum (lenB b)) ++ lenB b
def slot (gen : Int) (s : List UInt8) : List UInt8 := if gen < 1 ∨ 4611686018427387904 < gen ∨ 100 < s.length then [] else framed (enc ⟨1, [gen], [s]⟩).1
theorem conv_u32_u8 (x : UInt32) : IntKind.u8.wrap (x.toNat : Int) = ((UInt8.ofNat x.toNat).toNat : Int) := by
  rw [wrap_u8_mod]; simp
theorem enc_len_le (r : Rec) : (enc r).1.length ≤ 1000 := by
  cases h : mayRec r with
  | true => rw [← encT_all r h]; exact encT_len h _
  | false => simp [enc_no h]
theorem enc_slot_len {gen : Int} {s : List UInt8} (h : s.length ≤ 100) : (enc ⟨1, [gen], [s]⟩).1.length ≤ 255 := by
  have h1 : (enc ⟨1, [gen], [s]⟩).1 = encB ⟨1, [gen], [s]⟩ := by
    have : mayRec ⟨1, [gen], [s]⟩ = true := by simp [mayRec]; omega
    simp [enc, this]
  have := numB_len gen
  rw [h1]; simp [encB, textB]; omega
def deBe (a b c d : UInt8) : UInt32 := (((a.toUInt32 <<< 24) ||| (b.toUInt32 <<< 16)) ||| (c.toUInt32 <<< 8)) ||| d.toUInt32
def sumOf (b : List UInt8) : UInt32 := deBe (b.getD 0 0) (b.getD 1 0) (b.getD 2 0) (b.getD 3 0)
def lenOf (b : List UInt8) : Nat := (b.getD 4 0).toNat
def bodyOf (b : List UInt8) : List UInt8 := (b.drop 5).take (lenOf b)
def goodSum (b : List UInt8) : Bool := crcSum ((b.drop 4).take (lenOf b + 1)) == sumOf b
def cellBad (c : Bool) (r : Rec) (e : Int) : Bool := !c || (!decide (e = 0) || (!decide (r.kind = 1) || (!decide ((r.nums.length : Int) = 1) || (!decide ((r.texts.length : Int) = 1) || (decide (100 < ((r.texts.headD []).length : Int)) || (decide (r.nums.headD 0 < 1) || decide (4611686018427387904 < r.nums.headD 0)))))))
def readCell (b : List UInt8) : Int × List UInt8 × Bool :=
  if b.length < lenOf b + 5 then (0, [], false) else
  if cellBad (goodSum b) (dec (bodyOf b)).1 (dec (bodyOf b)).2 then (0, [], false) else ((dec (bodyOf b)).1.nums.headD 0, (dec (bodyOf b)).1.texts.headD [], true)
theorem shl_u32 (x : UInt32) (k : Nat) (h : k < 32) : IntKind.u32.wrap ((x.toNat : Int) * 2 ^ (min (k : Int).toNat IntKind.u32.bits)) = ((x <<< UInt32.ofNat k).toNat : Int) := by
  have e1 : min (k : Int).toNat IntKind.u32.bits = k := by simp [IntKind.bits]; omega
  have h5 : (x <<< UInt32.ofNat k).toNat = x.toNat * 2 ^ k % 2 ^ 32 := by
    rw [UInt32.toNat_shiftLeft, UInt32.toNat_ofNat', Nat.shiftLeft_eq, show k % 2 ^ 32 % 32 = k by omega]
  rw [e1, wrapU rfl, h5, Int.natCast_emod, Int.natCast_mul, Int.natCast_pow]
  rfl
theorem getD_byte {b : List UInt8} {j : Nat} (h : j < b.length) : (bytesV b)[j]? = some (u8 (b.getD j 0)) := by
  rw [bytesV_get]; simp [h]
theorem nums0 {l : List Int} (h : (!decide ((l.length : Int) = 1)) = false) : (numsV l)[0]? = some (i64 (l.headD 0)) := by
  have : l.length = 1 := by simp at h; omega
  match l, this with
  | [n], _ => rfl
theorem texts0 {l : List (List UInt8)} (h : (!decide ((l.length : Int) = 1)) = false) : (textsV l)[0]? = some (str (l.headD [])) := by
  have : l.length = 1 := by simp at h; omega
  match l, this with
  | [n], _ => rfl
theorem len1 {n : Nat} (h : (!decide ((n : Int) = 1)) = false) : (0 : Int) < (n : Int) := by simp at h; omega
theorem Vw.cut {S : HP} {v : Value} {b c : List UInt8} {l q : Nat} (hw : Vw S v 1 b.length (bytesV b)) (h1 : q ≤ b.length) (h2 : l ≤ q) (h3 : (b.drop l).take (q - l) = c) (h4 : q - l = c.length) : Vw S (subS v l q 1) 1 c.length (bytesV c) := by
  have := hw.sub h1 h2
  rw [bytesV_sub, h3, h4] at this
  exact this
theorem readCell_bad {b : List UInt8} {r : Rec} {e : Int} (h : ¬ b.length < lenOf b + 5) (hd : dec (bodyOf b) = (r, e)) (hb : cellBad (goodSum b) r e = true) : readCell b = (0, [], false) := by
  unfold readCell; rw [if_neg h, hd, if_pos hb]
theorem readCell_good {b : List UInt8} {r : Rec} {e : Int} (h : ¬ b.length < lenOf b + 5) (hd : dec (bodyOf b) = (r, e)) (hb : cellBad (goodSum b) r e = false) : readCell b = (r.nums.headD 0, r.texts.headD [], true) := by
  unfold readCell; rw [if_neg h, hd, if_neg (by simp [hb])]
structure CellM where
  a0 : Int
  a1 : Int
  now : Int
  gen : Int
  text : List UInt8
  deriving DecidableEq
structure CellOk (D : DevM) (C : CellM) : Prop where
  gen : 0 ≤ C.gen ∧ C.gen ≤ 4611686018427387904
def cellOther (C : CellM) : Int := if C.now = 0 then 1 else 0
def cellSec (C : CellM) : Int := if C.now = 0 then C.a1 else C.a0
def cellPut (D : DevM) (C : CellM) (s : List UInt8) : DevM × CellM × Int :=
  if 100 < s.length then (D, C, 3) else if C.gen = 4611686018427387904 then (D, C, 23)
  else if (devWrite D (cellSec C) (slot (C.gen + 1) s)).2 ≠ 0 then ((devWrite D (cellSec C) (slot (C.gen + 1) s)).1, C, (devWrite D (cellSec C) (slot (C.gen + 1) s)).2)
  else if (devBarrier (devWrite D (cellSec C) (slot (C.gen + 1) s)).1).2 ≠ 0 then ((devBarrier (devWrite D (cellSec C) (slot (C.gen + 1) s)).1).1, C, (devBarrier (devWrite D (cellSec C) (slot (C.gen + 1) s)).1).2)
  else ((devBarrier (devWrite D (cellSec C) (slot (C.gen + 1) s)).1).1, { C with now := cellOther C, gen := C.gen + 1, text := s }, 0)
theorem aset_mem {α : Type} {l : List (Int × α)} {k : Int} {v : α} {p : Int × α} (h : p ∈ aset l k v) : p ∈ l ∨ p = (k, v) := by
  unfold aset at h
  split at h
  · obtain ⟨q, hq, rfl⟩ := List.mem_map.1 h
    split
    · exact .inr rfl
    · exact .inl hq
  · rcases List.mem_append.1 h with h | h
    · exact .inl h
    · exact .inr (by simpa using h)
theorem devAct_l (D : DevM) : (devAct D).1.l = D.l ∧ (devAct D).1.pend = D.pend := by unfold devAct; split <;> exact ⟨rfl, rfl⟩
theorem DevOk.write {D : DevM} (h : DevOk D) (i : Int) (b : List UInt8) : DevOk (devWrite D i b).1 := by
  unfold devWrite
  split
  · exact h
  · rename_i hh
    split
    · exact h
    · rename_i hl
      split
      · exact h.act
      · have ha := h.act
        refine ⟨ha.secs, fun p hp => ?_, ha.n, ha.fuse⟩
        rcases aset_mem hp with hp | rfl
        · exact ha.pend p hp
        · have h0 : devHas D i = 0 := by simpa using hh
          obtain ⟨k, rfl, hk, _⟩ := devSec_at h h0
          refine ⟨by simp, ?_, pad_len (by omega)⟩
          show ((k : Nat) : Int) < ((devAct D).1.l.length : Int)
          rw [(devAct_l D).1]; omega
section
variable {D : DevM} {C : CellM} {s : List UInt8}
theorem cellPut_long (h : 100 < s.length) : cellPut D C s = (D, C, 3) := by rw [cellPut, if_pos h]
theorem cellPut_full (h : ¬ 100 < s.length) (h2 : C.gen = 4611686018427387904) : cellPut D C s = (D, C, 23) := by rw [cellPut, if_neg h, if_pos h2]
theorem cellPut_w (h : ¬ 100 < s.length) (h2 : ¬ C.gen = 4611686018427387904) (h3 : (devWrite D (cellSec C) (slot (C.gen + 1) s)).2 ≠ 0) : cellPut D C s = ((devWrite D (cellSec C) (slot (C.gen + 1) s)).1, C, (devWrite D (cellSec C) (slot (C.gen + 1) s)).2) := by
  rw [cellPut, if_neg h, if_neg h2, if_pos h3]
theorem cellPut_b (h : ¬ 100 < s.length) (h2 : ¬ C.gen = 4611686018427387904) (h3 : ¬ (devWrite D (cellSec C) (slot (C.gen + 1) s)).2 ≠ 0) (h4 : (devBarrier (devWrite D (cellSec C) (slot (C.gen + 1) s)).1).2 ≠ 0) :
    cellPut D C s = ((devBarrier (devWrite D (cellSec C) (slot (C.gen + 1) s)).1).1, C, (devBarrier (devWrite D (cellSec C) (slot (C.gen + 1) s)).1).2) := by
  rw [cellPut, if_neg h, if_neg h2, if_neg h3, if_pos h4]
theorem cellPut_ok (h : ¬ 100 < s.length) (h2 : ¬ C.gen = 4611686018427387904) (h3 : ¬ (devWrite D (cellSec C) (slot (C.gen + 1) s)).2 ≠ 0) (h4 : ¬ (devBarrier (devWrite D (cellSec C) (slot (C.gen + 1) s)).1).2 ≠ 0) :
    cellPut D C s = ((devBarrier (devWrite D (cellSec C) (slot (C.gen + 1) s)).1).1, { C with now := cellOther C, gen := C.gen + 1, text := s }, 0) := by
  rw [cellPut, if_neg h, if_neg h2, if_neg h3, if_neg h4]
end
theorem cellOther_01 (C : CellM) : 0 ≤ cellOther C ∧ cellOther C < 2 := by unfold cellOther; split <;> omega
def cellStep (D : DevM) (C : CellM) (i sec : Int) : CellM :=
  if (readCell (devSec D sec)).2.2 = true ∧ C.gen < (readCell (devSec D sec)).1 then { C with now := i, gen := (readCell (devSec D sec)).1, text := (readCell (devSec D sec)).2.1 } else C
def cellN (D : DevM) (a b : Nat) : Nat → CellM
  | 0 => ⟨a, b, -1, 0, []⟩
  | k + 1 => cellStep D (cellN D a b k) k (if k = 0 then (a : Int) else b)
def cellOpen (D : DevM) (a b : Nat) : CellM := cellN D a b 2
theorem devHas_ok {D : DevM} {i : Nat} (h : D.dead = false) (h2 : i < D.l.length) : devHas D i = 0 := by
  unfold devHas; rw [if_neg (by simp [h]), if_neg (by omega)]
theorem idx2 {x : Nat} {a b c : Int} (h : x < 2) (hc : (if x = 0 then a else b) = c) : [i64 a, i64 b][(x : Int).toNat]? = some (i64 c) := by
  subst hc
  have : x = 0 ∨ x = 1 := by omega
  rcases this with rfl | rfl <;> rfl
end Sei
/- Plain: logs. -/
namespace Sei
open Go Go.Sl
structure LogM where
  first : Nat
  n : Nat
  cell : CellM
  head : Int
  time : Int
  least : Int
  items : List (List UInt8 × Int)
  deriving DecidableEq
def itemsV (l : List (List UInt8 × Int)) : List Value := l.flatMap fun p => [str p.1, i64 p.2]
def logTail (L : LogM) : Int := L.head + L.items.length
def logFree (L : LogM) : Int := L.n - L.items.length
def withinB (n lo hi : Int) : Bool := decide (lo ≤ n) && decide (n ≤ hi)
def logPlace (L : LogM) (k : Int) : Int := (L.first + (k.toNat % L.n : Nat) : Nat)
theorem withinB_iff {n lo hi : Int} : withinB n lo hi = true ↔ lo ≤ n ∧ n ≤ hi := by simp [withinB]
theorem itemsV_length (l : List (List UInt8 × Int)) : (itemsV l).length = l.length * 2 := by
  unfold itemsV; induction l with
  | nil => rfl
  | cons p l ih => simp [ih, Nat.add_mul]
theorem itemsV_append (a b : List (List UInt8 × Int)) : itemsV (a ++ b) = itemsV a ++ itemsV b := by simp [itemsV]
theorem itemsV_drop (l : List (List UInt8 × Int)) (k : Nat) : (itemsV l).drop (k * 2) = itemsV (l.drop k) := by
  induction k generalizing l with
  | zero => simp
  | succ k ih => cases l with
    | nil => simp [itemsV]
    | cons p l => rw [show (k + 1) * 2 = k * 2 + 2 by omega]; simpa [itemsV] using ih l
theorem itemsV_get0 {l : List (List UInt8 × Int)} {k : Nat} {p : List UInt8 × Int} (h : l[k]? = some p) : (itemsV l)[k * 2]? = some (str p.1) := by
  have h2 := itemsV_drop l k
  have : ((itemsV l).drop (k * 2))[0]? = some (str p.1) := by
    rw [h2, List.drop_eq_getElem_cons (List.getElem?_eq_some_iff.1 h).1, (List.getElem?_eq_some_iff.1 h).2]; rfl
  simpa using this
theorem itemsV_get1 {l : List (List UInt8 × Int)} {k : Nat} {p : List UInt8 × Int} (h : l[k]? = some p) : (itemsV l)[k * 2 + 1]? = some (i64 p.2) := by
  have h2 := itemsV_drop l k
  have : ((itemsV l).drop (k * 2))[1]? = some (i64 p.2) := by
    rw [h2, List.drop_eq_getElem_cons (List.getElem?_eq_some_iff.1 h).1, (List.getElem?_eq_some_iff.1 h).2]; rfl
  simpa using this
theorem itemsV_one (l : List (List UInt8 × Int)) : ∀ x ∈ itemsV l, x.oneCell' = true := by
  intro x hx
  obtain ⟨p, _, hp⟩ := List.mem_flatMap.1 hx
  simp at hp
  rcases hp with rfl | rfl <;> rfl
/-! reading a record -/
def logGood (c : Bool) (r : Rec) (e : Int) : Bool := c && (decide (e = 0) && (decide (r.kind = 2) && (decide ((r.nums.length : Int) = 2) && (decide ((r.texts.length : Int) = 1) && decide (((r.texts.headD []).length : Int) ≤ 110)))))
def logRead (b : List UInt8) : Rec × Bool :=
  if b.length < lenOf b + 5 then (⟨0, [], []⟩, false) else ((dec (bodyOf b)).1, logGood (goodSum b) (dec (bodyOf b)).1 (dec (bodyOf b)).2)
theorem logRead_short {b : List UInt8} (h : b.length < lenOf b + 5) : logRead b = (⟨0, [], []⟩, false) := by unfold logRead; rw [if_pos h]
theorem logRead_long {b : List UInt8} (h : ¬ b.length < lenOf b + 5) : logRead b = ((dec (bodyOf b)).1, logGood (goodSum b) (dec (bodyOf b)).1 (dec (bodyOf b)).2) := by unfold logRead; rw [if_neg h]
theorem logRead_good {b : List UInt8} (h : (logRead b).2 = true) : (logRead b).1.nums.length = 2 ∧ (logRead b).1.texts.length = 1 ∧ ((logRead b).1.texts.headD []).length ≤ 110 ∧ ∀ n ∈ (logRead b).1.nums, I64 n := by
  unfold logRead at *
  split at h
  · cases h
  · rename_i h1
    rw [if_neg h1]
    simp only [logGood, Bool.and_eq_true, decide_eq_true_eq] at h
    dsimp only
    refine ⟨by omega, by omega, by omega, ?_⟩
    have he : (dec (bodyOf b)).2 = 0 := h.2.1
    unfold dec at *
    cases hd : decRec (bodyOf b) with
    | none => rw [hd] at he; cases he
    | some r =>
      simp only
      intro n hn
      generalize bodyOf b = bs at hd
      match bs, hd with
      | x :: y :: rest, hd =>
        rw [decRec_cons] at hd
        split at hd
        · cases hd
        · split at hd
          · cases hd
          · rename_i ns rest' hns
            split at hd
            · cases hd
            · split at hd
              · injection hd with hd; subst hd; exact (decNums_I64 _ hns).2 n hn
              · cases hd
/-! what a log does -/
def logPut (D : DevM) (L : LogM) (head least : Int) : DevM × LogM × Int :=
  let q := cellPut D L.cell (enc ⟨3, [head, L.time, least], []⟩).1
  (q.1, { L with cell := q.2.1 }, q.2.2)
def logStop (D : DevM) (L : LogM) (time : Int) : Bool :=
  let r := logRead (devSec D (logPlace L (logTail L)))
  !r.2 || (!decide (r.1.nums.headD 0 = logTail L) || !withinB (r.1.nums.getD 1 0) time L.time)
def logItem (D : DevM) (L : LogM) : List UInt8 × Int :=
  let r := logRead (devSec D (logPlace L (logTail L)))
  (r.1.texts.headD [], r.1.nums.getD 1 0)
def scanGo (D : DevM) : Nat → LogM → Int → LogM
  | 0, L, _ => L
  | f + 1, L, time => if logStop D L time then L else scanGo D f { L with items := L.items ++ [logItem D L] } (logItem D L).2
def logScan (D : DevM) (L : LogM) : LogM := scanGo D L.n L L.least
def headOk (r : Rec) (e : Int) : Bool := decide (e = 0) && (decide (r.kind = 3) && (decide ((r.nums.length : Int) = 3) && (decide ((r.texts.length : Int) = 0) && (withinB (r.nums.headD 0) 1 4611686018427387904 && (withinB (r.nums.getD 1 0) 0 4611686018427387904 && withinB (r.nums.getD 2 0) 0 4611686018427387904)))))
def logFirst (C : CellM) (first n : Nat) : LogM :=
  let q := dec C.text
  if headOk q.1 q.2 then ⟨first, n, C, q.1.nums.headD 0, q.1.nums.getD 1 0, q.1.nums.getD 2 0, []⟩ else ⟨first, n, C, 1, 0, 0, []⟩
def logOpen (D : DevM) (first n a b : Nat) : DevM × LogM × Int :=
  let L := logFirst (cellOpen D a b) first n
  if L.time = 4611686018427387904 then (D, L, 22) else
  let L := logScan D L
  logPut D { L with time := L.time + 1 } L.head L.least
def logAppend (D : DevM) (L : LogM) (s : List UInt8) : DevM × LogM × Int :=
  if 110 < s.length then (D, L, 3) else if logFree L = 0 then (D, L, 12) else if 4611686018427387904 ≤ logTail L then (D, L, 23) else
  let q := devWrite D (logPlace L (logTail L)) (framed (enc ⟨2, [logTail L, L.time], [s]⟩).1)
  if q.2 = 0 then (q.1, { L with items := L.items ++ [(s, L.time)] }, 0) else (q.1, L, q.2)
def trimLeast (L : LogM) (k : Int) : Int := if L.head < k then (L.items.getD (k - L.head - 1).toNat ([], 0)).2 else L.least
def logTrim (D : DevM) (L : LogM) (k : Int) : DevM × LogM × Int :=
  if !withinB k L.head (logTail L) then (D, L, 1) else
  if (devBarrier D).2 ≠ 0 then ((devBarrier D).1, L, (devBarrier D).2) else
  let q := logPut (devBarrier D).1 L k (trimLeast L k)
  if q.2.2 = 0 then (q.1, { q.2.1 with head := k, least := trimLeast L k, items := L.items.drop (k - L.head).toNat }, 0) else q
theorem logAppend_w {D : DevM} {L : LogM} {s : List UInt8} {D' : DevM} {e : Int} (h1 : ¬ 110 < s.length) (h2 : ¬ logFree L = 0) (h3 : ¬ 4611686018427387904 ≤ logTail L) (h : devWrite D (logPlace L (logTail L)) (framed (enc ⟨2, [logTail L, L.time], [s]⟩).1) = (D', e)) :
    logAppend D L s = if e = 0 then (D', { L with items := L.items ++ [(s, L.time)] }, 0) else (D', L, e) := by
  rw [logAppend, if_neg h1, if_neg h2, if_neg h3, h]
theorem enc_item_len {a b : Int} {s : List UInt8} (h : s.length ≤ 110) : (enc ⟨2, [a, b], [s]⟩).1.length ≤ 135 := by
  have h1 : (enc ⟨2, [a, b], [s]⟩).1 = encB ⟨2, [a, b], [s]⟩ := by
    have : mayRec ⟨2, [a, b], [s]⟩ = true := by simp [mayRec]; omega
    simp [enc, this]
  have := numB_len a
  have := numB_len b
  rw [h1]; simp [encB, textB]; omega
structure LogOk (D : DevM) (L : LogM) : Prop where
  dev : DevOk D
  gen : 0 ≤ L.cell.gen ∧ L.cell.gen ≤ 4611686018427387904
  n : 2 ≤ L.n
  fits : L.first + L.n ≤ D.l.length
  head : 1 ≤ L.head
  tail : logTail L ≤ 4611686018427389000
  items : L.items.length ≤ L.n
  time : 0 ≤ L.time ∧ L.time ≤ 4611686018427387904
  least : I64 L.least
  itemsOk : ∀ p ∈ L.items, p.1.length ≤ 110 ∧ I64 p.2
theorem LogOk.n' {D : DevM} {L : LogM} (h : LogOk D L) : L.n ≤ 512 := by have := h.dev.n; have := h.fits; omega
theorem LogOk.head' {D : DevM} {L : LogM} (h : LogOk D L) : L.head ≤ 4611686018427389000 := by have := h.tail; unfold logTail at this; omega
theorem LogOk.cellOk {D : DevM} {L : LogM} (h : LogOk D L) : CellOk D L.cell := ⟨h.gen⟩
theorem LogOk.items' {D : DevM} {L : LogM} (h : LogOk D L) : L.items.length ≤ 1000 := by have := h.items; have := h.n'; omega
theorem applyAll_len (l : List (List UInt8)) (p : List (Int × List UInt8)) : (applyAll l p).length = l.length := by simp [applyAll]
theorem devAct_ok {D : DevM} (h : (devAct D).2 = 0) : (devAct D).1.dead = D.dead := by
  unfold devAct at *; split <;> simp_all
theorem devBarrier_len (D : DevM) : (devBarrier D).1.l.length = D.l.length := by
  unfold devBarrier
  split
  · rfl
  · split
    · rw [(devAct_l D).1]
    · simp [applyAll_len, (devAct_l D).1]
theorem DevOk.barrier {D : DevM} (h : DevOk D) : DevOk (devBarrier D).1 := by
  unfold devBarrier
  split
  · exact h
  · split
    · exact h.act
    · have ha := h.act
      refine ⟨fun s hs => ?_, fun p hp => (by cases hp), (by simpa [applyAll_len] using ha.n), ha.fuse⟩
      obtain ⟨i, hi, rfl⟩ := List.getElem_of_mem hs
      simp only [applyAll_len] at hi
      simp only [applyAll, List.getElem_mapIdx]
      cases hf : afind (devAct D).1.pend (i : Int) with
      | none => exact ha.secs _ (by simp)
      | some s => exact (ha.pend _ (afind_mem hf)).2.2
theorem devWrite_len (D : DevM) (i : Int) (b : List UInt8) : (devWrite D i b).1.l.length = D.l.length := by
  unfold devWrite
  split
  · rfl
  · split
    · rfl
    · split <;> simp [(devAct_l D).1]
theorem LogOk.of_dev {D D' : DevM} {L : LogM} (h : LogOk D L) (hd : DevOk D') (hl : D'.l.length = D.l.length) : LogOk D' L :=
  ⟨hd, h.gen, h.n, by rw [hl]; exact h.fits, h.head, h.tail, h.items, h.time, h.least, h.itemsOk⟩
theorem LogOk.barrier {D : DevM} {L : LogM} (h : LogOk D L) : LogOk (devBarrier D).1 L := h.of_dev h.dev.barrier (devBarrier_len D)
theorem cellPut_dev {D : DevM} (hD : DevOk D) (C : CellM) (s : List UInt8) : DevOk (cellPut D C s).1 ∧ (cellPut D C s).1.l.length = D.l.length := by
  unfold cellPut
  split
  · exact ⟨hD, rfl⟩
  · split
    · exact ⟨hD, rfl⟩
    · split
      · exact ⟨hD.write _ _, devWrite_len _ _ _⟩
      · split
        · exact ⟨(hD.write _ _).barrier, by rw [devBarrier_len, devWrite_len]⟩
        · exact ⟨(hD.write _ _).barrier, by rw [devBarrier_len, devWrite_len]⟩
theorem cellPut_gen {D : DevM} {C : CellM} (s : List UInt8) (h : 0 ≤ C.gen ∧ C.gen ≤ 4611686018427387904) : 0 ≤ (cellPut D C s).2.1.gen ∧ (cellPut D C s).2.1.gen ≤ 4611686018427387904 := by
  unfold cellPut
  split
  · exact h
  · split
    · exact h
    · split
      · exact h
      · split
        · exact h
        · dsimp only; omega
theorem LogOk.put {D : DevM} {L : LogM} (h : LogOk D L) (a b : Int) : LogOk (logPut D L a b).1 (logPut D L a b).2.1 := by
  have hd := cellPut_dev h.dev L.cell (enc ⟨3, [a, L.time, b], []⟩).1
  exact ⟨hd.1, cellPut_gen _ h.gen, h.n, by have := h.fits; have e := hd.2; show L.first + L.n ≤ (cellPut D L.cell (enc ⟨3, [a, L.time, b], []⟩).1).1.l.length; omega, h.head, h.tail, h.items, h.time, h.least, h.itemsOk⟩
theorem trimLeast_I64 {D : DevM} {L : LogM} (h : LogOk D L) (k : Int) : I64 (trimLeast L k) := by
  unfold trimLeast
  split
  · rw [List.getD_eq_getElem?_getD]
    cases hp : L.items[(k - L.head - 1).toNat]? with
    | none => unfold I64; simp
    | some p => exact (h.itemsOk p (List.mem_of_getElem? hp)).2
  · exact h.least
theorem logTrim_go {D D' : DevM} {L L' : LogM} {k e : Int} (h1 : L.head ≤ k ∧ k ≤ logTail L) (h2 : (devBarrier D).2 = 0) (hq : logPut (devBarrier D).1 L k (trimLeast L k) = (D', L', e)) :
    logTrim D L k = if e = 0 then (D', { L' with head := k, least := trimLeast L k, items := L.items.drop (k - L.head).toNat }, 0) else (D', L', e) := by
  rw [logTrim, if_neg (by simp [withinB_iff.2 h1]), if_neg (by simp [h2])]
  dsimp only
  rw [hq]
theorem logPut_keeps {D D' : DevM} {L L' : LogM} {a b e : Int} (hq : logPut D L a b = (D', L', e)) : L' = { L with cell := L'.cell } := by
  injection hq with h1 h2; injection h2 with h2 h3; rw [← h2]
theorem LogOk.append {D : DevM} {L : LogM} (h : LogOk D L) (s : List UInt8) : LogOk (logAppend D L s).1 (logAppend D L s).2.1 := by
  unfold logAppend
  split
  · exact h
  · rename_i h1
    split
    · exact h
    · rename_i h2
      split
      · exact h
      · rename_i h3
        have hw := h.of_dev (h.dev.write (logPlace L (logTail L)) (framed (enc ⟨2, [logTail L, L.time], [s]⟩).1)) (devWrite_len _ _ _)
        dsimp only
        split
        · refine ⟨hw.dev, hw.gen, hw.n, hw.fits, hw.head, ?_, ?_, hw.time, hw.least, fun p hp => ?_⟩
          · unfold logTail at *; simp; omega
          · unfold logFree at h2; have := h.items; simp; omega
          · rcases List.mem_append.1 hp with hp | hp
            · exact hw.itemsOk p hp
            · simp at hp; subst hp; have := h.time; exact ⟨by dsimp only; omega, by unfold I64; dsimp only; omega⟩
        · exact hw
theorem LogOk.trim {D : DevM} {L : LogM} (h : LogOk D L) (k : Int) : LogOk (logTrim D L k).1 (logTrim D L k).2.1 := by
  cases hw : withinB k L.head (logTail L) with
  | false => rw [logTrim, if_pos (by simp [hw])]; exact h
  | true =>
    by_cases hb : (devBarrier D).2 = 0
    · have hk := withinB_iff.1 hw
      have hp := h.barrier.put k (trimLeast L k)
      cases hq : logPut (devBarrier D).1 L k (trimLeast L k) with
      | mk D' q =>
        obtain ⟨L', e⟩ := q
        have hL := logPut_keeps hq
        rw [hq] at hp
        rw [logTrim_go hk hb hq]
        have e1 : L'.head = L.head := by rw [hL]
        have e2 : L'.items = L.items := by rw [hL]
        have ht := h.tail
        have hi := h.items
        have e3 : L'.n = L.n := by rw [hL]
        have hh := h.head
        unfold logTail at *
        split
        · refine ⟨hp.dev, hp.gen, hp.n, hp.fits, by dsimp only; omega, ?_, ?_, hp.time, trimLeast_I64 h k, fun p hp' => h.itemsOk p (List.mem_of_mem_drop hp')⟩
          · simp only [logTail, List.length_drop]; omega
          · simp only [List.length_drop]; omega
        · exact hp
    · rw [logTrim, if_neg (by simp [hw]), if_pos hb]; exact h.barrier
/-! scanning -/
theorem scanGo_stop {D : DevM} {L : LogM} {t : Int} (f : Nat) (h : logStop D L t = true) : scanGo D f L t = L := by
  cases f with
  | zero => rfl
  | succ f => rw [scanGo, if_pos h]
theorem scanGo_step {D : DevM} {L : LogM} {t : Int} {f g : Nat} (hf : f = g + 1) (h : logStop D L t = false) : scanGo D f L t = scanGo D g { L with items := L.items ++ [logItem D L] } (logItem D L).2 := by
  subst hf; rw [scanGo, if_neg (by simp [h])]
theorem logPlace_lt {D : DevM} {L : LogM} (h : LogOk D L) (k : Int) : ∃ j : Nat, logPlace L k = (j : Int) ∧ j < D.l.length := by
  have hm : k.toNat % L.n < L.n := Nat.mod_lt _ (by have := h.n; omega)
  have := h.fits
  exact ⟨L.first + k.toNat % L.n, rfl, by omega⟩
theorem devSec_len {D : DevM} {L : LogM} (h : LogOk D L) (hal : D.dead = false) (k : Int) : devHas D (logPlace L k) = 0 ∧ (devSec D (logPlace L k)).length = 144 := by
  obtain ⟨j, hj, hlt⟩ := logPlace_lt h k
  have hh := devHas_ok hal hlt
  rw [hj]
  obtain ⟨_, _, _, hl, _⟩ := devSec_at h.dev hh
  exact ⟨hh, hl⟩
theorem nums_at {l : List Int} {j : Nat} (h : j < l.length) : (numsV l)[j]? = some (i64 (l.getD j 0)) := by
  simp [numsV, h]
theorem texts_at {l : List (List UInt8)} {j : Nat} (h : j < l.length) : (textsV l)[j]? = some (str (l.getD j [])) := by
  simp [textsV, h]
theorem headD_getD {α : Type} (l : List α) (d : α) : l.headD d = l.getD 0 d := by cases l <;> rfl
theorem logStop_bad {D : DevM} {L : LogM} {t : Int} {r : Rec} {ok : Bool} (hr : logRead (devSec D (logPlace L (logTail L))) = (r, ok)) : logStop D L t = (!ok || (!decide (r.nums.getD 0 0 = logTail L) || !withinB (r.nums.getD 1 0) t L.time)) := by
  unfold logStop; rw [hr]; dsimp only; rw [headD_getD]
theorem logItem_of {D : DevM} {L : LogM} {r : Rec} {ok : Bool} (hr : logRead (devSec D (logPlace L (logTail L))) = (r, ok)) : logItem D L = (r.texts.getD 0 [], r.nums.getD 1 0) := by
  unfold logItem; rw [hr]; dsimp only; rw [headD_getD]
theorem LogOk.more {D : DevM} {L : LogM} (h : LogOk D L) {r : Rec} (hg : r.nums.length = 2 ∧ r.texts.length = 1 ∧ (r.texts.headD []).length ≤ 110 ∧ ∀ n ∈ r.nums, I64 n) (h1 : L.items.length < L.n) (h2 : L.head ≤ 4611686018427388000) : LogOk D { L with items := L.items ++ [(r.texts.getD 0 [], r.nums.getD 1 0)] } := by
  have hn := h.n'
  refine ⟨h.dev, h.gen, h.n, h.fits, h.head, ?_, ?_, h.time, h.least, fun p hp => ?_⟩
  · unfold logTail; simp; omega
  · simp; omega
  · rcases List.mem_append.1 hp with hp | hp
    · exact h.itemsOk p hp
    · simp only [List.mem_singleton] at hp
      subst hp
      refine ⟨by dsimp only; rw [← headD_getD]; exact hg.2.2.1, ?_⟩
      have hlt : 1 < r.nums.length := by omega
      dsimp only
      rw [List.getD_eq_getElem?_getD, List.getElem?_eq_getElem hlt]
      exact hg.2.2.2 _ (by simp)
theorem cellBad_gen {c : Bool} {r : Rec} {e : Int} (h : cellBad c r e = false) : 1 ≤ r.nums.headD 0 ∧ r.nums.headD 0 ≤ 4611686018427387904 := by
  simp only [cellBad, Bool.or_eq_false_iff, decide_eq_false_iff_not, Bool.not_eq_false', decide_eq_true_eq] at h
  omega
theorem readCell_gen (b : List UInt8) : 0 ≤ (readCell b).1 ∧ (readCell b).1 ≤ 4611686018427387904 := by
  unfold readCell
  split
  · simp
  · split
    · simp
    · rename_i h
      have := cellBad_gen (by simpa using h)
      dsimp only; omega
theorem cellOpen_gen (D : DevM) (a b : Nat) : ∀ k, 0 ≤ (cellN D a b k).gen ∧ (cellN D a b k).gen ≤ 4611686018427387904
  | 0 => by simp [cellN]
  | k + 1 => by
    have := cellOpen_gen D a b k
    unfold cellN
    generalize (if k = 0 then (a : Int) else b) = sec
    unfold cellStep
    split
    · exact readCell_gen _
    · exact this
theorem logFirst_of {C : CellM} {first n : Nat} {r : Rec} {e : Int} (hd : dec C.text = (r, e)) : logFirst C first n = if headOk r e then ⟨first, n, C, r.nums.headD 0, r.nums.getD 1 0, r.nums.getD 2 0, []⟩ else ⟨first, n, C, 1, 0, 0, []⟩ := by
  unfold logFirst; rw [hd]
theorem headOk_spec {r : Rec} {e : Int} (h : headOk r e = true) : (1 ≤ r.nums.headD 0 ∧ r.nums.headD 0 ≤ 4611686018427387904) ∧ (0 ≤ r.nums.getD 1 0 ∧ r.nums.getD 1 0 ≤ 4611686018427387904) ∧ (0 ≤ r.nums.getD 2 0 ∧ r.nums.getD 2 0 ≤ 4611686018427387904) := by
  simp only [headOk, Bool.and_eq_true, withinB_iff] at h
  exact ⟨h.2.2.2.2.1, h.2.2.2.2.2.1, h.2.2.2.2.2.2⟩
theorem logFirst_ok {D : DevM} (hD : DevOk D) (a b first n : Nat) (hn : 2 ≤ n) (hf : first + n ≤ D.l.length) : LogOk D (logFirst (cellOpen D a b) first n) ∧ (logFirst (cellOpen D a b) first n).items = [] ∧ (logFirst (cellOpen D a b) first n).head ≤ 4611686018427387904 ∧ (logFirst (cellOpen D a b) first n).n = n ∧ (logFirst (cellOpen D a b) first n).first = first := by
  have hg := cellOpen_gen D a b 2
  cases hd : dec (cellOpen D a b).text with
  | mk r e =>
    rw [logFirst_of hd]
    split
    · rename_i h
      obtain ⟨h1, h2, h3⟩ := headOk_spec h
      exact ⟨⟨hD, hg, hn, hf, h1.1, by simp only [logTail, List.length_nil]; omega, by simp, h2, by unfold I64; dsimp only; omega, by simp⟩, rfl, h1.2, rfl, rfl⟩
    · exact ⟨⟨hD, hg, hn, hf, by simp, by simp [logTail], by simp, by simp, by unfold I64; simp, by simp⟩, rfl, by simp, rfl, rfl⟩
theorem LogOk.scanGo {D : DevM} : ∀ (f : Nat) {L : LogM} (t : Int), LogOk D L → L.items.length + f ≤ L.n → L.head ≤ 4611686018427387904 → LogOk D (Sei.scanGo D f L t) ∧ (Sei.scanGo D f L t).head = L.head ∧ (Sei.scanGo D f L t).time = L.time ∧ (Sei.scanGo D f L t).least = L.least
  | 0, L, t, h, _, _ => ⟨h, rfl, rfl, rfl⟩
  | f + 1, L, t, h, hf, hh => by
    cases hs : logStop D L t with
    | true => rw [scanGo_stop _ hs]; exact ⟨h, rfl, rfl, rfl⟩
    | false =>
      rw [scanGo_step rfl hs]
      cases hr : logRead (devSec D (logPlace L (logTail L))) with
      | mk r ok =>
        have hok : ok = true := by rw [logStop_bad hr] at hs; simp at hs; exact hs.1
        subst hok
        have hg := logRead_good (b := devSec D (logPlace L (logTail L))) (by rw [hr])
        rw [hr] at hg
        rw [logItem_of hr]
        have hm := h.more hg (by omega) (by omega)
        exact LogOk.scanGo f _ hm (by simp; omega) hh
theorem LogOk.scan {D : DevM} {L : LogM} (h : LogOk D L) (h0 : L.items = []) (hh : L.head ≤ 4611686018427387904) : LogOk D (logScan D L) ∧ (logScan D L).head = L.head ∧ (logScan D L).time = L.time ∧ (logScan D L).least = L.least :=
  h.scanGo L.n L.least (by rw [h0]; simp) hh
theorem LogOk.tick {D : DevM} {L : LogM} (h : LogOk D L) (ht : L.time ≠ 4611686018427387904) : LogOk D { L with time := L.time + 1 } := by
  have := h.time
  exact ⟨h.dev, h.gen, h.n, h.fits, h.head, h.tail, h.items, by dsimp only; omega, h.least, h.itemsOk⟩
theorem logOpen_of {D : DevM} {first n a b : Nat} (h : (logFirst (cellOpen D a b) first n).time ≠ 4611686018427387904) : logOpen D first n a b = logPut D { logScan D (logFirst (cellOpen D a b) first n) with time := (logScan D (logFirst (cellOpen D a b) first n)).time + 1 } (logScan D (logFirst (cellOpen D a b) first n)).head (logScan D (logFirst (cellOpen D a b) first n)).least := by
  rw [logOpen]; dsimp only; rw [if_neg h]
theorem logOpen_full {D : DevM} {first n a b : Nat} (h : (logFirst (cellOpen D a b) first n).time = 4611686018427387904) : logOpen D first n a b = (D, logFirst (cellOpen D a b) first n, 22) := by
  rw [logOpen]; dsimp only; rw [if_pos h]
theorem readCell_text (b : List UInt8) : (readCell b).2.1.length ≤ 100 := by
  unfold readCell
  split
  · simp
  · split
    · simp
    · rename_i h
      have h2 : cellBad (goodSum b) (dec (bodyOf b)).1 (dec (bodyOf b)).2 = false := by simpa using h
      simp only [cellBad, Bool.or_eq_false_iff, decide_eq_false_iff_not] at h2
      dsimp only; omega
theorem cellOpen_text (D : DevM) (a b : Nat) : ∀ k, (cellN D a b k).text.length ≤ 100
  | 0 => by simp [cellN]
  | k + 1 => by
    have := cellOpen_text D a b k
    unfold cellN
    generalize (if k = 0 then (a : Int) else b) = sec
    unfold cellStep
    split
    · exact readCell_text _
    · exact this
theorem logOpen_spec {D : DevM} {first n a b : Nat} {L : LogM} (hL : logFirst (cellOpen D a b) first n = L) : logOpen D first n a b = if L.time = 4611686018427387904 then (D, L, 22) else logPut D { logScan D L with time := (logScan D L).time + 1 } (logScan D L).head (logScan D L).least := by
  rw [logOpen]; dsimp only; rw [hL]
theorem headOk_eq (r : Rec) (e : Int) : headOk r e = (decide (e = 0) && (decide (r.kind = 3) && (decide ((r.nums.length : Int) = 3) && (decide ((r.texts.length : Int) = 0) && (withinB (r.nums.getD 0 0) 1 4611686018427387904 && (withinB (r.nums.getD 1 0) 0 4611686018427387904 && withinB (r.nums.getD 2 0) 0 4611686018427387904)))))) := by
  rw [headOk, headD_getD]
end Sei
/- Plain: caches. -/
namespace Sei
open Go Go.Sl
structure Ver where
  ep : Int
  sq : Int
  deriving DecidableEq
structure Ety where
  block : Int
  v : Ver
  data : List UInt8
  dirty : Bool
  client : Int
  n : Int
  deriving DecidableEq
structure Tab where
  a : Int
  b : Int
  c : Int
  d : Int
  deriving DecidableEq
structure Kept where
  last : Ver
  t : Tab
  deriving DecidableEq
inductive What where
  | put (e : Ety)
  | clean (b : Int) (v : Ver)
  | drop (b : Int)
  | note
  deriving DecidableEq
structure CacheM where
  log : LogM
  blocks : Int
  n : Int
  entries : List (Int × Ety)
  puts : List (Int × Int)
  kept : Kept
  deriving DecidableEq
def ver0 : Ver := ⟨0, 0⟩
def ety0 : Ety := ⟨0, ver0, [], false, 0, 0⟩
def tab0 : Tab := ⟨0, 0, 0, 0⟩
def kept0 : Kept := ⟨ver0, tab0⟩
abbrev maxN : Int := 4611686018427387904
def tabGet (t : Tab) (i : Int) : Int := if i = 0 then t.a else if i = 1 then t.b else if i = 2 then t.c else t.d
def tabSet (t : Tab) (i x : Int) : Tab := if i = 0 then { t with a := x } else if i = 1 then { t with b := x } else if i = 2 then { t with c := x } else { t with d := x }
abbrev verV (v : Ver) : List Value := [i64 v.ep, i64 v.sq]
abbrev etyV (e : Ety) : List Value := [i64 e.block, i64 e.v.ep, i64 e.v.sq, str e.data, .bool e.dirty, i64 e.client, i64 e.n]
abbrev tabV (t : Tab) : List Value := [i64 t.a, i64 t.b, i64 t.c, i64 t.d]
abbrev keptV (k : Kept) : List Value := [i64 k.last.ep, i64 k.last.sq, i64 k.t.a, i64 k.t.b, i64 k.t.c, i64 k.t.d]
def etyA (e : Ety) : Value := .agg (etyV e).toArray
/-! what numbers may be -/
def above (a b : Ver) : Bool := decide (b.ep < a.ep) || (decide (a.ep = b.ep) && decide (b.sq < a.sq))
def mayV (v : Ver) (least : Int) : Bool := withinB v.ep least maxN && withinB v.sq least maxN
def odd (n : Int) : Bool := !withinB n 0 maxN
def oddV : Value → Bool
  | .int _ n => odd n
  | _ => false
theorem oddV_any (l : List Int) : (numsV l).any oddV = l.any odd := by simp [numsV, List.any_map, Function.comp_def, oddV]
def inB (blocks b : Int) : Bool := withinB b 0 (blocks - 1)
def dirtyN (b : Bool) : Int := if b then 1 else 0
/-! records -/
def keptNs (k : Kept) : List Int := [k.last.ep, k.last.sq, k.t.a, k.t.b, k.t.c, k.t.d]
def whatNs : What → List Int
  | .put e => [e.block, e.v.ep, e.v.sq, dirtyN e.dirty, e.client, e.n]
  | .clean b v => [b, v.ep, v.sq]
  | .drop b => [b]
  | .note => []
def whatKind : What → Int
  | .put _ => 10
  | .clean _ _ => 11
  | .drop _ => 12
  | .note => 13
def whatTexts : What → List (List UInt8)
  | .put e => [e.data]
  | _ => []
def recOf (w : What) (k : Kept) : Rec := ⟨whatKind w, whatNs w ++ keptNs k, whatTexts w⟩
def cBytes (w : What) (k : Kept) : List UInt8 := (enc (recOf w k)).1
def putOf (r : Rec) (n : List Int) : Ety := ⟨n.getD 0 0, ⟨n.getD 1 0, n.getD 2 0⟩, r.texts.getD 0 [], decide (n.getD 3 0 = 1), n.getD 4 0, n.getD 5 0⟩
def putOk (blocks : Int) (e : Ety) (d : Int) : Bool := inB blocks e.block && (mayV e.v 1 && (withinB d 0 1 && (withinB e.client (-1) 3 && (!odd e.n && decide ((e.data.length : Int) = 8)))))
def whatOf (blocks : Int) (r : Rec) (n : List Int) : Option What :=
  if r.kind = 10 ∧ (n.length : Int) = 6 ∧ (r.texts.length : Int) = 1 then
    if putOk blocks (putOf r n) (n.getD 3 0) then some (.put (putOf r n)) else none
  else if r.kind = 11 ∧ (n.length : Int) = 3 ∧ (r.texts.length : Int) = 0 then
    if inB blocks (n.getD 0 0) && mayV ⟨n.getD 1 0, n.getD 2 0⟩ 1 then some (.clean (n.getD 0 0) ⟨n.getD 1 0, n.getD 2 0⟩) else none
  else if r.kind = 12 ∧ (n.length : Int) = 1 ∧ (r.texts.length : Int) = 0 ∧ inB blocks (n.getD 0 0) = true then some (.drop (n.getD 0 0))
  else if r.kind = 13 ∧ (n.length : Int) = 0 ∧ (r.texts.length : Int) = 0 then some .note
  else none
def keptAt (l : List Int) : Kept := ⟨⟨l.getD 0 0, l.getD 1 0⟩, ⟨l.getD 2 0, l.getD 3 0, l.getD 4 0, l.getD 5 0⟩⟩
def cRead (blocks : Int) (s : List UInt8) : Option (What × Kept) :=
  let q := dec s
  let k := q.1.nums.length - 6
  if q.2 ≠ 0 ∨ q.1.nums.length < 6 ∨ (q.1.nums.drop k).any odd = true then none
  else (whatOf blocks q.1 (q.1.nums.take k)).map fun w => (w, keptAt (q.1.nums.drop k))
/-! what records do -/
def cDoes (C : CacheM) (w : What) (k : Kept) (number : Int) : CacheM :=
  match w with
  | .put e => { C with entries := aset C.entries e.block e, puts := aset C.puts e.block number, kept := k }
  | .clean b v => match afind C.entries b with
    | some e => if e.v = v then { C with entries := aset C.entries b { e with dirty := false }, kept := k } else { C with kept := k }
    | none => { C with kept := k }
  | .drop b => { C with entries := adel C.entries b, puts := adel C.puts b, kept := k }
  | .note => { C with kept := k }
def replay : List (List UInt8) → Int → CacheM → Option CacheM
  | [], _, C => some C
  | s :: l, k, C => match cRead C.blocks s with
    | none => none
    | some (w, q) => replay l (k + 1) (cDoes C w q k)
def cFresh (L : LogM) (blocks n : Int) : CacheM := ⟨L, blocks, n, [], [], kept0⟩
def cOpen (D : DevM) (first n a b : Nat) (blocks : Int) : DevM × CacheM × Int :=
  if blocks < 1 ∨ 32 < blocks ∨ (n : Int) < 8 then (D, cFresh (logFirst (cellOpen D a b) first n) blocks n, 1) else
  let q := logOpen D first n a b
  if q.2.2 ≠ 0 then (q.1, cFresh q.2.1 blocks n, q.2.2) else
  match replay (q.2.1.items.map (·.1)) q.2.1.head (cFresh q.2.1 blocks n) with
  | none => (q.1, cFresh q.2.1 blocks n, 4)
  | some C => (q.1, C, 0)
def cGet (C : CacheM) (b : Int) : Ety × Bool := ((afind C.entries b).getD ety0, (afind C.entries b).isSome)
/-- The entries of the blocks from k on, f of them. -/
def allGo (l : List (Int × Ety)) : Nat → Nat → List Ety
  | _, 0 => []
  | k, f + 1 => match afind l (k : Int) with
    | some e => e :: allGo l (k + 1) f
    | none => allGo l (k + 1) f
def cAll (C : CacheM) : List Ety := allGo C.entries 0 C.blocks.toNat
def cNumber (C : CacheM) (i : Int) : Int := if i < 0 ∨ 4 ≤ i then 0 else tabGet C.kept.t i
def cRoom (C : CacheM) : Int := C.n - 6
def cAdd (D : DevM) (C : CacheM) (w : What) (k : Kept) : DevM × CacheM × Int :=
  let q := logAppend D C.log (cBytes w k)
  if q.2.2 = 0 then (q.1, cDoes { C with log := q.2.1 } w k (logTail C.log), 0) else (q.1, { C with log := q.2.1 }, q.2.2)
def cNeeded (C : CacheM) : Option Ety := (C.puts.find? fun p => p.2 = C.log.head).map fun p => (afind C.entries p.1).getD ety0
/-- A step of making room: what is needed is put once more. -/
def cStep (D : DevM) (C : CacheM) : DevM × CacheM × Int :=
  match cNeeded C with
  | some x => cAdd D C (.put x) C.kept
  | none => (D, C, 0)
def cMakeGo : Nat → DevM → CacheM → DevM × CacheM × Int
  | 0, D, C => (D, C, 0)
  | f + 1, D, C => if logFree C.log < 4 then
      let q := cStep D C
      if q.2.2 ≠ 0 then q else
      let r := logTrim q.1 q.2.1.log (C.log.head + 1)
      if r.2.2 ≠ 0 then (r.1, { q.2.1 with log := r.2.1 }, r.2.2) else cMakeGo f r.1 { q.2.1 with log := r.2.1 }
    else (D, C, 0)
def cMake (D : DevM) (C : CacheM) : DevM × CacheM × Int :=
  let q := cMakeGo C.n.toNat D C
  if q.2.2 ≠ 0 then q else if logFree q.2.1.log < 4 then (q.1, q.2.1, 12) else (q.1, q.2.1, 0)
def cCome (D : DevM) (C : CacheM) (w : What) (k : Kept) : DevM × CacheM × Int :=
  let q := cMake D C
  if q.2.2 ≠ 0 then q else cAdd q.1 q.2.1 w k
def spareGo (C : CacheM) : List Ety → Option Int → Option Int
  | [], a => a
  | e :: l, a => if !e.dirty && (a.isNone || above ((afind C.entries (a.getD 0)).getD ety0).v e.v) then spareGo C l (some e.block) else spareGo C l a
def cSpare (C : CacheM) : Option Int := spareGo C (cAll C) none
def putKept (C : CacheM) (e : Ety) : Kept := ⟨e.v, if 0 ≤ e.client then tabSet C.kept.t e.client (max (tabGet C.kept.t e.client) e.n) else C.kept.t⟩
def cPut (D : DevM) (C : CacheM) (e : Ety) : DevM × CacheM × Int :=
  if !inB C.blocks e.block then (D, C, 2) else if (e.data.length : Int) ≠ 8 then (D, C, 3)
  else if !above e.v C.kept.last || (!mayV e.v 1 || (!withinB e.client (-1) 3 || odd e.n)) then (D, C, 1)
  else if (afind C.entries e.block).isSome ∨ (C.entries.length : Int) < cRoom C then cCome D C (.put e) (putKept C e)
  else match cSpare C with
    | none => (D, C, 12)
    | some old =>
      let q := cCome D C (.drop old) C.kept
      if q.2.2 ≠ 0 then q else cAdd q.1 q.2.1 (.put e) (putKept C e)
def cClean (D : DevM) (C : CacheM) (b : Int) (v : Ver) : DevM × CacheM × Int :=
  match afind C.entries b with
  | none => (D, C, 10)
  | some e => if e.v ≠ v then (D, C, 10) else if !e.dirty then (D, C, 0) else cCome D C (.clean b v) C.kept
def cDrop (D : DevM) (C : CacheM) (b : Int) : DevM × CacheM × Int :=
  if (afind C.entries b).isSome then cCome D C (.drop b) C.kept else (D, C, 10)
def cWrong (v : Ver) (l : List Int) : Bool := !mayV v 0 || (!decide ((l.length : Int) = 4) || l.any odd)
def tabOf (l : List Int) : Tab := ⟨l.getD 0 0, l.getD 1 0, l.getD 2 0, l.getD 3 0⟩
def cReset (D : DevM) (C : CacheM) (v : Ver) (l : List Int) : DevM × CacheM × Int :=
  if cWrong v l then (D, C, 1) else cCome D C .note ⟨v, tabOf l⟩
def tabMax (t : Tab) (l : List Int) : Tab := ⟨max t.a (l.getD 0 0), max t.b (l.getD 1 0), max t.c (l.getD 2 0), max t.d (l.getD 3 0)⟩
def noteKept (C : CacheM) (v : Ver) (l : List Int) : Kept := ⟨if above v C.kept.last then v else C.kept.last, tabMax C.kept.t l⟩
def cNote (D : DevM) (C : CacheM) (v : Ver) (l : List Int) : DevM × CacheM × Int :=
  if cWrong v l then (D, C, 1) else cCome D C .note (noteKept C v l)
def cSync (D : DevM) (C : CacheM) : DevM × CacheM × Int := ((devBarrier D).1, C, (devBarrier D).2)
/-! what holds -/
def verOk (v : Ver) : Prop := I64 v.ep ∧ I64 v.sq
def etyOk (blocks : Int) (e : Ety) : Prop := (0 ≤ e.block ∧ e.block < blocks) ∧ verOk e.v ∧ e.data.length = 8 ∧ (-1 ≤ e.client ∧ e.client ≤ 3) ∧ I64 e.n
def tabOk (t : Tab) : Prop := I64 t.a ∧ I64 t.b ∧ I64 t.c ∧ I64 t.d
def keptOk (k : Kept) : Prop := verOk k.last ∧ tabOk k.t
structure CacheOk (D : DevM) (C : CacheM) : Prop where
  log : LogOk D C.log
  blocks : 1 ≤ C.blocks ∧ C.blocks ≤ 32
  n : C.n = C.log.n
  ents : ∀ p ∈ C.entries, p.1 = p.2.block ∧ etyOk C.blocks p.2
  puts : ∀ p ∈ C.puts, (0 ≤ p.1 ∧ p.1 < C.blocks) ∧ (1 ≤ p.2 ∧ p.2 < logTail C.log)
  one : ∀ p ∈ C.puts, ∀ q ∈ C.puts, p.2 = q.2 → p = q
  kept : keptOk C.kept
  has : ∀ p ∈ C.puts, ∃ e, (p.1, e) ∈ C.entries
theorem tab_ix {x0 x1 x2 x3 x4 x5 x6 : Value} {t : Tab} {i : Int} {k : Nat} (h0 : 0 ≤ i) (h1 : i < 4) (hk : k = 7 + i.toNat) : [x0, x1, x2, x3, x4, x5, x6, i64 t.a, i64 t.b, i64 t.c, i64 t.d][k]? = some (i64 (tabGet t i)) := by
  have : i = 0 ∨ i = 1 ∨ i = 2 ∨ i = 3 := by omega
  rcases this with rfl | rfl | rfl | rfl <;> subst hk <;> rfl
theorem cRead_bad {blocks : Int} {s : List UInt8} {r : Rec} {e : Int} (hd : dec s = (r, e)) (h : (!decide (e = 0) || (decide ((r.nums.length : Int) - 6 < 0) || (numsV (r.nums.drop (r.nums.length - 6))).any oddV)) = true) : cRead blocks s = none := by
  unfold cRead; rw [hd]; dsimp only
  rw [oddV_any] at h
  rw [if_pos]
  simp only [Bool.or_eq_true, Bool.not_eq_true', decide_eq_false_iff_not, decide_eq_true_eq] at h
  rcases h with h | h | h
  · exact .inl h
  · exact .inr (.inl (by omega))
  · exact .inr (.inr h)
theorem cRead_good {blocks : Int} {s : List UInt8} {r : Rec} {e : Int} (hd : dec s = (r, e)) (h : (!decide (e = 0) || (decide ((r.nums.length : Int) - 6 < 0) || (numsV (r.nums.drop (r.nums.length - 6))).any oddV)) = false) :
    6 ≤ r.nums.length ∧ cRead blocks s = (whatOf blocks r (r.nums.take (r.nums.length - 6))).map fun w => (w, keptAt (r.nums.drop (r.nums.length - 6))) := by
  rw [oddV_any] at h
  simp only [Bool.or_eq_false_iff, Bool.not_eq_false', decide_eq_true_eq, decide_eq_false_iff_not] at h
  refine ⟨by omega, ?_⟩
  unfold cRead; rw [hd]; dsimp only
  rw [if_neg]
  rintro (h1 | h1 | h1)
  · exact h1 h.1
  · omega
  · rw [h.2.2] at h1; cases h1
theorem nums_drop {l : List Int} {k j : Nat} {i : Int} (h : i.toNat = k + j) (h2 : k + j < l.length) : (numsV l)[i.toNat * 1]? = some (i64 ((l.drop k).getD j 0)) := by
  rw [Nat.mul_one, h, nums_at h2]
  simp [h2]
theorem numsV_one (l : List Int) : ∀ x ∈ numsV l, x.oneCell' = true := by
  intro x hx
  obtain ⟨n, _, rfl⟩ := List.mem_map.1 hx
  rfl
theorem take4 {l : List Int} (h : l.length = 6) : numsV (l.drop 2) = [i64 (l.getD 2 0), i64 (l.getD 3 0), i64 (l.getD 4 0), i64 (l.getD 5 0)] := by
  match l, h with
  | [a, b, c, d, e, f], _ => rfl
theorem Vw.tab {S : HP} {v : Value} {l : List Int} (hw : Vw S v 1 l.length (numsV l)) (h : 6 ≤ l.length) : Vw S (subS v (l.length - 6 + 2) l.length 1) 1 4 [i64 ((l.drop (l.length - 6)).getD 2 0), i64 ((l.drop (l.length - 6)).getD 3 0), i64 ((l.drop (l.length - 6)).getD 4 0), i64 ((l.drop (l.length - 6)).getD 5 0)] := by
  have := hw.sub (l := l.length - 6 + 2) (q := l.length) (Nat.le_refl _) (by omega)
  have e0 : l.length - (l.length - 6 + 2) = 4 := by omega
  have e1 : ((numsV l).drop ((l.length - 6 + 2) * 1)).take ((l.length - (l.length - 6 + 2)) * 1) = numsV ((l.drop (l.length - 6)).drop 2) := by
    rw [e0, List.drop_drop]
    simp only [numsV, List.map_drop]
    rw [List.take_of_length_le (by simp; omega), Nat.mul_one]
  rw [e1, e0, take4 (by simp; omega)] at this
  exact this
def cEnts (C : CacheM) (w : What) : List (Int × Ety) := match w with
  | .put e => aset C.entries e.block e
  | .clean b v => match afind C.entries b with
    | some e => if e.v = v then aset C.entries b { e with dirty := false } else C.entries
    | none => C.entries
  | .drop b => adel C.entries b
  | .note => C.entries
def cPuts (C : CacheM) (w : What) (number : Int) : List (Int × Int) := match w with
  | .put e => aset C.puts e.block number
  | .drop b => adel C.puts b
  | _ => C.puts
theorem cDoes_eq (C : CacheM) (w : What) (k : Kept) (number : Int) : cDoes C w k number = { C with entries := cEnts C w, puts := cPuts C w number, kept := k } := by
  cases w with
  | put e => rfl
  | clean b v =>
    simp only [cDoes, cEnts, cPuts]
    cases afind C.entries b with
    | none => rfl
    | some e => dsimp only; split <;> rfl
  | drop b => rfl
  | note => rfl
theorem cEnts_clean {C : CacheM} {b : Int} {v : Ver} (h1 : (afind C.entries b).isSome = true) (h2 : (decide (((afind C.entries b).getD ety0).v.ep = v.ep) && (decide (((afind C.entries b).getD ety0).v.sq = v.sq) && true)) = true) :
    cEnts C (.clean b v) = aset C.entries b { (afind C.entries b).getD ety0 with dirty := false } := by
  simp only [cEnts]
  cases hf : afind C.entries b with
  | none => rw [hf] at h1; cases h1
  | some e =>
    rw [hf] at h2
    simp only [Option.getD_some, Bool.and_true, Bool.and_eq_true, decide_eq_true_eq] at h2
    dsimp only [Option.getD_some]
    rw [if_pos]
    cases hv : e.v; cases v; simp_all
theorem cEnts_clean0 {C : CacheM} {b : Int} {v : Ver} (h1 : (afind C.entries b).isSome = false) : cEnts C (.clean b v) = C.entries := by
  simp only [cEnts]
  cases hf : afind C.entries b with
  | none => rfl
  | some e => rw [hf] at h1; cases h1
theorem cEnts_clean1 {C : CacheM} {b : Int} {v : Ver} (h2 : (decide (((afind C.entries b).getD ety0).v.ep = v.ep) && (decide (((afind C.entries b).getD ety0).v.sq = v.sq) && true)) = false) : cEnts C (.clean b v) = C.entries := by
  simp only [cEnts]
  cases hf : afind C.entries b with
  | none => rfl
  | some e =>
    dsimp only
    rw [if_neg]
    rintro rfl
    rw [hf] at h2
    simp at h2
theorem tab_ix2 {x0 x1 : Value} {t : Tab} {i : Int} {k : Nat} (h0 : 0 ≤ i) (h1 : i < 4) (hk : k = 2 + i.toNat) : [x0, x1, i64 t.a, i64 t.b, i64 t.c, i64 t.d][k]? = some (i64 (tabGet t i)) := by
  have : i = 0 ∨ i = 1 ∨ i = 2 ∨ i = 3 := by omega
  rcases this with rfl | rfl | rfl | rfl <;> subst hk <;> rfl
theorem tab_upd2 {x0 x1 : Value} {t : Tab} {i x : Int} {k : Nat} (h0 : 0 ≤ i) (h1 : i < 4) (hk : k = 2 + i.toNat) : upd [x0, x1, i64 t.a, i64 t.b, i64 t.c, i64 t.d] k (i64 x) = some [x0, x1, i64 (tabSet t i x).a, i64 (tabSet t i x).b, i64 (tabSet t i x).c, i64 (tabSet t i x).d] := by
  have : i = 0 ∨ i = 1 ∨ i = 2 ∨ i = 3 := by omega
  rcases this with rfl | rfl | rfl | rfl <;> subst hk <;> rfl
theorem spareGo_step {C : CacheM} {l : List Ety} {k : Nat} {e : Ety} {a : Option Int} (h : l[k]? = some e) : spareGo C (l.drop k) a = if !e.dirty && (a.isNone || above ((afind C.entries (a.getD 0)).getD ety0).v e.v) then spareGo C (l.drop (k + 1)) (some e.block) else spareGo C (l.drop (k + 1)) a := by
  obtain ⟨h1, h2⟩ := List.getElem?_eq_some_iff.1 h
  rw [List.drop_eq_getElem_cons h1, h2]; rfl
theorem allGo_len : ∀ (l : List (Int × Ety)) (k f : Nat), (allGo l k f).length ≤ f
  | _, _, 0 => Nat.le_refl _
  | l, k, f + 1 => by
    unfold allGo
    have := allGo_len l (k + 1) f
    split
    · simp; omega
    · omega
end Sei
/- Plain: what holds of caches stays. -/
namespace Sei
open Go Go.Sl
def whatOk (blocks : Int) : What → Prop
  | .put e => etyOk blocks e
  | .clean b v => (0 ≤ b ∧ b < blocks) ∧ verOk v
  | .drop b => 0 ≤ b ∧ b < blocks
  | .note => True
theorem I64_small {n : Int} (h : -9223372036854775808 ≤ n) (h2 : n ≤ 9223372036854775807) : I64 n := ⟨h, h2⟩
theorem whatNs_ok {D : DevM} {C : CacheM} (h : CacheOk D C) {w : What} {k : Kept} (hw : whatOk C.blocks w) (hk : keptOk k) : ∀ n ∈ whatNs w ++ keptNs k, I64 n := by
  have hb := h.blocks
  intro n hn
  rcases List.mem_append.1 hn with hn | hn
  · cases w with
    | put e =>
      obtain ⟨h1, h2, h3, h4, h5⟩ := hw
      simp only [whatNs, List.mem_cons, List.not_mem_nil, or_false] at hn
      rcases hn with rfl | rfl | rfl | rfl | rfl | rfl
      · exact I64_small (by omega) (by omega)
      · exact h2.1
      · exact h2.2
      · unfold dirtyN; split <;> exact I64_small (by omega) (by omega)
      · exact I64_small (by omega) (by omega)
      · exact h5
    | clean b v =>
      obtain ⟨h1, h2⟩ := hw
      simp only [whatNs, List.mem_cons, List.not_mem_nil, or_false] at hn
      rcases hn with rfl | rfl | rfl
      · exact I64_small (by omega) (by omega)
      · exact h2.1
      · exact h2.2
    | drop b =>
      have hw : 0 ≤ b ∧ b < C.blocks := hw
      simp only [whatNs, List.mem_cons, List.not_mem_nil, or_false] at hn
      subst hn
      exact I64_small (by omega) (by omega)
    | note => cases hn
  · obtain ⟨⟨h1, h2⟩, h3, h4, h5, h6⟩ := hk
    simp only [keptNs, List.mem_cons, List.not_mem_nil, or_false] at hn
    rcases hn with rfl | rfl | rfl | rfl | rfl | rfl <;> assumption
theorem logAppend_err {D D' : DevM} {L L' : LogM} {s : List UInt8} {e : Int} (h : logAppend D L s = (D', L', e)) (he : e ≠ 0) : L' = L := by
  unfold logAppend at h
  split at h
  · simp only [Prod.mk.injEq] at h; exact h.2.1.symm
  · split at h
    · simp only [Prod.mk.injEq] at h; exact h.2.1.symm
    · split at h
      · simp only [Prod.mk.injEq] at h; exact h.2.1.symm
      · dsimp only at h
        split at h
        · simp only [Prod.mk.injEq] at h; exact absurd h.2.2.symm he
        · simp only [Prod.mk.injEq] at h; exact h.2.1.symm
theorem logAppend_ok {D D' : DevM} {L L' : LogM} {s : List UInt8} (h : logAppend D L s = (D', L', 0)) : L' = { L with items := L.items ++ [(s, L.time)] } ∧ logFree L ≠ 0 ∧ logTail L < 4611686018427387904 ∧ s.length ≤ 110 ∧ devWrite D (logPlace L (logTail L)) (framed (enc ⟨2, [logTail L, L.time], [s]⟩).1) = (D', 0) := by
  unfold logAppend at h
  split at h
  · simp at h
  · split at h
    · simp at h
    · split at h
      · simp at h
      · dsimp only at h
        split at h
        · rename_i h1 h2 h3 h4
          simp only [Prod.mk.injEq] at h
          refine ⟨h.2.1.symm, h2, by omega, by omega, ?_⟩
          rw [← h.1, ← h4]
        · rename_i h4; simp only [Prod.mk.injEq] at h; exact absurd h.2.2 h4
theorem logTail_push (L : LogM) (x : List UInt8 × Int) : logTail { L with items := L.items ++ [x] } = logTail L + 1 := by
  simp [logTail]; omega
theorem entOf {D : DevM} {C : CacheM} (h : CacheOk D C) {b : Int} {e : Ety} (hf : afind C.entries b = some e) : e.block = b ∧ etyOk C.blocks e := by
  have := h.ents _ (afind_mem hf)
  exact ⟨this.1.symm, this.2⟩
theorem adel_mem {α : Type} {l : List (Int × α)} {k : Int} {p : Int × α} (h : p ∈ adel l k) : p ∈ l ∧ p.1 ≠ k := by
  unfold adel at h
  have := List.mem_filter.1 h
  exact ⟨this.1, by simpa using this.2⟩
theorem aset_self {α : Type} (l : List (Int × α)) (k : Int) (v : α) : (k, v) ∈ aset l k v := by
  unfold aset
  split
  · rename_i h
    obtain ⟨p, hp, hk⟩ := List.any_eq_true.1 h
    exact List.mem_map.2 ⟨p, hp, by rw [if_pos hk]⟩
  · simp
theorem aset_has {α : Type} {l : List (Int × α)} {k j : Int} {v w : α} (h : (j, w) ∈ l) : ∃ u, (j, u) ∈ aset l k v := by
  by_cases hj : j = k
  · subst hj; exact ⟨v, aset_self l j v⟩
  · unfold aset
    split
    · exact ⟨w, List.mem_map.2 ⟨(j, w), h, by rw [if_neg (by simpa using hj)]⟩⟩
    · exact ⟨w, List.mem_append.2 (.inl h)⟩
theorem adel_has {α : Type} {l : List (Int × α)} {k j : Int} {w : α} (h : (j, w) ∈ l) (hj : j ≠ k) : (j, w) ∈ adel l k := List.mem_filter.2 ⟨h, by simpa using hj⟩
theorem afind_has {α : Type} {l : List (Int × α)} {k : Int} {v : α} (h : (k, v) ∈ l) : ∃ u, afind l k = some u := by
  cases hf : afind l k with
  | some u => exact ⟨u, rfl⟩
  | none =>
    unfold afind at hf
    simp only [Option.map_eq_none_iff, List.find?_eq_none] at hf
    exact absurd (hf _ h) (by simp)
theorem CacheOk.does {D : DevM} {C : CacheM} (h : CacheOk D C) {w : What} {k : Kept} (hw : whatOk C.blocks w) (hk : keptOk k) {L : LogM} {D' : DevM} (hL : LogOk D' L) (hn : L.n = C.log.n) {number : Int} (h0 : logTail C.log ≤ logTail L) (h1 : ∀ p ∈ C.puts, p.2 < number) (h2 : number < logTail L) (h3 : 1 ≤ number) : CacheOk D' (cDoes { C with log := L } w k number) := by
  rw [cDoes_eq]
  refine ⟨hL, h.blocks, by show C.n = L.n; rw [hn]; exact h.n, fun p hp => ?_, fun p hp => ?_, fun p hp q hq hpq => ?_, hk, fun p hp => ?_⟩
  · cases w with
    | put e =>
      rcases aset_mem hp with hp | rfl
      · exact h.ents p hp
      · exact ⟨rfl, hw⟩
    | clean b v =>
      simp only [cEnts] at hp
      cases hf : afind C.entries b with
      | none => rw [hf] at hp; exact h.ents p hp
      | some e =>
        rw [hf] at hp
        dsimp only at hp
        split at hp
        · rcases aset_mem hp with hp | rfl
          · exact h.ents p hp
          · obtain ⟨h4, h5⟩ := entOf h hf
            exact ⟨h4.symm, h5⟩
        · exact h.ents p hp
    | drop b => exact h.ents p (adel_mem hp).1
    | note => exact h.ents p hp
  · have old : ∀ p ∈ C.puts, (0 ≤ p.1 ∧ p.1 < C.blocks) ∧ 1 ≤ p.2 ∧ p.2 < logTail L := fun p hp => by
      have := h.puts p hp; exact ⟨this.1, this.2.1, by omega⟩
    cases w with
    | put e =>
      rcases aset_mem hp with hp | rfl
      · exact old p hp
      · exact ⟨hw.1, h3, h2⟩
    | clean b v => exact old p hp
    | drop b => exact old p (adel_mem hp).1
    | note => exact old p hp
  · cases w with
    | put e =>
      rcases aset_mem hp with hp | rfl <;> rcases aset_mem hq with hq | rfl
      · exact h.one p hp q hq hpq
      · have := h1 p hp; dsimp only at hpq; omega
      · have := h1 q hq; dsimp only at hpq; omega
      · rfl
    | clean b v => exact h.one p hp q hq hpq
    | drop b => exact h.one p (adel_mem hp).1 q (adel_mem hq).1 hpq
    | note => exact h.one p hp q hq hpq
  · cases w with
    | put e =>
      rcases aset_mem hp with hp | rfl
      · obtain ⟨x, hx⟩ := h.has p hp
        exact aset_has hx
      · exact ⟨e, aset_self _ _ _⟩
    | clean b v =>
      obtain ⟨x, hx⟩ := h.has p hp
      simp only [cEnts]
      cases hf : afind C.entries b with
      | none => exact ⟨x, hx⟩
      | some e =>
        dsimp only
        split
        · exact aset_has hx
        · exact ⟨x, hx⟩
    | drop b =>
      obtain ⟨h1, h2⟩ := adel_mem hp
      obtain ⟨x, hx⟩ := h.has p h1
      exact ⟨x, adel_has hx h2⟩
    | note => exact h.has p hp
theorem CacheOk.of_log {D D' : DevM} {C : CacheM} (h : CacheOk D C) {L : LogM} (hL : LogOk D' L) (hn : L.n = C.log.n) (ht : logTail L = logTail C.log) : CacheOk D' { C with log := L } :=
  ⟨hL, h.blocks, by show C.n = L.n; rw [hn]; exact h.n, h.ents, fun p hp => by have := h.puts p hp; exact ⟨this.1, this.2.1, by show p.2 < logTail L; omega⟩, h.one, h.kept, h.has⟩
theorem CacheOk.add {D : DevM} {C : CacheM} (h : CacheOk D C) {w : What} {k : Kept} (hw : whatOk C.blocks w) (hk : keptOk k) : CacheOk (cAdd D C w k).1 (cAdd D C w k).2.1 ∧ (cAdd D C w k).2.1.n = C.n ∧ (cAdd D C w k).2.1.blocks = C.blocks ∧ ((cAdd D C w k).2.1.log.head = C.log.head) := by
  have hA := h.log.append (cBytes w k)
  unfold cAdd
  cases hq : logAppend D C.log (cBytes w k) with
  | mk D' q =>
    obtain ⟨L', e⟩ := q
    rw [hq] at hA
    dsimp only at hA ⊢
    have hh := h.log.head
    split
    · rename_i he
      have he : e = 0 := he
      subst he
      obtain ⟨rfl, h1, h2, h3, h4⟩ := logAppend_ok hq
      have ht := logTail_push C.log (cBytes w k, C.log.time)
      refine ⟨h.does hw hk hA rfl (by rw [ht]; omega) (fun p hp => (h.puts p hp).2.2) (by rw [ht]; omega) (by unfold logTail; omega), ?_, ?_, ?_⟩ <;> rw [cDoes_eq]
    · rename_i he
      have := logAppend_err hq he
      subst this
      exact ⟨h.of_log hA rfl rfl, rfl, rfl, rfl⟩
theorem logTrim_tail {D : DevM} {L : LogM} (h : LogOk D L) (k : Int) : logTail (logTrim D L k).2.1 = logTail L ∧ (logTrim D L k).2.1.n = L.n := by
  cases hw : withinB k L.head (logTail L) with
  | false => rw [logTrim, if_pos (by simp [hw])]; exact ⟨rfl, rfl⟩
  | true =>
    by_cases hb : (devBarrier D).2 = 0
    · have hk := withinB_iff.1 hw
      cases hq : logPut (devBarrier D).1 L k (trimLeast L k) with
      | mk D' q =>
        obtain ⟨L', e⟩ := q
        have hL := logPut_keeps hq
        rw [logTrim_go hk hb hq]
        split
        · refine ⟨?_, by dsimp only; rw [hL]⟩
          unfold logTail at *
          simp only [List.length_drop]; omega
        · rw [hL]; exact ⟨rfl, rfl⟩
    · rw [logTrim, if_neg (by simp [hw]), if_pos hb]; exact ⟨rfl, rfl⟩
theorem CacheOk.trim {D : DevM} {C : CacheM} (h : CacheOk D C) (k : Int) : CacheOk (logTrim D C.log k).1 { C with log := (logTrim D C.log k).2.1 } := by
  obtain ⟨h1, h2⟩ := logTrim_tail h.log k
  exact h.of_log (h.log.trim k) h2 h1
theorem cNeeded_ok {D : DevM} {C : CacheM} (h : CacheOk D C) {x : Ety} (hx : cNeeded C = some x) : etyOk C.blocks x ∧ ∃ p ∈ C.puts, p.2 = C.log.head ∧ afind C.entries p.1 = some x ∧ x.block = p.1 := by
  unfold cNeeded at hx
  cases hf : C.puts.find? (fun p => p.2 = C.log.head) with
  | none => rw [hf] at hx; cases hx
  | some p =>
    rw [hf] at hx
    have hp := List.mem_of_find?_eq_some hf
    have hph : p.2 = C.log.head := by simpa using List.find?_some hf
    obtain ⟨e, he⟩ := h.has p hp
    obtain ⟨u, hu⟩ := afind_has he
    simp only [Option.map_some, hu, Option.getD_some, Option.some.injEq] at hx
    subst hx
    obtain ⟨h1, h2⟩ := entOf h hu
    exact ⟨h2, p, hp, hph, hu, h1⟩
theorem CacheOk.step {D : DevM} {C : CacheM} (h : CacheOk D C) : CacheOk (cStep D C).1 (cStep D C).2.1 ∧ (cStep D C).2.1.n = C.n ∧ (cStep D C).2.1.blocks = C.blocks ∧ (cStep D C).2.1.log.head = C.log.head := by
  unfold cStep
  cases hn : cNeeded C with
  | none => exact ⟨h, rfl, rfl, rfl⟩
  | some x => exact h.add (cNeeded_ok h hn).1 h.kept
theorem CacheOk.makeGo : ∀ (f : Nat) {D : DevM} {C : CacheM}, CacheOk D C → CacheOk (cMakeGo f D C).1 (cMakeGo f D C).2.1 ∧ (cMakeGo f D C).2.1.n = C.n ∧ (cMakeGo f D C).2.1.blocks = C.blocks
  | 0, D, C, h => ⟨h, rfl, rfl⟩
  | f + 1, D, C, h => by
    unfold cMakeGo
    split
    · obtain ⟨h1, h2, h3, h4⟩ := h.step
      dsimp only
      split
      · exact ⟨h1, h2, h3⟩
      · split
        · exact ⟨h1.trim _, h2, h3⟩
        · have := CacheOk.makeGo f (h1.trim (C.log.head + 1))
          exact ⟨this.1, this.2.1.trans h2, this.2.2.trans h3⟩
    · exact ⟨h, rfl, rfl⟩
theorem CacheOk.make {D : DevM} {C : CacheM} (h : CacheOk D C) : CacheOk (cMake D C).1 (cMake D C).2.1 ∧ (cMake D C).2.1.n = C.n ∧ (cMake D C).2.1.blocks = C.blocks := by
  have := h.makeGo C.n.toNat
  unfold cMake
  dsimp only
  split
  · exact this
  · split <;> exact this
theorem CacheOk.come {D : DevM} {C : CacheM} (h : CacheOk D C) {w : What} {k : Kept} (hw : whatOk C.blocks w) (hk : keptOk k) : CacheOk (cCome D C w k).1 (cCome D C w k).2.1 ∧ (cCome D C w k).2.1.n = C.n ∧ (cCome D C w k).2.1.blocks = C.blocks := by
  obtain ⟨h1, h2, h3⟩ := h.make
  unfold cCome
  dsimp only
  split
  · exact ⟨h1, h2, h3⟩
  · obtain ⟨h4, h5, h6, _⟩ := h1.add (w := w) (k := k) (by rw [h3]; exact hw) hk
    exact ⟨h4, h5.trans h2, h6.trans h3⟩
theorem cNeeded_is {D : DevM} {C : CacheM} (h : CacheOk D C) {b n : Int} (hp : (b, n) ∈ C.puts) (hn : n = C.log.head) : cNeeded C = some ((afind C.entries b).getD ety0) := by
  unfold cNeeded
  cases hf : C.puts.find? (fun p => p.2 = C.log.head) with
  | none =>
    rw [List.find?_eq_none] at hf
    exact absurd (hf _ hp) (by simpa using hn)
  | some q =>
    have hq := List.mem_of_find?_eq_some hf
    have hqh : q.2 = C.log.head := by simpa using List.find?_some hf
    have := h.one q hq _ hp (by rw [hqh, ← hn])
    subst this
    rfl
theorem cNeeded_none {C : CacheM} (h : ∀ p ∈ C.puts, p.2 = C.log.head → False) : cNeeded C = none := by
  unfold cNeeded
  rw [List.find?_eq_none.2 fun p hp => by simpa using h p hp]; rfl
theorem cMakeGo_fail {f : Nat} {D : DevM} {C : CacheM} (hf : logFree C.log < 4) (h : (cStep D C).2.2 ≠ 0) : cMakeGo (f + 1) D C = cStep D C := by
  unfold cMakeGo; rw [if_pos hf]; dsimp only; rw [if_pos h]
theorem cMakeGo_go {f : Nat} {D D2 D3 : DevM} {C C2 : CacheM} {L3 : LogM} {e : Int} (hf : logFree C.log < 4) (hs : cStep D C = (D2, C2, 0)) (ht : logTrim D2 C2.log (C.log.head + 1) = (D3, L3, e)) : cMakeGo (f + 1) D C = if e ≠ 0 then (D3, { C2 with log := L3 }, e) else cMakeGo f D3 { C2 with log := L3 } := by
  rw [cMakeGo, if_pos hf, hs]; dsimp only; rw [if_neg (by simp), ht]
theorem cMakeGo_end {f : Nat} {D : DevM} {C : CacheM} (hf : ¬ logFree C.log < 4) : cMakeGo f D C = (D, C, 0) := by
  cases f with
  | zero => rfl
  | succ f => unfold cMakeGo; rw [if_neg hf]
theorem cMake_err {D D' : DevM} {C C' : CacheM} {e : Int} (h : cMakeGo C.n.toNat D C = (D', C', e)) (he : e ≠ 0) : cMake D C = (D', C', e) := by
  unfold cMake; dsimp only; rw [h, if_pos he]
theorem cMake_end {D D' : DevM} {C C' : CacheM} (h : cMakeGo C.n.toNat D C = (D', C', 0)) : cMake D C = if logFree C'.log < 4 then (D', C', 12) else (D', C', 0) := by
  unfold cMake; dsimp only; rw [h, if_neg (by simp)]
theorem cPut_ok {D : DevM} {C : CacheM} {e : Ety} (h1 : (!inB C.blocks e.block) = false) (h2 : (e.data.length : Int) = 8) (h3 : (!above e.v C.kept.last || (!mayV e.v 1 || (!withinB e.client (-1) 3 || odd e.n))) = false) :
    cPut D C e = if (afind C.entries e.block).isSome ∨ (C.entries.length : Int) < cRoom C then cCome D C (.put e) (putKept C e) else match cSpare C with
      | none => (D, C, 12)
      | some old => let q := cCome D C (.drop old) C.kept; if q.2.2 ≠ 0 then q else cAdd q.1 q.2.1 (.put e) (putKept C e) := by
  rw [cPut, if_neg (by rw [h1]; decide), if_neg (by simpa using h2), if_neg (by rw [h3]; decide)] <;> rfl
theorem put_ok {C : CacheM} {e : Ety} (hv : verOk e.v) (hn : I64 e.n) (h1 : (!inB C.blocks e.block) = false) (h2 : (e.data.length : Int) = 8) (h3 : (!above e.v C.kept.last || (!mayV e.v 1 || (!withinB e.client (-1) 3 || odd e.n))) = false) : etyOk C.blocks e := by
  have hb : inB C.blocks e.block = true := by simpa using h1
  simp only [Bool.or_eq_false_iff, Bool.not_eq_false'] at h3
  have hc := withinB_iff.1 h3.2.2.1
  have hb := withinB_iff.1 hb
  exact ⟨by omega, hv, by omega, hc, hn⟩
theorem I64_max {a b : Int} (ha : I64 a) (hb : I64 b) : I64 (max a b) := by unfold I64 at *; omega
theorem tabGet_ok {t : Tab} (h : tabOk t) (i : Int) : I64 (tabGet t i) := by
  obtain ⟨h1, h2, h3, h4⟩ := h
  unfold tabGet; split
  · assumption
  · split
    · assumption
    · split <;> assumption
theorem tabSet_ok {t : Tab} (h : tabOk t) (i : Int) {x : Int} (hx : I64 x) : tabOk (tabSet t i x) := by
  obtain ⟨h1, h2, h3, h4⟩ := h
  unfold tabSet; split
  · exact ⟨hx, h2, h3, h4⟩
  · split
    · exact ⟨h1, hx, h3, h4⟩
    · split
      · exact ⟨h1, h2, hx, h4⟩
      · exact ⟨h1, h2, h3, hx⟩
theorem putKept_ok {D : DevM} {C : CacheM} (h : CacheOk D C) {e : Ety} (hv : verOk e.v) (hn : I64 e.n) : keptOk (putKept C e) := by
  refine ⟨hv, ?_⟩
  unfold putKept
  dsimp only
  split
  · exact tabSet_ok h.kept.2 _ (I64_max (tabGet_ok h.kept.2 _) hn)
  · exact h.kept.2
theorem allGo_mem : ∀ (l : List (Int × Ety)) (k f : Nat) (e : Ety), e ∈ allGo l k f → ∃ i : Nat, afind l (i : Int) = some e ∧ k ≤ i ∧ i < k + f
  | _, _, 0, e, h => by cases h
  | l, k, f + 1, e, h => by
    unfold allGo at h
    split at h
    · rename_i x hx
      rcases List.mem_cons.1 h with rfl | h
      · exact ⟨k, hx, Nat.le_refl _, by omega⟩
      · obtain ⟨i, h1, h2, h3⟩ := allGo_mem l (k + 1) f e h
        exact ⟨i, h1, by omega, by omega⟩
    · obtain ⟨i, h1, h2, h3⟩ := allGo_mem l (k + 1) f e h
      exact ⟨i, h1, by omega, by omega⟩
theorem spareGo_mem {C : CacheM} : ∀ (l : List Ety) (a : Option Int) (b : Int), spareGo C l a = some b → a = some b ∨ ∃ e ∈ l, e.block = b
  | [], a, b, h => .inl h
  | e :: l, a, b, h => by
    unfold spareGo at h
    split at h
    · rcases spareGo_mem l _ b h with h | ⟨x, hx, hb⟩
      · injection h with h; exact .inr ⟨e, by simp, h⟩
      · exact .inr ⟨x, by simp [hx], hb⟩
    · rcases spareGo_mem l _ b h with h | ⟨x, hx, hb⟩
      · exact .inl h
      · exact .inr ⟨x, by simp [hx], hb⟩
theorem cSpare_ok {D : DevM} {C : CacheM} (h : CacheOk D C) {b : Int} (hb : cSpare C = some b) : 0 ≤ b ∧ b < C.blocks := by
  rcases spareGo_mem _ _ _ hb with h1 | ⟨e, he, rfl⟩
  · cases h1
  · obtain ⟨i, hi, _⟩ := allGo_mem _ _ _ _ he
    exact (entOf h hi).2.1
theorem dec_I64 (s : List UInt8) : ∀ n ∈ (dec s).1.nums, I64 n := by
  unfold dec
  cases hd : decRec s with
  | none => intro n hn; cases hn
  | some r =>
    intro n hn
    dsimp only at hn
    match s, hd with
    | x :: y :: rest, hd =>
      rw [decRec_cons] at hd
      split at hd
      · cases hd
      · split at hd
        · cases hd
        · rename_i ns rest' hns
          split at hd
          · cases hd
          · split at hd
            · injection hd with hd; subst hd; exact (decNums_I64 _ hns).2 n hn
            · cases hd
theorem getD_I64 {l : List Int} (h : ∀ n ∈ l, I64 n) (j : Nat) : I64 (l.getD j 0) := by
  rw [List.getD_eq_getElem?_getD]
  cases hj : l[j]? with
  | none => exact I64_small (by simp) (by simp)
  | some n => exact h n (List.mem_of_getElem? hj)
theorem whatOf_ok {blocks : Int} {r : Rec} {n : List Int} (hn : ∀ x ∈ n, I64 x) {w : What} (h : whatOf blocks r n = some w) : whatOk blocks w := by
  unfold whatOf at h
  split at h
  · split at h
    · rename_i hp
      injection h with h; subst h
      simp only [putOk, Bool.and_eq_true, decide_eq_true_eq] at hp
      obtain ⟨h1, h2, h3, h4, h5, h6⟩ := hp
      have h1 := withinB_iff.1 h1
      have h4 := withinB_iff.1 h4
      exact ⟨by omega, ⟨getD_I64 hn 1, getD_I64 hn 2⟩, by omega, h4, getD_I64 hn 5⟩
    · cases h
  · split at h
    · split at h
      · rename_i hp
        injection h with h; subst h
        rw [Bool.and_eq_true] at hp
        have h1 := withinB_iff.1 hp.1
        exact ⟨by omega, ⟨getD_I64 hn 1, getD_I64 hn 2⟩⟩
      · cases h
    · split at h
      · rename_i hp
        injection h with h; subst h
        have h1 := withinB_iff.1 hp.2.2.2
        show 0 ≤ n.getD 0 0 ∧ n.getD 0 0 < blocks
        omega
      · split at h
        · injection h with h; subst h; trivial
        · cases h
theorem cRead_ok {blocks : Int} {s : List UInt8} {w : What} {k : Kept} (h : cRead blocks s = some (w, k)) : whatOk blocks w ∧ keptOk k := by
  have hI := dec_I64 s
  unfold cRead at h
  dsimp only at h
  split at h
  · cases h
  · simp only [Option.map_eq_some_iff, Prod.mk.injEq] at h
    obtain ⟨w', hw, rfl, rfl⟩ := h
    refine ⟨whatOf_ok (fun x hx => hI x (List.mem_of_mem_take hx)) hw, ?_⟩
    have hd : ∀ x ∈ (dec s).1.nums.drop ((dec s).1.nums.length - 6), I64 x := fun x hx => hI x (List.mem_of_mem_drop hx)
    exact ⟨⟨getD_I64 hd 0, getD_I64 hd 1⟩, getD_I64 hd 2, getD_I64 hd 3, getD_I64 hd 4, getD_I64 hd 5⟩
theorem cFresh_ok {D : DevM} {L : LogM} (h : LogOk D L) {blocks : Int} (hb : 1 ≤ blocks ∧ blocks ≤ 32) : CacheOk D (cFresh L blocks L.n) := by
  refine ⟨h, hb, rfl, by simp [cFresh], by simp [cFresh], by simp [cFresh], ?_, by simp [cFresh]⟩
  unfold cFresh kept0 ver0 tab0 keptOk verOk tabOk I64; simp
theorem replay_step {l : List (List UInt8)} {k : Nat} {s : List UInt8} {number : Int} {C : CacheM} (h : l[k]? = some s) : replay (l.drop k) number C = match cRead C.blocks s with
    | none => none
    | some (w, q) => replay (l.drop (k + 1)) (number + 1) (cDoes C w q number) := by
  obtain ⟨h1, h2⟩ := List.getElem?_eq_some_iff.1 h
  rw [List.drop_eq_getElem_cons h1, h2]; rfl
structure RepI (D : DevM) (L : LogM) (blocks : Int) (i : Nat) (C : CacheM) (C0 : CacheM) : Prop where
  le : i ≤ L.items.length
  eq : replay ((L.items.map (·.1)).drop i) (L.head + i) C = replay (L.items.map (·.1)) L.head C0
  ok : CacheOk D C
  log : C.log = L
  blocks : C.blocks = blocks
  puts : ∀ p ∈ C.puts, p.2 < L.head + i
theorem RepI.start {D : DevM} {L : LogM} (h : LogOk D L) {blocks : Int} (hb : 1 ≤ blocks ∧ blocks ≤ 32) : RepI D L blocks 0 (cFresh L blocks L.n) (cFresh L blocks L.n) :=
  ⟨Nat.zero_le _, by simp, cFresh_ok h hb, rfl, rfl, by simp [cFresh]⟩
theorem RepI.step {D : DevM} {L : LogM} {blocks : Int} {i : Nat} {C C0 : CacheM} (h : RepI D L blocks i C C0) {s : List UInt8} (hs : (L.items.map (·.1))[i]? = some s) {w : What} {k : Kept} (hr : cRead C.blocks s = some (w, k)) : RepI D L blocks (i + 1) (cDoes C w k (L.head + i)) C0 := by
  have hlt : i < L.items.length := by have := (List.getElem?_eq_some_iff.1 hs).1; simpa using this
  obtain ⟨hw, hk⟩ := cRead_ok hr
  have hl := h.log
  have ht : logTail L = L.head + L.items.length := rfl
  have hh := h.ok.log.head
  rw [hl] at hh
  have hC : { C with log := L } = C := by rw [← hl]
  have := h.ok.does (L := L) (number := L.head + i) hw hk (by rw [← hl]; exact h.ok.log) (by rw [hl]) (by rw [hl]; exact Int.le_refl _) h.puts (by rw [ht]; omega) (by omega)
  rw [hC] at this
  refine ⟨hlt, ?_, this, ?_, ?_, fun p hp => ?_⟩
  · rw [← h.eq, replay_step hs, hr]
    show _ = replay _ (L.head + i + 1) _
    congr 1; omega
  · rw [cDoes_eq]; exact h.log
  · rw [cDoes_eq]; exact h.blocks
  · rw [cDoes_eq] at hp
    have old : ∀ p ∈ C.puts, p.2 < L.head + ((i + 1 : Nat) : Int) := fun p hp => by have := h.puts p hp; omega
    cases w with
    | put e =>
      rcases aset_mem hp with hp | rfl
      · exact old p hp
      · show L.head + (i : Int) < _; omega
    | clean b v => exact old p hp
    | drop b => exact old p (adel_mem hp).1
    | note => exact old p hp
theorem RepI.bad {D : DevM} {L : LogM} {blocks : Int} {i : Nat} {C C0 : CacheM} (h : RepI D L blocks i C C0) {s : List UInt8} (hs : (L.items.map (·.1))[i]? = some s) (hr : cRead C.blocks s = none) : replay (L.items.map (·.1)) L.head C0 = none := by
  rw [← h.eq, replay_step hs, hr]
theorem RepI.done {D : DevM} {L : LogM} {blocks : Int} {i : Nat} {C C0 : CacheM} (h : RepI D L blocks i C C0) (hi : ¬ i < L.items.length) : replay (L.items.map (·.1)) L.head C0 = some C := by
  rw [← h.eq, List.drop_eq_nil_of_le (by simp; omega)]; rfl
theorem cOpen_arg {D : DevM} {first n a b : Nat} {blocks : Int} (h : blocks < 1 ∨ 32 < blocks ∨ (n : Int) < 8) : cOpen D first n a b blocks = (D, cFresh (logFirst (cellOpen D a b) first n) blocks n, 1) := by
  unfold cOpen; rw [if_pos h]
theorem cOpen_log {D D' : DevM} {first n a b : Nat} {blocks : Int} {L : LogM} {e : Int} (h : ¬ (blocks < 1 ∨ 32 < blocks ∨ (n : Int) < 8)) (hl : logOpen D first n a b = (D', L, e)) : cOpen D first n a b blocks = if e ≠ 0 then (D', cFresh L blocks n, e) else match replay (L.items.map (·.1)) L.head (cFresh L blocks n) with
    | none => (D', cFresh L blocks n, 4)
    | some C => (D', C, 0) := by
  unfold cOpen; rw [if_neg h, hl] <;> rfl
theorem logOpen_ok {D : DevM} (hD : DevOk D) (first n a b : Nat) (hn : 2 ≤ n) (hf : first + n ≤ D.l.length) : LogOk (logOpen D first n a b).1 (logOpen D first n a b).2.1 ∧ (logOpen D first n a b).2.1.n = n := by
  obtain ⟨h1, h2, h3, h4, h5⟩ := logFirst_ok hD a b first n hn hf
  have hn2 : ∀ (f : Nat) (L : LogM) (t : Int), (scanGo D f L t).n = L.n := by
    intro f
    induction f with
    | zero => intro L t; rfl
    | succ f ih => intro L t; unfold scanGo; split; · rfl
                   · exact ih _ _
  by_cases ht : (logFirst (cellOpen D a b) first n).time = 4611686018427387904
  · rw [logOpen_full ht]; exact ⟨h1, h4⟩
  · rw [logOpen_of ht]
    obtain ⟨h6, h7, h8, h9⟩ := h1.scan h2 h3
    have h10 := h6.tick (by rw [h8]; exact ht)
    refine ⟨h10.put _ _, ?_⟩
    show (logScan D _).n = n
    unfold logScan
    rw [hn2]; exact h4
def tabMaxN (t : Tab) (l : List Int) : Nat → Tab
  | 0 => t
  | k + 1 => tabSet (tabMaxN t l k) (k : Int) (max (tabGet (tabMaxN t l k) (k : Int)) (l.getD k 0))
theorem tabMaxN_all (t : Tab) (l : List Int) : tabMaxN t l 4 = tabMax t l := rfl
theorem noteKept_ok {D : DevM} {C : CacheM} (h : CacheOk D C) {v : Ver} (hv : verOk v) {l : List Int} (hl : ∀ n ∈ l, I64 n) : keptOk (noteKept C v l) := by
  obtain ⟨h1, h2, h3, h4, h5⟩ := h.kept
  unfold noteKept
  refine ⟨?_, I64_max h2 (getD_I64 hl 0), I64_max h3 (getD_I64 hl 1), I64_max h4 (getD_I64 hl 2), I64_max h5 (getD_I64 hl 3)⟩
  dsimp only
  split
  · exact hv
  · exact h1
end Sei
/- Plain: what the laws on caches call. -/
namespace Sei
open Go Go.Sl
structure ActM where
  kind : Int
  n : Int
  e : Ety
  t : List Int
  s : List UInt8
  l : List (Int × Int)
abbrev actV (x : ActM) (tv lv : Value) : List Value := [i64 x.kind, i64 x.n, i64 x.e.block, i64 x.e.v.ep, i64 x.e.v.sq, str x.e.data, .bool x.e.dirty, i64 x.e.client, i64 x.e.n, tv, str x.s, lv]
def keepsV (l : List (Int × Int)) : List Value := l.flatMap fun p => [i64 p.1, i64 p.2]
structure ActOk (x : ActM) : Prop where
  kind : I64 x.kind
  n : I64 x.n
  block : I64 x.e.block
  v : verOk x.e.v
  client : I64 x.e.client
  en : I64 x.e.n
  t : ∀ n ∈ x.t, I64 n
  l : ∀ p ∈ x.l, I64 p.1 ∧ I64 p.2
structure ActsAt (S : HP) (v : Value) (acts : List (ActM × Value × Value)) : Prop where
  vw : Vw S v 12 acts.length (acts.flatMap fun a => actV a.1 a.2.1 a.2.2)
  ok : ∀ a ∈ acts, ActOk a.1
  t : ∀ a ∈ acts, Vw S a.2.1 1 a.1.t.length (numsV a.1.t)
  l : ∀ a ∈ acts, Vw S a.2.2 2 a.1.l.length (keepsV a.1.l)
theorem acts_drop (l : List (ActM × Value × Value)) (k : Nat) : (l.flatMap fun a => actV a.1 a.2.1 a.2.2).drop (k * 12) = (l.drop k).flatMap fun a => actV a.1 a.2.1 a.2.2 := by
  induction k generalizing l with
  | zero => simp
  | succ k ih => cases l with
    | nil => simp
    | cons p l => rw [show (k + 1) * 12 = k * 12 + 12 by omega]; simpa using ih l
theorem acts_len (l : List (ActM × Value × Value)) : (l.flatMap fun a => actV a.1 a.2.1 a.2.2).length = l.length * 12 := by
  induction l with
  | nil => rfl
  | cons e l ih => simp only [List.flatMap_cons, List.length_append, ih]; simp [Nat.add_mul]; omega
theorem acts_at {l : List (ActM × Value × Value)} {k : Nat} {a : ActM × Value × Value} (h : l[k]? = some a) : getN (l.flatMap fun a => actV a.1 a.2.1 a.2.2) (k * 12) 12 = some (actV a.1 a.2.1 a.2.2) := by
  obtain ⟨h1, h2⟩ := List.getElem?_eq_some_iff.1 h
  rw [getN_intro _ _ _ (by rw [acts_len]; omega), acts_drop, List.drop_eq_getElem_cons h1, h2]
  rfl
def lDo (D : DevM) (C : CacheM) (x : ActM) : DevM × CacheM × Int :=
  if x.kind = 0 then cPut D C x.e else if x.kind = 1 then cClean D C x.e.block x.e.v else if x.kind = 2 then cDrop D C x.e.block
  else if x.kind = 3 then cNote D C x.e.v x.t else if x.kind = 8 then cReset D C x.e.v x.t else if x.kind = 4 then cSync D C else (D, C, 0)
def largeB (x : ActM) : Bool := decide (1000 < (x.s.length : Int)) || (decide (600 < (x.l.length : Int)) || (decide (1000 < (x.e.data.length : Int)) || decide (100 < (x.t.length : Int))))
def toldOf (C : CacheM) : List Ety × Kept := (cAll C, C.kept)
theorem ver_eq {a b : Ver} : (decide (a.ep = b.ep) && (decide (a.sq = b.sq) && true)) = decide (a = b) := by
  cases a; cases b; rw [Bool.eq_iff_iff]; simp
theorem tab_eq {a b : Tab} : (decide (a.a = b.a) && (decide (a.b = b.b) && (decide (a.c = b.c) && (decide (a.d = b.d) && true)))) = decide (a = b) := by
  cases a; cases b; rw [Bool.eq_iff_iff]; simp
theorem ety_eq {a b : Ety} : (decide (a.block = b.block) && ((decide (a.v.ep = b.v.ep) && (decide (a.v.sq = b.v.sq) && true)) && (decide (a.data = b.data) && (decide (a.dirty = b.dirty) && (decide (a.client = b.client) && (decide (a.n = b.n) && true)))))) = decide (a = b) := by
  rw [ver_eq]; cases a; cases b; rw [Bool.eq_iff_iff]; simp
def openN (ring : Nat) : Nat := ring % 30 + 8
def open0 (ring : Nat) : DevM × CacheM × Int := cOpen (devNew (openN ring + 2)) 2 (openN ring) 0 1 32
theorem devNew_ok (n : Nat) (h : n ≤ 512) : DevOk (devNew n) := by
  refine ⟨fun s hs => ?_, by simp [devNew], by simpa [devNew] using h, by simp [devNew]⟩
  simp only [devNew, List.mem_replicate] at hs
  rw [hs.2]; simp [zeros]
end Sei
