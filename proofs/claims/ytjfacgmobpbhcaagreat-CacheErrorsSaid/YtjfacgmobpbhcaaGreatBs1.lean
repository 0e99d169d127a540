/- Part 1: what the proof of the law rests on: the walks of the functions that it calls, and the plain laws of what they compute. -/
import Derived.WalkKit
import Derived.Deep.Quiet
import Derived.StillTail
import Derived.Lib.ConvBytes
import Derived.Recover
import Derived.DeepKeys
import Derived.Scope
/- Own layer: assertions on parts of the heap, and one rule an operation kind over the kit's walk. No program in sight. -/
namespace Go.Sl

/-- A part of the heap. -/
abbrev Frag := Nat → Option Obj
def HP := Frag → Prop
structure Gh where
  os : Os
  out : Array (Nat × ByteArray)

def sep (A B : HP) : HP := fun h => ∃ h1 h2 : Frag, A h1 ∧ B h2 ∧ (∀ r, h1 r = none ∨ h2 r = none) ∧ ∀ r, h r = (h1 r).or (h2 r)
instance : Mul HP := ⟨sep⟩
def emp : HP := fun _ => True
def pu (p : Prop) : HP := fun _ => p
def ex {α : Type} (A : α → HP) : HP := fun h => ∃ x, A x h
def blk (r : Nat) (o : Obj) : HP := fun h => h r = some o
/-- The blocks that the world W has, as it has them. -/
def old (W : World) : HP := fun h => ∀ r, r < W.heap.size → h r = W.heap[r]?

theorem mul_def (A B : HP) : A * B = sep A B := rfl

def Sat (g : Gh) (w : World) (H : HP) : Prop := w.os = g.os ∧ w.output = g.out ∧ ∃ h : Frag, H h ∧ ∀ r o, h r = some o → w.heap[r]? = some o

/-- What holds of a part holds, of a part of it, likewise. -/
def Ent (A B : HP) : Prop := ∀ h, A h → ∃ h' : Frag, B h' ∧ ∀ r o, h' r = some o → h r = some o

theorem Ent.refl (A : HP) : Ent A A := fun h ha => ⟨h, ha, fun _ _ h => h⟩
theorem Ent.trans {A B C : HP} (h : Ent A B) (k : Ent B C) : Ent A C := fun f ha => by
  obtain ⟨f1, hb, s1⟩ := h f ha
  obtain ⟨f2, hc, s2⟩ := k f1 hb
  exact ⟨f2, hc, fun r o hr => s1 r o (s2 r o hr)⟩
theorem Ent.of_eq {A B : HP} (h : A = B) : Ent A B := h ▸ Ent.refl A
theorem Sat.ent {g : Gh} {w : World} {A B : HP} (h : Ent A B) (k : Sat g w A) : Sat g w B := by
  obtain ⟨h1, h2, f, ha, hs⟩ := k
  obtain ⟨f', hb, hs'⟩ := h f ha
  exact ⟨h1, h2, f', hb, fun r o hr => hs r o (hs' r o hr)⟩

theorem sep_comm (A B : HP) : A * B = B * A := by
  funext h
  apply propext
  constructor <;> rintro ⟨h1, h2, a, b, d, u⟩ <;> refine ⟨h2, h1, b, a, fun r => (d r).symm, fun r => ?_⟩ <;>
    (rw [u r]; rcases d r with e | e <;> simp [e])
theorem sep_assoc (A B C : HP) : A * B * C = A * (B * C) := by
  funext h
  apply propext
  constructor
  · rintro ⟨h1, h2, ⟨k1, k2, a, b, d, u⟩, c, d', u'⟩
    refine ⟨k1, fun r => (k2 r).or (h2 r), a, ⟨k2, h2, b, c, fun r => ?_, fun r => rfl⟩, fun r => ?_, fun r => ?_⟩
    · have h1 := u r; rcases d' r with e | e
      · rw [e] at h1; cases hk : k2 r with
        | none => exact .inl rfl
        | some x => rw [hk] at h1; cases hk1 : k1 r <;> simp [hk1] at h1
      · exact .inr e
    · have h1 := u r; rcases d' r with e | e
      · rw [e] at h1; cases hk : k1 r with
        | none => exact .inl rfl
        | some x => simp [hk] at h1
      · rcases d r with e1 | e1
        · exact .inl e1
        · simp [e, e1]
    · rw [u' r, u r, Option.or_assoc]
  · rintro ⟨h1, h2, a, ⟨k1, k2, b, c, d, u⟩, d', u'⟩
    refine ⟨fun r => (h1 r).or (k1 r), k2, ⟨h1, k1, a, b, fun r => ?_, fun r => rfl⟩, c, fun r => ?_, fun r => ?_⟩
    · have h1' := u r; rcases d' r with e | e
      · exact .inl e
      · rw [e] at h1'; cases hk : k1 r with
        | none => exact .inr rfl
        | some x => simp [hk] at h1'
    · have h1' := u r; rcases d' r with e | e
      · rcases d r with e1 | e1
        · simp [e, e1]
        · exact .inr e1
      · rw [e] at h1'; cases hk : k2 r with
        | none => exact .inr rfl
        | some x => rw [hk] at h1'; cases hk1 : k1 r <;> simp [hk1] at h1'
    · rw [u' r, u r, Option.or_assoc]
theorem sep_left_comm (A B C : HP) : A * (B * C) = B * (A * C) := by rw [← sep_assoc, sep_comm A B, sep_assoc]
instance : Std.Associative (α := HP) (· * ·) := ⟨sep_assoc⟩
instance : Std.Commutative (α := HP) (· * ·) := ⟨sep_comm⟩

theorem Ent.mul {A A' B B' : HP} (h : Ent A A') (k : Ent B B') : Ent (A * B) (A' * B') := by
  rintro f ⟨h1, h2, a, b, d, u⟩
  obtain ⟨f1, a', s1⟩ := h h1 a
  obtain ⟨f2, b', s2⟩ := k h2 b
  refine ⟨fun r => (f1 r).or (f2 r), ⟨f1, f2, a', b', fun r => ?_, fun r => rfl⟩, fun r o hr => ?_⟩
  · rcases d r with e | e
    · refine .inl ?_; cases hf : f1 r with
      | none => rfl
      | some x => rw [s1 r x hf] at e; cases e
    · refine .inr ?_; cases hf : f2 r with
      | none => rfl
      | some x => rw [s2 r x hf] at e; cases e
  · rw [u r]
    cases hf : f1 r with
    | some x => simp [hf] at hr; subst hr; simp [s1 r x hf]
    | none =>
      simp [hf] at hr
      have := s2 r o hr
      rcases d r with e | e
      · simp [e, this]
      · rw [e] at this; cases this
theorem Ent.frame {A B : HP} (F : HP) (h : Ent A B) : Ent (A * F) (B * F) := h.mul (Ent.refl F)
theorem Ent.framel {A B : HP} (F : HP) (h : Ent A B) : Ent (F * A) (F * B) := (Ent.refl F).mul h
theorem Ent.left (A B : HP) : Ent (A * B) A := by
  rintro f ⟨h1, h2, a, b, d, u⟩
  exact ⟨h1, a, fun r o hr => by rw [u r, hr]; rfl⟩
theorem Ent.right (A B : HP) : Ent (A * B) B := by rw [sep_comm]; exact Ent.left B A
theorem Ent.emp (A : HP) : Ent A (emp * A) := fun h a => ⟨h, ⟨fun _ => none, h, trivial, a, fun _ => .inl rfl, fun _ => by simp⟩, fun _ _ h => h⟩
theorem Ent.pure {A : HP} {p : Prop} (hp : p) : Ent A (pu p * A) := fun h a => ⟨h, ⟨fun _ => none, h, hp, a, fun _ => .inl rfl, fun _ => by simp⟩, fun _ _ h => h⟩
theorem Ent.pureR {A : HP} {p : Prop} (hp : p) : Ent A (A * pu p) := by rw [sep_comm]; exact Ent.pure hp
theorem Ent.ex {α : Type} {A : HP} {B : α → HP} (x : α) (h : Ent A (B x)) : Ent A (ex B) := fun f a => by
  obtain ⟨f', b, s⟩ := h f a
  exact ⟨f', ⟨x, b⟩, s⟩
theorem ex_mul {α : Type} (A : α → HP) (B : HP) : Sl.ex A * B = Sl.ex fun x => A x * B := by
  funext h
  apply propext
  constructor
  · rintro ⟨h1, h2, ⟨x, a⟩, b, d, u⟩; exact ⟨x, h1, h2, a, b, d, u⟩
  · rintro ⟨x, h1, h2, a, b, d, u⟩; exact ⟨h1, h2, ⟨x, a⟩, b, d, u⟩
theorem mul_ex {α : Type} (A : HP) (B : α → HP) : A * Sl.ex B = Sl.ex fun x => A * B x := by
  rw [sep_comm, ex_mul]; congr 1; funext x; rw [sep_comm]
theorem Ent.exE {α : Type} {A : α → HP} {B : HP} (h : ∀ x, Ent (A x) B) : Ent (Sl.ex A) B := fun f ⟨x, a⟩ => h x f a
theorem Ent.puE {p : Prop} {A B : HP} (h : p → Ent A B) : Ent (pu p * A) B := by
  rintro f ⟨h1, h2, hp, a, d, u⟩
  obtain ⟨f', b, s⟩ := h hp h2 a
  refine ⟨f', b, fun r o hr => ?_⟩
  have := s r o hr
  rw [u r]
  rcases d r with e | e
  · simp [e, this]
  · rw [e] at this; cases this

theorem Sat.pure {g : Gh} {w : World} {p : Prop} {A : HP} (h : Sat g w (pu p * A)) : p ∧ Sat g w A := by
  obtain ⟨a, b, f, hf, s⟩ := h
  obtain ⟨h1, h2, hp, ha, d, u⟩ := hf
  refine ⟨hp, a, b, h2, ha, fun r o hr => s r o ?_⟩
  rw [u r]
  rcases d r with e | e
  · simp [e, hr]
  · rw [e] at hr; cases hr
theorem Sat.exE {α : Type} {g : Gh} {w : World} {A : α → HP} (h : Sat g w (Sl.ex A)) : ∃ x, Sat g w (A x) := by
  obtain ⟨a, b, f, ⟨x, hx⟩, s⟩ := h
  exact ⟨x, a, b, f, hx, s⟩
theorem Sat.exI {α : Type} {g : Gh} {w : World} {A : α → HP} (x : α) (h : Sat g w (A x)) : Sat g w (Sl.ex A) := by
  obtain ⟨a, b, f, hx, s⟩ := h
  exact ⟨a, b, f, ⟨x, hx⟩, s⟩
theorem Sat.pureI {g : Gh} {w : World} {p : Prop} {A : HP} (hp : p) (h : Sat g w A) : Sat g w (pu p * A) := h.ent (Ent.pure hp)

/-! ### A block of an assertion: reading it, writing it -/
class At (r : Nat) (H : HP) (o : outParam Obj) (H' : outParam (Obj → HP)) : Prop where
  get : ∀ h, H h → h r = some o
  upd : ∀ h o', H h → H' o' (fun s => if s = r then some o' else h s)
class Rd (r : Nat) (H : HP) (o : outParam Obj) : Prop where
  get : ∀ h, H h → h r = some o
instance At.single (r : Nat) (o : Obj) : At r (blk r o) o (fun o' => blk r o') where
  get := fun _ h => h
  upd := fun _ o' _ => by simp [blk]
theorem At.there' {r : Nat} {A F : HP} {o : Obj} {F' : Obj → HP} (i : At r F o F') : At r (A * F) o (fun o' => A * F' o') where
  get := by
    rintro h ⟨h1, h2, a, b, d, u⟩
    have := i.get h2 b
    rw [u r]
    rcases d r with e | e
    · simp [e, this]
    · rw [e] at this; cases this
  upd := by
    rintro h o' ⟨h1, h2, a, b, d, u⟩
    have hg := i.get h2 b
    have hn : h1 r = none := by
      rcases d r with e | e
      · exact e
      · rw [e] at hg; cases hg
    refine ⟨h1, _, a, i.upd h2 o' b, fun s => ?_, fun s => ?_⟩
    · by_cases e : s = r
      · subst e; exact .inl hn
      · simp only [e, if_false]; exact d s
    · by_cases e : s = r
      · subst e; simp [hn]
      · simp only [e, if_false]; exact u s
instance (priority := 900) At.there {r : Nat} {A F : HP} {o : Obj} {F' : Obj → HP} [i : At r F o F'] : At r (A * F) o (fun o' => A * F' o') := At.there' i
instance (priority := 1100) At.here (r : Nat) (o : Obj) (F : HP) : At r (blk r o * F) o (fun o' => blk r o' * F) := by
  have h : At r (F * blk r o) o (fun o' => F * blk r o') := At.there' (At.single r o)
  rw [sep_comm]
  refine ⟨h.get, fun f o' hf => ?_⟩
  rw [sep_comm]
  exact h.upd f o' hf
instance Rd.of_at {r : Nat} {H : HP} {o : Obj} {H' : Obj → HP} [i : At r H o H'] : Rd r H o := ⟨i.get⟩

theorem Sat.get {g : Gh} {w : World} {H : HP} {r : Nat} {o : Obj} [i : Rd r H o] (h : Sat g w H) : w.heap[r]? = some o := by
  obtain ⟨_, _, f, hf, s⟩ := h
  exact s r o (i.get f hf)
theorem Sat.set {g : Gh} {w w' : World} {H : HP} {r : Nat} {o o' : Obj} {H' : Obj → HP} [i : At r H o H'] (h : Sat g w H)
    (h1 : w'.os = w.os) (h2 : w'.output = w.output) (h3 : w'.heap[r]? = some o') (h4 : ∀ s, s ≠ r → w'.heap[s]? = w.heap[s]?) : Sat g w' (H' o') := by
  obtain ⟨a, b, f, hf, s⟩ := h
  refine ⟨h1.trans a, h2.trans b, _, i.upd f o' hf, fun q x hq => ?_⟩
  by_cases e : q = r
  · subst e; simp only [if_true] at hq; rw [h3, hq]
  · simp only [e, if_false] at hq; rw [h4 q e]; exact s q x hq
theorem Sat.new {g : Gh} {w : World} {H : HP} (h : Sat g w H) (o : Obj) : Sat g (w.alloc o) (blk w.heap.size o * H) := by
  obtain ⟨a, b, f, hf, s⟩ := h
  have lt : ∀ r x, f r = some x → r < w.heap.size := fun r x hr => by
    have := s r x hr
    exact (Array.getElem?_eq_some_iff.1 this).1
  refine ⟨a, b, fun r => if r = w.heap.size then some o else f r, ⟨fun r => if r = w.heap.size then some o else none, f, by simp [blk], hf, fun r => ?_, fun r => ?_⟩, fun r x hr => ?_⟩
  · by_cases e : r = w.heap.size
    · refine .inr ?_; cases hx : f r with
      | none => rfl
      | some x => have := lt r x hx; omega
    · simp [e]
  · by_cases e : r = w.heap.size <;> simp [e]
  · show (w.heap.push o)[r]? = some x
    rw [Array.getElem?_push]
    by_cases e : r = w.heap.size
    · simp only [e, if_true] at hr; simp [e, hr]
    · simp only [e, if_false] at hr; rw [if_neg e]; exact s r x hr
theorem Sat.drew {g : Gh} {w : World} {H : HP} (h : Sat g w H) : Sat g { w with drawn := w.drawn + 1 } H := h
theorem Sat.same {g : Gh} {w w' : World} {H : HP} (h : Sat g w H) (h1 : w'.os = w.os) (h2 : w'.output = w.output) (h3 : w'.heap = w.heap) : Sat g w' H := by
  obtain ⟨a, b, f, hf, s⟩ := h
  exact ⟨h1.trans a, h2.trans b, f, hf, fun r o hr => by rw [h3]; exact s r o hr⟩

/-- A row of cells reads so. -/
theorem cell_of_heap {w : World} {r k : Nat} {c : Array Value} {t : TypeId} {z : Nat × Nat} (h : w.heap[r]? = some (.cells c t z)) : w.cell? ⟨r, k, none⟩ = c[k]? := by
  simp [World.cell?, h]
theorem frozen_of_heap {w : World} {r k : Nat} {c : Array Value} {t : TypeId} {z : Nat × Nat} (h : w.heap[r]? = some (.cells c t z)) : w.frozen? ⟨r, k, none⟩ = (decide (z.1 ≤ k) && decide (k < z.2)) := by
  simp [World.frozen?, h]
theorem heap_setCell_same {w : World} {r k : Nat} {c : Array Value} {t : TypeId} {z : Nat × Nat} {v : Value} (h : w.heap[r]? = some (.cells c t z)) : (w.setCell ⟨r, k, none⟩ v).heap[r]? = some (.cells (c.setIfInBounds k v) t z) := by
  simp [World.setCell, h, Array.getElem?_modify]
theorem heap_setCell_other {w : World} {r k s : Nat} {v : Value} (h : s ≠ r) : (w.setCell ⟨r, k, none⟩ v).heap[s]? = w.heap[s]? := by
  simp only [World.setCell, Array.getElem?_modify]
  rw [if_neg (by omega)]
theorem Sat.setCell {g : Gh} {w : World} {H : HP} {r k : Nat} {c : Array Value} {t : TypeId} {z : Nat × Nat} {H' : Obj → HP} [i : At r H (.cells c t z) H'] (h : Sat g w H) (v : Value) :
    Sat g (w.setCell ⟨r, k, none⟩ v) (H' (.cells (c.setIfInBounds k v) t z)) :=
  h.set rfl rfl (heap_setCell_same (h.get (r := r))) (fun _ hs => heap_setCell_other hs)

/-! ### The frame of temporaries -/
abbrev Env := List (Nat × Value)
def look : Env → Nat → Option Value
  | [], _ => none
  | (t, v) :: e, s => match Nat.beq t s with
    | true => some v
    | false => look e s
def ev (e : Env) : Operand → Option Value
  | .tmp t => look e t
  | .const v => some v
  | .global g => some (.pointer (some ⟨g, 0, none⟩))
  | .func f => some (.func (.func f) #[] #[])
def evs (e : Env) : List Operand → Option (List Value)
  | [] => some []
  | x :: xs => match ev e x, evs e xs with
    | some v, some vs => some (v :: vs)
    | _, _ => none
/-- The operand's value is what the frame knows. -/
def Agrees (ρ : Operand → Value) (e : Env) : Prop := ∀ x v, ev e x = some v → ρ x = v
theorem Agrees.list {ρ : Operand → Value} {e : Env} (h : Agrees ρ e) : ∀ (xs : List Operand) (vs : List Value), evs e xs = some vs → xs.map ρ = vs
  | [], vs, hv => by simp [evs] at hv; simp [hv]
  | x :: xs, vs, hv => by
    unfold evs at hv
    split at hv
    · rename_i v ws h1 h2
      injection hv with hv
      subst hv
      simp [h x v h1, h.list xs ws h2]
    · cases hv
structure Fits (a : Act) (n : Nat) (ds : List Deferred) (e : Env) : Prop where
  size : a.tmps.size = n
  defers : a.defers = ds
  look : ∀ t v, look e t = some v → a.tmps.getD t undef = v
theorem Fits.agrees {a : Act} {n : Nat} {ds : List Deferred} {e : Env} (h : Fits a n ds e) : Agrees a.eval e := by
  intro x v hx
  cases x with
  | tmp t => exact h.look t v hx
  | const u => simp [ev] at hx; exact hx
  | global g => simp [ev] at hx; simp [Act.eval, hx]
  | func f => simp [ev] at hx; simp [Act.eval, hx]
theorem Fits.put {a : Act} {n : Nat} {ds : List Deferred} {e : Env} (h : Fits a n ds e) {d : Nat} (hd : Nat.blt d n = true) (v : Value) : Fits (a.put (some d) v) n ds ((d, v) :: e) := by
  have hlt : d < a.tmps.size := by rw [h.size]; exact Nat.le_of_ble_eq_true hd
  refine ⟨by simp [Act.put, h.size], h.defers, fun t u hu => ?_⟩
  simp only [Sl.look] at hu
  by_cases e : d = t
  · subst e
    simp at hu
    simp [Act.put, hlt, hu]
  · have hb : Nat.beq d t = false := by
      cases hq : Nat.beq d t with
      | false => rfl
      | true => exact absurd (Nat.eq_of_beq_eq_true hq) e
    rw [hb] at hu
    have := h.look t u hu
    simp only [Act.put]
    rw [Array.getD_eq_getD_getElem?, Array.getElem?_setIfInBounds_ne e, ← Array.getD_eq_getD_getElem?]
    exact this
theorem Fits.sub {a : Act} {n : Nat} {ds : List Deferred} {e e' : Env} (h : Fits a n ds e) (hs : ∀ t v, Sl.look e' t = some v → Sl.look e t = some v) : Fits a n ds e' :=
  ⟨h.size, h.defers, fun t v ht => h.look t v (hs t v ht)⟩
/-- Every entry of the second frame is one of the first. -/
def sub : Env → Env → Prop
  | _, [] => True
  | e, (t, v) :: e' => look e t = some v ∧ sub e e'
theorem sub_spec {e : Env} : ∀ {e' : Env}, sub e e' → ∀ t v, look e' t = some v → look e t = some v
  | [], _, t, v, h => by cases h
  | (s, u) :: e', ⟨h1, h2⟩, t, v, h => by
    simp only [look] at h
    split at h
    · rename_i hb
      have hb' : s = t := Nat.eq_of_beq_eq_true hb
      injection h with h
      subst hb' h
      exact h1
    · exact sub_spec h2 t v h

end Go.Sl
/- Own layer, 2: the judgements on code, regions, operations, functions; the rules of control flow. -/
namespace Go.Sl

structure Cx where
  P : Program
  g : Gh
  n : Nat
  ds : List Deferred

abbrev Post := Exit → Act → World → Prop

structure Wc (C : Cx) (H : HP) (e : Env) (c : Code) (Q : Post) : Prop where
  run : ∀ a w, Fits a C.n C.ds e → Sat C.g w H → c.wp C.P Q a w
structure Wl (C : Cx) (H : HP) (e : Env) (ops : Array Oper) (l : List Oper) (Q : Post) : Prop where
  run : ∀ a w, Fits a C.n C.ds e → Sat C.g w H → wpList C.P ops Q l a w
structure Wx (C : Cx) (H : HP) (e : Env) (x : Exit) (Q : Post) : Prop where
  run : ∀ a w, Fits a C.n C.ds e → Sat C.g w H → Q x a w

variable {C : Cx} {H H' A B F : HP} {e e' : Env} {Q : Post} {ops : Array Oper} {rest : List Oper} {c : Code} {x : Exit}

/-! ### weakening -/
theorem Wc.ent (h : Ent H H') (k : Wc C H' e c Q) : Wc C H e c Q := ⟨fun a w f s => k.run a w f (s.ent h)⟩
theorem Wl.ent (h : Ent H H') (k : Wl C H' e ops rest Q) : Wl C H e ops rest Q := ⟨fun a w f s => k.run a w f (s.ent h)⟩
theorem Wx.ent (h : Ent H H') (k : Wx C H' e x Q) : Wx C H e x Q := ⟨fun a w f s => k.run a w f (s.ent h)⟩
theorem Wc.keep (e' : Env) (h : sub e e') (k : Wc C H e' c Q) : Wc C H e c Q := ⟨fun a w f s => k.run a w (f.sub (sub_spec h)) s⟩
theorem Wl.keep (e' : Env) (h : sub e e') (k : Wl C H e' ops rest Q) : Wl C H e ops rest Q := ⟨fun a w f s => k.run a w (f.sub (sub_spec h)) s⟩
theorem Wx.keep (e' : Env) (h : sub e e') (k : Wx C H e' x Q) : Wx C H e x Q := ⟨fun a w f s => k.run a w (f.sub (sub_spec h)) s⟩
theorem Wc.pu {p : Prop} (k : p → Wc C H e c Q) : Wc C (pu p * H) e c Q := ⟨fun a w f s => (k s.pure.1).run a w f s.pure.2⟩
theorem Wl.pu {p : Prop} (k : p → Wl C H e ops rest Q) : Wl C (pu p * H) e ops rest Q := ⟨fun a w f s => (k s.pure.1).run a w f s.pure.2⟩
theorem Wx.pu {p : Prop} (k : p → Wx C H e x Q) : Wx C (pu p * H) e x Q := ⟨fun a w f s => (k s.pure.1).run a w f s.pure.2⟩
theorem Wc.ex {α : Type} {A : α → HP} (k : ∀ x, Wc C (A x) e c Q) : Wc C (ex A) e c Q := ⟨fun a w f s => let ⟨x, s⟩ := s.exE; (k x).run a w f s⟩
theorem Wl.ex {α : Type} {A : α → HP} (k : ∀ x, Wl C (A x) e ops rest Q) : Wl C (ex A) e ops rest Q := ⟨fun a w f s => let ⟨x, s⟩ := s.exE; (k x).run a w f s⟩
theorem Wx.ex {α : Type} {A : α → HP} {y : Exit} (k : ∀ x, Wx C (A x) e y Q) : Wx C (ex A) e y Q := ⟨fun a w f s => let ⟨x, s⟩ := s.exE; (k x).run a w f s⟩
theorem Wc.exm {α : Type} {A : α → HP} (k : ∀ x, Wc C (A x * B) e c Q) : Wc C (Sl.ex A * B) e c Q := by rw [ex_mul]; exact Wc.ex k
theorem Wl.exm {α : Type} {A : α → HP} (k : ∀ x, Wl C (A x * B) e ops rest Q) : Wl C (Sl.ex A * B) e ops rest Q := by rw [ex_mul]; exact Wl.ex k
theorem Wx.exm {α : Type} {A : α → HP} {y : Exit} (k : ∀ x, Wx C (A x * B) e y Q) : Wx C (Sl.ex A * B) e y Q := by rw [ex_mul]; exact Wx.ex k
theorem Wc.assoc (k : Wc C (A * (B * F)) e c Q) : Wc C (A * B * F) e c Q := by rw [sep_assoc]; exact k
theorem Wl.assoc (k : Wl C (A * (B * F)) e ops rest Q) : Wl C (A * B * F) e ops rest Q := by rw [sep_assoc]; exact k
theorem Wx.assoc (k : Wx C (A * (B * F)) e x Q) : Wx C (A * B * F) e x Q := by rw [sep_assoc]; exact k
theorem Wc.eq (h : H = H') (k : Wc C H' e c Q) : Wc C H e c Q := h ▸ k
theorem Wl.eq (h : H = H') (k : Wl C H' e ops rest Q) : Wl C H e ops rest Q := h ▸ k
theorem Wx.eq (h : H = H') (k : Wx C H' e x Q) : Wx C H e x Q := h ▸ k

/-! ### control flow -/
theorem Wc.seq {x y : Code} (h : Wc C H e x (Exit.then (y.wp C.P Q) Q)) : Wc C H e (.seq x y) Q := ⟨fun a w f s => wp_seq (h.run a w f s)⟩
theorem Wc.skip (h : Wx C H e .normal Q) : Wc C H e .skip Q := ⟨fun a w f s => wp_skip (h.run a w f s)⟩
theorem Wc.label {l : Nat} (h : Wx C H e .normal Q) : Wc C H e (.label l) Q := ⟨fun a w f s => wp_label (h.run a w f s)⟩
theorem Wc.ret (h : Wx C H e .ret Q) : Wc C H e .ret Q := ⟨fun a w f s => wp_ret (h.run a w f s)⟩
theorem Wc.exit {id : Nat} (h : Wx C H e (.exit id) Q) : Wc C H e (.exit id) Q := ⟨fun a w f s => wp_exit (h.run a w f s)⟩
theorem Wc.block {id : Nat} {x : Code} (h : Wc C H e x (Exit.inBlock id Q)) : Wc C H e (.block id x) Q := ⟨fun a w f s => wp_block (h.run a w f s)⟩
theorem Wc.region {id : Nat} {l : List Oper} (h : Wl C H e l.toArray l Q) : Wc C H e (.region id l.toArray false) Q := ⟨fun a w f s => wp_region_lit (h.run a w f s)⟩
theorem Wc.cond {c : Operand} {x y : Code} {b : Bool} (hc : ev e c = some (.bool b)) (ht : b = true → Wc C H e x Q) (hf : b = false → Wc C H e y Q) : Wc C H e (.cond c x y) Q :=
  ⟨fun a w f s => wp_cond_split (f.agrees c _ hc) (fun h => (ht h).run a w f s) (fun h => (hf h).run a w f s)⟩
theorem Wc.condT {c : Operand} {x y : Code} (hc : ev e c = some (.bool true)) (ht : Wc C H e x Q) : Wc C H e (.cond c x y) Q :=
  ⟨fun a w f s => wp_cond_true (f.agrees c _ hc) (ht.run a w f s)⟩
theorem Wc.condF {c : Operand} {x y : Code} (hc : ev e c = some (.bool false)) (ht : Wc C H e y Q) : Wc C H e (.cond c x y) Q :=
  ⟨fun a w f s => wp_cond_false (f.agrees c _ hc) (ht.run a w f s)⟩
theorem Wl.nil (h : Wx C H e .normal Q) : Wl C H e ops [] Q := ⟨fun a w f s => h.run a w f s⟩
theorem Wx.then_n {y : Code} (h : Wc C H e y Q) : Wx C H e .normal (Exit.then (y.wp C.P Q) Q) := ⟨fun a w f s => h.run a w f s⟩
theorem Wx.then_r {N : Act → World → Prop} (h : Wx C H e .ret Q) : Wx C H e .ret (Exit.then N Q) := ⟨fun a w f s => h.run a w f s⟩
theorem Wx.then_x {id : Nat} {N : Act → World → Prop} (h : Wx C H e (.exit id) Q) : Wx C H e (.exit id) (Exit.then N Q) := ⟨fun a w f s => h.run a w f s⟩
theorem Wx.then_p {ch : List PanicEntry} {N : Act → World → Prop} (h : Wx C H e (.panic ch) Q) : Wx C H e (.panic ch) (Exit.then N Q) := ⟨fun a w f s => h.run a w f s⟩
theorem Wx.blk_n {id : Nat} (h : Wx C H e .normal Q) : Wx C H e .normal (Exit.inBlock id Q) := ⟨fun a w f s => h.run a w f s⟩
theorem Wx.blk_r {id : Nat} (h : Wx C H e .ret Q) : Wx C H e .ret (Exit.inBlock id Q) := ⟨fun a w f s => h.run a w f s⟩
theorem Wx.blk_p {id : Nat} {ch : List PanicEntry} (h : Wx C H e (.panic ch) Q) : Wx C H e (.panic ch) (Exit.inBlock id Q) := ⟨fun a w f s => h.run a w f s⟩
theorem Wx.blk_x {id : Nat} (h : Wx C H e .normal Q) : Wx C H e (.exit id) (Exit.inBlock id Q) := ⟨fun a w f s => by simpa [Exit.inBlock] using h.run a w f s⟩
theorem Wx.blk_o {id id' : Nat} (hn : Nat.beq id' id = false) (h : Wx C H e (.exit id') Q) : Wx C H e (.exit id') (Exit.inBlock id Q) :=
  ⟨fun a w f s => by
    have : id' ≠ id := fun he => by subst he; simp at hn
    simpa [Exit.inBlock, this] using h.run a w f s⟩

/-! ### loops: a ghost that every round lowers -/
def Again (C : Cx) {α : Type} (m : α → Nat) (I : α → HP) (E : α → Env) (x : α) : Act → World → Prop :=
  fun a w => ∃ y, m y < m x ∧ Fits a C.n C.ds (E y) ∧ Sat C.g w (I y)
theorem least {p : Nat → Prop} : ∀ n, p n → ∃ m, p m ∧ ∀ k, p k → m ≤ k := by
  intro n
  induction n using Nat.strongRecOn with
  | _ n ih =>
    intro hn
    by_cases h : ∃ k, k < n ∧ p k
    · obtain ⟨k, hk, hp⟩ := h; exact ih k hk hp
    · exact ⟨n, hn, fun k hk => by
        rcases Nat.lt_or_ge k n with h' | h'
        · exact absurd ⟨k, h', hk⟩ h
        · exact h'⟩
theorem wp_loop_ghost {P : Program} {α : Type} {c : Code} {Q : Post} (m : α → Nat) (J : α → Act → World → Prop)
    (round : ∀ x a w, J x a w → c.wp P (Exit.then (fun a' w' => ∃ y, m y < m x ∧ J y a' w') Q) a w) (x : α) (a : Act) (w : World) (h : J x a w) : (Code.loop c).wp P Q a w := by
  classical
  have hex : ∀ a w, (∃ x, J x a w) → ∃ j, (∃ x, m x = j ∧ J x a w) ∧ ∀ k, (∃ x, m x = k ∧ J x a w) → j ≤ k :=
    fun a w ⟨x, h⟩ => least (p := fun j => ∃ x, m x = j ∧ J x a w) (m x) ⟨x, rfl, h⟩
  let μ : Act → World → Nat := fun a w => if h : ∃ x, J x a w then Classical.choose (hex a w h) else 0
  have hμ : ∀ a w (h : ∃ x, J x a w), (∃ x, m x = μ a w ∧ J x a w) ∧ ∀ k, (∃ x, m x = k ∧ J x a w) → μ a w ≤ k := fun a w h => by
    have := Classical.choose_spec (hex a w h)
    have e : μ a w = Classical.choose (hex a w h) := dif_pos h
    rw [e]; exact this
  refine wp_loop (fun a w => ∃ x, J x a w) μ ⟨x, h⟩ (fun a w h => ?_)
  obtain ⟨⟨z, hz, hj⟩, _⟩ := hμ a w h
  refine wp_mono (round z a w hj) (fun ex a' w' q => ?_)
  cases ex with
  | normal =>
    obtain ⟨y, hlt, hy⟩ := q
    have := (hμ a' w' ⟨y, hy⟩).2 (m y) ⟨y, rfl, hy⟩
    exact ⟨⟨y, hy⟩, by omega⟩
  | exit id => exact q
  | goto l => exact q
  | ret => exact q
  | panic ch => exact q
  | outgrown => exact q
theorem Wc.loop {α : Type} {c : Code} (m : α → Nat) (I : α → HP) (E : α → Env) (x : α) (h : Ent H (I x)) (he : sub e (E x))
    (round : ∀ x, Wc C (I x) (E x) c (Exit.then (Again C m I E x) Q)) : Wc C H e (.loop c) Q :=
  ⟨fun a w f s => wp_loop_ghost m (fun x a w => Fits a C.n C.ds (E x) ∧ Sat C.g w (I x)) (fun x a w ⟨f, s⟩ => (round x).run a w f s) x a w ⟨f.sub (sub_spec he), s.ent h⟩⟩
theorem Wx.again {α : Type} {m : α → Nat} {I : α → HP} {E : α → Env} {x : α} (y : α) (hm : m y < m x) (h : Ent H (I y)) (he : sub e (E y)) :
    Wx C H e .normal (Exit.then (Again C m I E x) Q) := ⟨fun a w f s => ⟨y, hm, f.sub (sub_spec he), s.ent h⟩⟩

/-! ### functions -/
structure Ctr (P : Program) (f : FuncId) (args : List Value) (A : HP) (Φ : Value → HP) : Prop where
  enters : ∀ vs w, (callFunc f vs).run P w = .ok (.enter f vs) w
  calls : ∀ F g w, Sat g w (A * F) → Calls P f args.toArray w (fun e w' => ∃ v, e = .returned v ∧ Sat g w' (Φ v * F))
def Back (g : Gh) (Φ : Value → HP) (F : HP) : Ending → World → Prop := fun e w' => ∃ v, e = .returned v ∧ Sat g w' (Φ v * F)
def argEnv : Nat → List Value → Env
  | _, [] => []
  | k, v :: vs => (k, v) :: argEnv (k + 1) vs
def argEnvO : Nat → List Value → Option Env
  | _, [] => some []
  | k, v :: vs => match argEnvO (k + 1) vs with
    | some e => some ((k, v) :: e)
    | none => none
theorem argEnvO_eq : ∀ (k : Nat) (vs : List Value), argEnvO k vs = some (argEnv k vs)
  | _, [] => rfl
  | k, v :: vs => by simp [argEnvO, argEnvO_eq (k + 1) vs, argEnv]
theorem look_argEnv : ∀ (k : Nat) (vs : List Value) (t : Nat) (v : Value), look (argEnv k vs) t = some v → k ≤ t ∧ vs[t - k]? = some v
  | _, [], _, _, h => by cases h
  | k, u :: vs, t, v, h => by
    simp only [argEnv, look] at h
    split at h
    · rename_i hb
      have hb' : k = t := Nat.eq_of_beq_eq_true hb
      subst hb'
      simpa using h
    · rename_i hb
      have hne : k ≠ t := fun e => by subst e; simp at hb
      obtain ⟨h1, h2⟩ := look_argEnv (k + 1) vs t v h
      refine ⟨by omega, ?_⟩
      rw [show t - k = (t - (k + 1)) + 1 by omega]
      simpa using h2
theorem Ctr.of_body {P : Program} {f : FuncId} {fn : Func} {c : Code} {args : List Value} {Φ : Value → HP} {m : Nat} (hf : P.funcs[f]? = some fn) (hb : fn.body = some c) (hnt : fn.ntmps = m)
    (hn : (fn.name == "runtime.NumGoroutine") = false) (hle : Nat.ble args.length m = true) (he' : argEnvO 0 args = some e)
    (k : ∀ F g, Wc ⟨P, g, m, []⟩ (A * F) e c (bodyPost P fn (Back g Φ F))) : Ctr P f args A Φ where
  enters := fun vs w => by
    unfold callFunc
    simp only [beq_eq_false_iff_ne, ne_eq] at hn
    simp [hf, hn, hb]
  calls := fun F g w s => by
    have he : argEnv 0 args = e := by rw [argEnvO_eq] at he'; injection he'
    refine calls_of_wp hf hb ((k F g).run _ w ⟨?_, rfl, fun t v ht => ?_⟩ s)
    · have := Nat.le_of_ble_eq_true hle
      simp [hnt]; omega
    · rw [← he] at ht
      obtain ⟨_, h2⟩ := look_argEnv 0 args t v ht
      have hlt : t < args.length := by
        rcases Nat.lt_or_ge t args.length with h | h
        · exact h
        · simp [List.getElem?_eq_none h] at h2
      simp only [Nat.sub_zero] at h2
      show (args.toArray ++ _).getD t undef = v
      rw [Array.getD_eq_getD_getElem?, Array.getElem?_append_left (by simpa using hlt)]
      simp [h2]
theorem Wx.ret0 {fn : Func} {Φ : Value → HP} (hd : C.ds = []) (hr : fn.results = #[]) (hp : Ent H (Φ (.tuple #[]) * F)) : Wx C H e .ret (bodyPost C.P fn (Back C.g Φ F)) :=
  ⟨fun a w f s => ⟨f.defers.trans hd, _, results_none hr _ _ _, _, rfl, s.ent hp⟩⟩
theorem Wx.end0 {fn : Func} {Φ : Value → HP} (hd : C.ds = []) (hr : fn.results = #[]) (hp : Ent H (Φ (.tuple #[]) * F)) : Wx C H e .normal (bodyPost C.P fn (Back C.g Φ F)) :=
  ⟨fun a w f s => ⟨f.defers.trans hd, _, results_none hr _ _ _, _, rfl, s.ent hp⟩⟩
theorem Wx.ret1 {fn : Func} {Φ : Value → HP} {t : Nat} {v : Value} (hd : C.ds = []) (hr : fn.results = #[.tmp t]) (hv : look e t = some v) (hp : Ent H (Φ v * F)) : Wx C H e .ret (bodyPost C.P fn (Back C.g Φ F)) :=
  ⟨fun a w f s => ⟨f.defers.trans hd, _, results_tmp hr _ _ _, _, rfl, by rw [f.look t v hv]; exact s.ent hp⟩⟩
theorem Wx.ret2 {fn : Func} {Φ : Value → HP} {t u : Nat} {v v' : Value} (hd : C.ds = []) (hr : fn.results = #[.tmp t, .tmp u]) (hv : look e t = some v) (hv' : look e u = some v')
    (hp : Ent H (Φ (.tuple #[v, v']) * F)) : Wx C H e .ret (bodyPost C.P fn (Back C.g Φ F)) :=
  ⟨fun a w f s => ⟨f.defers.trans hd, _, results_tmp2 hr _ _ _, _, rfl, by rw [f.look t v hv, f.look u v' hv']; exact s.ent hp⟩⟩
theorem Wx.ret3 {fn : Func} {Φ : Value → HP} {t u s : Nat} {v v' v'' : Value} (hd : C.ds = []) (hr : fn.results = #[.tmp t, .tmp u, .tmp s]) (hv : look e t = some v) (hv' : look e u = some v') (hv'' : look e s = some v'')
    (hp : Ent H (Φ (.tuple #[v, v', v'']) * F)) : Wx C H e .ret (bodyPost C.P fn (Back C.g Φ F)) :=
  ⟨fun a w f sa => ⟨f.defers.trans hd, .tuple #[v, v', v''], by simp [results, hr, ← f.look t v hv, ← f.look u v' hv', ← f.look s v'' hv''], _, rfl, sa.ent hp⟩⟩

end Go.Sl
/- Own layer, 3: one rule an operation kind. -/
namespace Go.Sl

/-- An operation that hands back a value and leaves the world alone. -/
structure ValOp (P : Program) (H : HP) (e : Env) (o : Oper) (v : Value) : Prop where
  run : ∀ ρ, Agrees ρ e → ∀ g w, Sat g w H → (execOp ρ o).run P w = .ok (.value v) w
/-- An operation that hands back nothing and turns the assertion. -/
structure StOp (P : Program) (H : HP) (e : Env) (o : Oper) (H' : HP) : Prop where
  run : ∀ ρ, Agrees ρ e → ∀ g w, Sat g w H → ∃ w', (execOp ρ o).run P w = .ok .skip w' ∧ Sat g w' H'
/-- An operation that hands back a value and turns the assertion, which may name it. -/
structure ExOp (P : Program) (H : HP) (e : Env) (o : Oper) (Φ : Value → HP) : Prop where
  run : ∀ ρ, Agrees ρ e → ∀ g w, Sat g w H → ∃ v w', (execOp ρ o).run P w = .ok (.value v) w' ∧ Sat g w' (Φ v)
/-- An operation that makes a block. -/
structure AlOp {ι : Type} (P : Program) (H : HP) (e : Env) (o : Oper) (v : ι → Value) (Φ : ι → HP) : Prop where
  run : ∀ ρ, Agrees ρ e → ∀ g w, Sat g w H → ∃ r w', (execOp ρ o).run P w = .ok (.value (v r)) w' ∧ Sat g w' (Φ r)

variable {C : Cx} {H H' A B F : HP} {e e' : Env} {Q : Post} {ops : Array Oper} {rest : List Oper} {c : Code}
variable {d : Tmp} {op : Op} {ty : TypeId} {pos : String} {af : Array Edge} {v u : Value} {P : Program} {dst : Option Tmp} {gd : Option (Nat × Bool)}

theorem wpList_run {o : Oper} {a : Act} {w w' : World} {v : Value} (hg : o.guard = none) (hr : (execOp a.eval o).run P w = .ok (.value v) w') (k : wpList P ops Q rest (a.put o.dst v) w') : wpList P ops Q (o :: rest) a w :=
  wpList_plain hg fun K hK => by
    unfold Oper.wp
    rw [hr]
    exact hK _ _ k
theorem wpList_run_skip {o : Oper} {a : Act} {w w' : World} (hg : o.guard = none) (hr : (execOp a.eval o).run P w = .ok .skip w') (k : wpList P ops Q rest (a.put o.dst undef) w') : wpList P ops Q (o :: rest) a w :=
  wpList_plain hg fun K hK => by
    unfold Oper.wp
    rw [hr]
    exact hK _ _ k

theorem Wl.val (hn : Nat.blt d C.n = true) (h : ValOp C.P H e ⟨some d, op, ty, pos, af, none⟩ v) (k : Wl C H ((d, v) :: e) ops rest Q) : Wl C H e ops (⟨some d, op, ty, pos, af, none⟩ :: rest) Q :=
  ⟨fun a w f s => wpList_run rfl (h.run _ f.agrees _ _ s) (k.run _ _ (f.put hn v) s)⟩
theorem Wl.st (h : StOp C.P H e ⟨none, op, ty, pos, af, none⟩ H') (k : Wl C H' e ops rest Q) : Wl C H e ops (⟨none, op, ty, pos, af, none⟩ :: rest) Q :=
  ⟨fun a w f s => let ⟨_, hr, s'⟩ := h.run _ f.agrees _ _ s; wpList_run_skip rfl hr (k.run _ _ f s')⟩
theorem Wl.exo {Φ : Value → HP} (hn : Nat.blt d C.n = true) (h : ExOp C.P H e ⟨some d, op, ty, pos, af, none⟩ Φ) (k : ∀ v, Wl C (Φ v) ((d, v) :: e) ops rest Q) : Wl C H e ops (⟨some d, op, ty, pos, af, none⟩ :: rest) Q :=
  ⟨fun a w f s => let ⟨v, _, hr, s'⟩ := h.run _ f.agrees _ _ s; wpList_run rfl hr ((k v).run _ _ (f.put hn v) s')⟩
theorem Wl.exo0 {Φ : Value → HP} (h : ExOp C.P H e ⟨none, op, ty, pos, af, none⟩ Φ) (k : ∀ v, Wl C (Φ v) e ops rest Q) : Wl C H e ops (⟨none, op, ty, pos, af, none⟩ :: rest) Q :=
  ⟨fun a w f s => let ⟨v, _, hr, s'⟩ := h.run _ f.agrees _ _ s; wpList_run rfl hr ((k v).run _ _ f s')⟩
theorem Wl.al {ι : Type} {vr : ι → Value} {Φ : ι → HP} (hn : Nat.blt d C.n = true) (h : AlOp C.P H e ⟨some d, op, ty, pos, af, none⟩ vr Φ) (k : ∀ r, Wl C (Φ r) ((d, vr r) :: e) ops rest Q) : Wl C H e ops (⟨some d, op, ty, pos, af, none⟩ :: rest) Q :=
  ⟨fun a w f s => let ⟨r, _, hr, s'⟩ := h.run _ f.agrees _ _ s; wpList_run rfl hr ((k r).run _ _ (f.put hn _) s')⟩

/-! ### guards -/
theorem wpList_guard {a : Act} {w : World} {b : Bool} {j t : Nat} (hj : ((ops[j]?).bind (·.dst)) = some t) (ht : a.tmps[t]? = some (.bool b))
    (k : wpList P ops Q (⟨dst, op, ty, pos, af, none⟩ :: rest) a w) : wpList P ops Q (⟨dst, op, ty, pos, af, some (j, b)⟩ :: rest) a w := by
  unfold wpList at k ⊢
  rw [if_pos (by simp [Region.wanted])] at k
  rw [if_pos (by simp [Region.wanted, yielded, hj, ht])]
  exact k
theorem Fits.get {a : Act} {n : Nat} {ds : List Deferred} (h : Fits a n ds e) {t : Nat} {v : Value} (hv : Sl.look e t = some v) (hne : v ≠ undef) : a.tmps[t]? = some v := by
  have h1 := h.look t v hv
  rcases Nat.lt_or_ge t a.tmps.size with h2 | h2
  · simp [h2] at h1 ⊢; exact h1
  · simp [Array.getElem?_eq_none h2] at h1; exact absurd h1.symm hne
theorem Wl.gT {b : Bool} {j t : Nat} (hj : ((ops[j]?).bind (·.dst)) = some t) (ht : look e t = some (.bool b)) (k : Wl C H e ops (⟨dst, op, ty, pos, af, none⟩ :: rest) Q) :
    Wl C H e ops (⟨dst, op, ty, pos, af, some (j, b)⟩ :: rest) Q :=
  ⟨fun a w f s => wpList_guard hj (f.get ht (by simp [undef])) (k.run a w f s)⟩
theorem Wl.gF {b : Bool} {j t : Nat} (hn : Nat.blt d C.n = true) (hj : ((ops[j]?).bind (·.dst)) = some t) (ht : look e t = some (.bool (!b))) (k : Wl C H ((d, undef) :: e) ops rest Q) :
    Wl C H e ops (⟨some d, op, ty, pos, af, some (j, b)⟩ :: rest) Q :=
  ⟨fun a w f s => wpList_skip (by simp [Region.wanted, yielded, hj, f.get (v := .bool (!b)) ht (by simp [undef])]) (k.run _ w (f.put hn _) s)⟩
theorem Wl.gF0 {b : Bool} {j t : Nat} (hj : ((ops[j]?).bind (·.dst)) = some t) (ht : look e t = some (.bool (!b))) (k : Wl C H e ops rest Q) :
    Wl C H e ops (⟨none, op, ty, pos, af, some (j, b)⟩ :: rest) Q :=
  ⟨fun a w f s => wpList_skip (by simp [Region.wanted, yielded, hj, f.get (v := .bool (!b)) ht (by simp [undef])]) (k.run _ w f s)⟩
theorem Wl.gU {b : Bool} {j t : Nat} (hn : Nat.blt d C.n = true) (hj : ((ops[j]?).bind (·.dst)) = some t) (ht : look e t = some undef) (k : Wl C H ((d, undef) :: e) ops rest Q) :
    Wl C H e ops (⟨some d, op, ty, pos, af, some (j, b)⟩ :: rest) Q :=
  ⟨fun a w f s => wpList_skip (by
    have h1 := f.look t _ ht
    have : (a.tmps[t]? = none) ∨ a.tmps[t]? = some undef := by
      rcases Nat.lt_or_ge t a.tmps.size with h2 | h2
      · right; simp [h2] at h1 ⊢; exact h1
      · left; exact Array.getElem?_eq_none h2
    rcases this with h | h <;> simp [Region.wanted, yielded, hj, h, undef]) (k.run _ w (f.put hn _) s)⟩
/-- A bool in a slot, by its two values. -/
theorem Wl.bool {b : Bool} (t : Nat) (ht : look e t = some (.bool b)) (kt : b = true → Wl C H ((t, .bool true) :: e) ops rest Q) (kf : b = false → Wl C H ((t, .bool false) :: e) ops rest Q) : Wl C H e ops rest Q :=
  ⟨fun a w f s => by
    cases b with
    | true =>
      refine (kt rfl).run a w ⟨f.size, f.defers, fun s u hu => ?_⟩ s
      simp only [look] at hu
      split at hu
      · rename_i hb; obtain rfl : t = s := Nat.eq_of_beq_eq_true hb; injection hu with hu; subst hu; exact f.look _ _ ht
      · exact f.look _ _ hu
    | false =>
      refine (kf rfl).run a w ⟨f.size, f.defers, fun s u hu => ?_⟩ s
      simp only [look] at hu
      split at hu
      · rename_i hb; obtain rfl : t = s := Nat.eq_of_beq_eq_true hb; injection hu with hu; subst hu; exact f.look _ _ ht
      · exact f.look _ _ hu⟩

/-! ### moves, numbers, tests -/
theorem V.move {x : Operand} (hx : ev e x = some v) : ValOp P H e ⟨dst, .move x, ty, pos, af, gd⟩ v := ⟨fun ρ h g w s => by simp [execOp, h x v hx]⟩
theorem V.assign {x : Operand} (hx : ev e x = some v) : ValOp P H e ⟨dst, .assign x, ty, pos, af, gd⟩ v := ⟨fun ρ h g w s => by simp [execOp, h x v hx]⟩
theorem V.pickT {c a b : Operand} (hc : ev e c = some (.bool true)) (hx : ev e a = some v) : ValOp P H e ⟨dst, .pick c a b, ty, pos, af, gd⟩ v :=
  ⟨fun ρ h g w s => by simp [execOp, h c _ hc, asBool, h a v hx]⟩
theorem V.pickF {c a b : Operand} (hc : ev e c = some (.bool false)) (hx : ev e b = some v) : ValOp P H e ⟨dst, .pick c a b, ty, pos, af, gd⟩ v :=
  ⟨fun ρ h g w s => by simp [execOp, h c _ hc, asBool, h b v hx]⟩
theorem V.nil {x : Operand} {a : Addr} (hx : ev e x = some (.pointer (some a))) : ValOp P H e ⟨dst, .nilCheck x, ty, pos, af, gd⟩ (.pointer (some a)) :=
  ⟨fun ρ h g w s => by simp [execOp, h x _ hx]⟩
section
variable {x y : Operand} {t t' : TypeId} {k : IntKind} {a b : Int}
theorem V.add (hx : ev e x = some (.int k a)) (hy : ev e y = some (.int k b)) : ValOp P H e ⟨dst, .binOp .add t x y t', ty, pos, af, gd⟩ (.int k (k.wrap (a + b))) :=
  ⟨fun ρ h g w s => by simp [execOp, h x _ hx, h y _ hy, eqGuard, binOp, Op.intArith]⟩
theorem V.sub (hx : ev e x = some (.int k a)) (hy : ev e y = some (.int k b)) : ValOp P H e ⟨dst, .binOp .sub t x y t', ty, pos, af, gd⟩ (.int k (k.wrap (a - b))) :=
  ⟨fun ρ h g w s => by simp [execOp, h x _ hx, h y _ hy, eqGuard, binOp, Op.intArith]⟩
theorem V.mul (hx : ev e x = some (.int k a)) (hy : ev e y = some (.int k b)) : ValOp P H e ⟨dst, .binOp .mul t x y t', ty, pos, af, gd⟩ (.int k (k.wrap (a * b))) :=
  ⟨fun ρ h g w s => by simp [execOp, h x _ hx, h y _ hy, eqGuard, binOp, Op.intArith]⟩
theorem V.addk {r : Int} (hx : ev e x = some (.int k a)) (hy : ev e y = some (.int k b)) (hr : k.wrap (a + b) = r) : ValOp P H e ⟨dst, .binOp .add t x y t', ty, pos, af, gd⟩ (.int k r) := hr ▸ V.add hx hy
theorem V.subk {r : Int} (hx : ev e x = some (.int k a)) (hy : ev e y = some (.int k b)) (hr : k.wrap (a - b) = r) : ValOp P H e ⟨dst, .binOp .sub t x y t', ty, pos, af, gd⟩ (.int k r) := hr ▸ V.sub hx hy
theorem V.mulk {r : Int} (hx : ev e x = some (.int k a)) (hy : ev e y = some (.int k b)) (hr : k.wrap (a * b) = r) : ValOp P H e ⟨dst, .binOp .mul t x y t', ty, pos, af, gd⟩ (.int k r) := hr ▸ V.mul hx hy
theorem V.quok {r : Int} (hx : ev e x = some (.int k a)) (hy : ev e y = some (.int k b)) (hb : b ≠ 0) (hr : k.wrap (a.tdiv b) = r) : ValOp P H e ⟨dst, .binOp .quo t x y t', ty, pos, af, gd⟩ (.int k r) :=
  ⟨fun ρ h g w s => by simp [execOp, h x _ hx, h y _ hy, eqGuard, binOp, Op.intDiv, hb, hr]⟩
theorem V.remk {r : Int} (hx : ev e x = some (.int k a)) (hy : ev e y = some (.int k b)) (hb : b ≠ 0) (hr : a.tmod b = r) : ValOp P H e ⟨dst, .binOp .rem t x y t', ty, pos, af, gd⟩ (.int k r) :=
  ⟨fun ρ h g w s => by simp [execOp, h x _ hx, h y _ hy, eqGuard, binOp, Op.intDiv, hb, hr]⟩
theorem V.eql (hx : ev e x = some (.int k a)) (hy : ev e y = some (.int k b)) : ValOp P H e ⟨dst, .binOp .eql t x y t', ty, pos, af, gd⟩ (.bool (decide (a = b))) :=
  ⟨fun ρ h g w s => by simp [execOp, h x _ hx, h y _ hy, eqGuard, binOp, Op.intCmp]; rfl⟩
theorem V.neq (hx : ev e x = some (.int k a)) (hy : ev e y = some (.int k b)) : ValOp P H e ⟨dst, .binOp .neq t x y t', ty, pos, af, gd⟩ (.bool (!decide (a = b))) :=
  ⟨fun ρ h g w s => by simp [execOp, h x _ hx, h y _ hy, eqGuard, binOp, Op.intCmp]; rfl⟩
theorem V.lss (hx : ev e x = some (.int k a)) (hy : ev e y = some (.int k b)) : ValOp P H e ⟨dst, .binOp .lss t x y t', ty, pos, af, gd⟩ (.bool (decide (a < b))) :=
  ⟨fun ρ h g w s => by simp [execOp, h x _ hx, h y _ hy, eqGuard, binOp, Op.intCmp]⟩
theorem V.leq (hx : ev e x = some (.int k a)) (hy : ev e y = some (.int k b)) : ValOp P H e ⟨dst, .binOp .leq t x y t', ty, pos, af, gd⟩ (.bool (decide (a ≤ b))) :=
  ⟨fun ρ h g w s => by simp [execOp, h x _ hx, h y _ hy, eqGuard, binOp, Op.intCmp]⟩
theorem V.gtr (hx : ev e x = some (.int k a)) (hy : ev e y = some (.int k b)) : ValOp P H e ⟨dst, .binOp .gtr t x y t', ty, pos, af, gd⟩ (.bool (decide (b < a))) :=
  ⟨fun ρ h g w s => by simp [execOp, h x _ hx, h y _ hy, eqGuard, binOp, Op.intCmp]⟩
theorem V.geq (hx : ev e x = some (.int k a)) (hy : ev e y = some (.int k b)) : ValOp P H e ⟨dst, .binOp .geq t x y t', ty, pos, af, gd⟩ (.bool (decide (b ≤ a))) :=
  ⟨fun ρ h g w s => by simp [execOp, h x _ hx, h y _ hy, eqGuard, binOp, Op.intCmp]⟩
/-- A number's operation, whatever it is: its result is the evaluator's. -/
theorem V.shl {k' : IntKind} {b : Int} {r : Int} (hx : ev e x = some (.int k a)) (hy : ev e y = some (.int k' b)) (hb : 0 ≤ b) (hr : k.wrap (a * 2 ^ (min b.toNat k.bits)) = r) : ValOp P H e ⟨dst, .binOp .shl t x y t', ty, pos, af, gd⟩ (.int k r) :=
  ⟨fun ρ h g w s => by simp [execOp, h x _ hx, h y _ hy, eqGuard, binOp, Op.shift, show ¬ b < 0 by omega, hr]⟩
theorem V.shr {k' : IntKind} {b : Int} {r : Int} (hx : ev e x = some (.int k a)) (hy : ev e y = some (.int k' b)) (hb : 0 ≤ b) (hr : a.fdiv (2 ^ (min b.toNat k.bits)) = r) : ValOp P H e ⟨dst, .binOp .shr t x y t', ty, pos, af, gd⟩ (.int k r) :=
  ⟨fun ρ h g w s => by simp [execOp, h x _ hx, h y _ hy, eqGuard, binOp, Op.shift, show ¬ b < 0 by omega, hr]⟩
theorem V.and {r : Int} (hx : ev e x = some (.int k a)) (hy : ev e y = some (.int k b)) (hr : k.wrap ((BitVec.ofInt k.bits a &&& BitVec.ofInt k.bits b).toNat) = r) : ValOp P H e ⟨dst, .binOp .and t x y t', ty, pos, af, gd⟩ (.int k r) :=
  ⟨fun ρ h g w s => by simp [execOp, h x _ hx, h y _ hy, eqGuard, binOp, Op.intBits]; exact hr⟩
theorem V.or {r : Int} (hx : ev e x = some (.int k a)) (hy : ev e y = some (.int k b)) (hr : k.wrap ((BitVec.ofInt k.bits a ||| BitVec.ofInt k.bits b).toNat) = r) : ValOp P H e ⟨dst, .binOp .or t x y t', ty, pos, af, gd⟩ (.int k r) :=
  ⟨fun ρ h g w s => by simp [execOp, h x _ hx, h y _ hy, eqGuard, binOp, Op.intBits]; exact hr⟩
theorem V.xor {r : Int} (hx : ev e x = some (.int k a)) (hy : ev e y = some (.int k b)) (hr : k.wrap ((BitVec.ofInt k.bits a ^^^ BitVec.ofInt k.bits b).toNat) = r) : ValOp P H e ⟨dst, .binOp .xor t x y t', ty, pos, af, gd⟩ (.int k r) :=
  ⟨fun ρ h g w s => by simp [execOp, h x _ hx, h y _ hy, eqGuard, binOp, Op.intBits]; exact hr⟩
theorem V.andNot {r : Int} (hx : ev e x = some (.int k a)) (hy : ev e y = some (.int k b)) (hr : k.wrap ((BitVec.ofInt k.bits a &&& ~~~BitVec.ofInt k.bits b).toNat) = r) : ValOp P H e ⟨dst, .binOp .andNot t x y t', ty, pos, af, gd⟩ (.int k r) :=
  ⟨fun ρ h g w s => by subst hr; simp [execOp, h x _ hx, h y _ hy, eqGuard, binOp, Op.intBits]⟩
theorem V.not {b : Bool} (hx : ev e x = some (.bool b)) : ValOp P H e ⟨dst, .unOp .not t x, ty, pos, af, gd⟩ (.bool (!b)) :=
  ⟨fun ρ h g w s => by simp [execOp, h x _ hx, Op.unary]⟩
theorem V.neg {r : Int} (hx : ev e x = some (.int k a)) (hr : k.wrap (0 - a) = r) : ValOp P H e ⟨dst, .unOp .neg t x, ty, pos, af, gd⟩ (.int k r) :=
  ⟨fun ρ h g w s => by simp only [execOp, h x _ hx, Op.unary, Op.intArith, ← hr]; rfl⟩
theorem V.compl {r : Int} (hx : ev e x = some (.int k a)) (hr : k.wrap ((BitVec.ofInt k.bits (if k.signed then -1 else k.max) ^^^ BitVec.ofInt k.bits a).toNat) = r) : ValOp P H e ⟨dst, .unOp .xor t x, ty, pos, af, gd⟩ (.int k r) :=
  ⟨fun ρ h g w s => by simp only [execOp, h x _ hx, Op.unary, Op.intBits, ← hr]; rfl⟩
theorem V.conv {k' : IntKind} {r : Int} {dT : TypeDesc} (hx : ev e x = some (.int k a)) (hs : P.underlying t = some dT) (ht : P.underlying t' = some (.int k')) (hr : k'.wrap a = r) : ValOp P H e ⟨dst, .convert t t' x, ty, pos, af, gd⟩ (.int k' r) :=
  ⟨fun ρ h g w s => by simp [execOp, h x _ hx, convert, run_underlying hs, run_underlying ht, Conv.intToInt, hr]⟩
theorem V.sEql {a b : ByteArray} (hx : ev e x = some (.string a)) (hy : ev e y = some (.string b)) : ValOp P H e ⟨dst, .binOp .eql t x y t', ty, pos, af, gd⟩ (.bool (decide (a = b))) :=
  ⟨fun ρ h g w s => by
    have : (a.toList == b.toList) = decide (a = b) := by
      rw [Bool.eq_iff_iff]; simp only [beq_iff_eq, decide_eq_true_eq]
      constructor
      · intro hh
        have h1 : a.data.toList = b.data.toList := by rw [← ByteArray.toList_eq, ← ByteArray.toList_eq]; exact hh
        cases a; cases b; simp only [ByteArray.mk.injEq]; exact Array.toList_inj.1 h1
      · intro hh; rw [hh]
    simp [execOp, h x _ hx, h y _ hy, eqGuard, binOp, Op.stringOp, this]⟩
theorem V.ext {vs : List Value} {k : Nat} (hx : ev e x = some (.tuple vs.toArray)) (hk : vs[k]? = some v) : ValOp P H e ⟨dst, .extract x k, ty, pos, af, gd⟩ v :=
  ⟨fun ρ h g w s => by simp [execOp, h x _ hx, Instr.extract, hk]⟩
def notIfaceD : TypeDesc → Bool | .interface _ => false | _ => true
/-- No interface type. -/
structure NotI (P : Program) (t : TypeId) : Prop where
  run : ∃ d, P.underlying t = some d ∧ notIfaceD d = true
theorem NotI.mk' {t : TypeId} {d : TypeDesc} (h : P.underlying t = some d) (hd : notIfaceD d = true) : NotI P t := ⟨d, h, hd⟩
theorem V.mkIface (hx : ev e x = some v) (ht : NotI P t) : ValOp P H e ⟨dst, .makeInterface t x, ty, pos, af, gd⟩ (.iface t v) :=
  ⟨fun ρ h g w s => by
    obtain ⟨dT, h1, h2⟩ := ht.run
    simp only [execOp, h x _ hx, Instr.makeInterface]
    cases dT <;> first | (simp [notIfaceD] at h2; done) | simp [run_underlying h1]⟩
end
end Go.Sl
/- Own layer, 4: memory: loads, stores, addresses, new variables; calls. -/
namespace Go.Sl

/-! ### what is asked of types -/
/-- A type of one cell. -/
structure Scal (P : Program) (t : TypeId) : Prop where
  agg : ∀ w, (isAgg t).run P w = .ok false w
  size : ∀ w, (sizeOf t).run P w = .ok 1 w
/-- A struct or an array, of so many cells. -/
structure Aggr (P : Program) (t : TypeId) (n : Nat) : Prop where
  agg : ∀ w, (isAgg t).run P w = .ok true w
  size : ∀ w, (sizeOf t).run P w = .ok n w
structure Size (P : Program) (t : TypeId) (n : Nat) : Prop where
  size : ∀ w, (sizeOf t).run P w = .ok n w
structure FOff (P : Program) (s : TypeId) (f : Nat) (off : Nat) : Prop where
  run : ∀ w r k, (Instr.fieldAt s (.pointer (some ⟨r, k, none⟩)) f).run P w = .ok (.pointer (some ⟨r, k + off, none⟩)) w
structure Zero (P : Program) (t : TypeId) (z : List Value) : Prop where
  run : ∀ w, ∃ v, (zeroValue t).run P w = .ok v w ∧ v.cells = z.toArray
def isAggD : TypeDesc → Bool | .struct _ => true | .array _ _ => true | _ => false
theorem Size.mk' {P : Program} {t : TypeId} {n : Nat} (h : (P.info? t).map (·.size) = some n) : Size P t n := ⟨fun w => by
  cases hi : P.info? t with
  | none => simp [hi] at h
  | some i => simp [hi] at h; simp [sizeOf, typeInfo, hi, h]⟩
theorem Scal.mk' {P : Program} {t : TypeId} {d : TypeDesc} (hu : P.underlying t = some d) (hd : isAggD d = false) (h : (P.info? t).map (·.size) = some 1) : Scal P t where
  agg := fun w => by cases d <;> first | (simp [isAggD] at hd; done) | simp [isAgg, run_underlying hu]
  size := (Size.mk' h).size
theorem Aggr.mk' {P : Program} {t : TypeId} {d : TypeDesc} {n : Nat} (hu : P.underlying t = some d) (hd : isAggD d = true) (h : (P.info? t).map (·.size) = some n) : Aggr P t n where
  agg := fun w => by cases d <;> first | (simp [isAggD] at hd; done) | simp [isAgg, run_underlying hu]
  size := (Size.mk' h).size
theorem FOff.mk' {P : Program} {s : TypeId} {fs : Array Field} {f off n : Nat} {fd : Field} (hu : P.underlying s = some (.struct fs)) (hf : fs[f]? = some fd) (ho : fd.offset = off) (hs : (P.info? fd.type).map (·.size) = some (n + 1)) : FOff P s f off where
  run := fun w r k => by
    have := (Size.mk' hs).size w
    simp [Instr.fieldAt, run_underlying hu, hf, Instr.sureAddr, fieldPlace, this, ho, Addr.add_lit]
theorem Zero.mk' {P : Program} {t : TypeId} {z : List Value} (h : (P.info? t).map (fun i => i.zero.map (·.cells)) = some (some z.toArray)) : Zero P t z := ⟨fun w => by
  cases hi : P.info? t with
  | none => simp [hi] at h
  | some i =>
    simp [hi] at h
    obtain ⟨v, hv, hc⟩ := h
    exact ⟨v, by simp [zeroValue, typeInfo, hi, hv], hc⟩⟩

/-! ### lists of cells, so that 'rfl' lays them out -/
abbrev row (r : Nat) (t : TypeId) (l : List Value) : HP := blk r (.cells l.toArray t (0, 0))
def upd : List Value → Nat → Value → Option (List Value)
  | [], _, _ => none
  | _ :: xs, 0, v => some (v :: xs)
  | x :: xs, k + 1, v => match upd xs k v with
    | some ys => some (x :: ys)
    | none => none
def updN : List Value → Nat → List Value → Option (List Value)
  | l, _, [] => some l
  | l, k, v :: vs => match upd l k v with
    | some l' => updN l' (k + 1) vs
    | none => none
def getN : List Value → Nat → Nat → Option (List Value)
  | _, _, 0 => some []
  | l, k, n + 1 => match l[k]?, getN l (k + 1) n with
    | some v, some vs => some (v :: vs)
    | _, _ => none
theorem upd_spec : ∀ (l : List Value) (k : Nat) (v : Value) (l' : List Value), upd l k v = some l' → l' = l.set k v ∧ k < l.length
  | [], _, _, _, h => by cases h
  | x :: xs, 0, v, l', h => by injection h with h; subst h; simp
  | x :: xs, k + 1, v, l', h => by
    simp only [upd] at h
    split at h
    · rename_i ys hy
      injection h with h
      obtain ⟨h1, h2⟩ := upd_spec xs k v ys hy
      subst h h1
      simp [h2]
    · cases h
theorem getN_spec : ∀ (n : Nat) (l : List Value) (k : Nat) (vs : List Value), getN l k n = some vs → vs.length = n ∧ ∀ j v, vs[j]? = some v → l[k + j]? = some v
  | 0, l, k, vs, h => by injection h with h; subst h; simp
  | n + 1, l, k, vs, h => by
    simp only [getN] at h
    split at h
    · rename_i v ws h1 h2
      injection h with h
      subst h
      obtain ⟨e1, e2⟩ := getN_spec n l (k + 1) ws h2
      refine ⟨by simp [e1], fun j u hj => ?_⟩
      cases j with
      | zero => simp at hj; subst hj; simpa using h1
      | succ j => have := e2 j u (by simpa using hj); rwa [show k + (j + 1) = k + 1 + j by omega]
    · cases h
def oneCells : List Value → Bool
  | [] => true
  | v :: vs => match v.oneCell' with
    | true => oneCells vs
    | false => false
theorem oneCells_spec : ∀ (l : List Value), oneCells l = true → ∀ v ∈ l, v.oneCell' = true
  | [], _, v, hv => by cases hv
  | u :: l, h, v, hv => by
    simp only [oneCells] at h
    split at h
    · rename_i h1
      rcases List.mem_cons.1 hv with rfl | hv
      · exact h1
      · exact oneCells_spec l h v hv
    · cases h

theorem cells_one {v : Value} (h : v.oneCell' = true) : v.cells = #[v] := by cases v <;> first | rfl | (simp [Value.oneCell'] at h)
theorem addr_add (r k n : Nat) : (⟨r, k, none⟩ : Addr).add n = ⟨r, k + n, none⟩ := Addr.add_lit r k n

variable {C : Cx} {H H' A B F : HP} {e e' : Env} {Q : Post} {ops : Array Oper} {rest : List Oper} {c : Code}
variable {d : Tmp} {op : Op} {ty : TypeId} {pos : String} {af : Array Edge} {v u : Value} {P : Program} {dst : Option Tmp} {gd : Option (Nat × Bool)}

theorem run_load_heap {w : World} {r k : Nat} {l : List Value} {t : TypeId} {z : Nat × Nat} {v : Value} (h : w.heap[r]? = some (.cells l.toArray t z)) (hv : l[k]? = some v) : (load ⟨r, k, none⟩).run P w = .ok v w := by
  have : w.cell? ⟨r, k, none⟩ = some v := by rw [cell_of_heap h]; simpa using hv
  simp [run_load, this]
theorem run_loadCells_heap {w : World} {r k n : Nat} {l vs : List Value} {t : TypeId} {z : Nat × Nat} (h : w.heap[r]? = some (.cells l.toArray t z)) (hl : vs.length = n) (hv : ∀ j v, vs[j]? = some v → l[k + j]? = some v) : (loadCells ⟨r, k, none⟩ n).run P w = .ok vs.toArray w := by
  subst hl
  refine run_loadCells_list w _ vs fun j v hj => ?_
  rw [addr_add, cell_of_heap h]
  simpa using hv j v hj
theorem V.ld {x : Operand} {t : TypeId} {r k : Nat} {l : List Value} {t' : TypeId} {z : Nat × Nat} (hx : ev e x = some (.pointer (some ⟨r, k, none⟩))) (ht : Scal P t) [i : Rd r H (.cells l.toArray t' z)] (hv : l[k]? = some v) :
    ValOp P H e ⟨dst, .load t x, ty, pos, af, gd⟩ v :=
  ⟨fun ρ h g w s => by simp [execOp, h x _ hx, Instr.loadAt, Instr.sureAddr, loadVar, ht.agg, run_load_heap (s.get (r := r)) hv, -run_load]⟩
theorem V.ldA {x : Operand} {t : TypeId} {r k n : Nat} {l vs : List Value} {t' : TypeId} {z : Nat × Nat} (hx : ev e x = some (.pointer (some ⟨r, k, none⟩))) (ht : Aggr P t n) [i : Rd r H (.cells l.toArray t' z)] (hv : getN l k n = some vs) :
    ValOp P H e ⟨dst, .load t x, ty, pos, af, gd⟩ (.agg vs.toArray) :=
  ⟨fun ρ h g w s => by
    obtain ⟨h1, h2⟩ := getN_spec n l k vs hv
    simp [execOp, h x _ hx, Instr.loadAt, Instr.sureAddr, loadVar, ht.agg, ht.size, run_loadCells_heap (s.get (r := r)) h1 h2]⟩
theorem V.fld (k' : Nat) {x : Operand} {t : TypeId} {f r k off : Nat} (hx : ev e x = some (.pointer (some ⟨r, k, none⟩))) (hf : FOff P t f off) (hk : k + off = k') : ValOp P H e ⟨dst, .fieldAddr t x f, ty, pos, af, gd⟩ (.pointer (some ⟨r, k', none⟩)) :=
  ⟨fun ρ h g w s => by simp [execOp, h x _ hx, hf.run, hk]⟩
theorem V.idx {x y : Operand} {t el : TypeId} {r o n cap m k' : Nat} {k : IntKind} {i : Int} (hx : ev e x = some (.slice (some ⟨r, o, none⟩) n cap)) (hy : ev e y = some (.int k i)) (ht : P.underlying t = some (.slice el)) (hs : Size P el m) (h0 : 0 ≤ i) (h1 : i < n) (hk : o + i.toNat * m = k') :
    ValOp P H e ⟨dst, .indexAddr t x y, ty, pos, af, gd⟩ (.pointer (some ⟨r, k', none⟩)) :=
  ⟨fun ρ h g w s => by
    simp only [execOp, h x _ hx, h y _ hy, Instr.indexAt, asIntOf]
    simp [run_underlying ht, h0, h1, hs.size, addr_add, hk]⟩
theorem V.idxA {x y : Operand} {t el : TypeId} {r o n m k' : Nat} {k : IntKind} {i : Int} (hx : ev e x = some (.pointer (some ⟨r, o, none⟩))) (hy : ev e y = some (.int k i)) (ht : P.underlying t = some (.array n el)) (hs : Size P el m) (h0 : 0 ≤ i) (h1 : i < n) (hk : o + i.toNat * m = k') :
    ValOp P H e ⟨dst, .indexAddr t x y, ty, pos, af, gd⟩ (.pointer (some ⟨r, k', none⟩)) :=
  ⟨fun ρ h g w s => by
    simp only [execOp, h x _ hx, h y _ hy, Instr.indexAt, asIntOf]
    simp [run_underlying ht, Instr.sureAddr, h0, h1, hs.size, addr_add, hk]⟩
theorem V.lenS {x : Operand} {t : TypeId} {el : TypeId} {a : Option Addr} {n m : Nat} (hx : ev e x = some (.slice a n m)) (ht : P.underlying t = some (.slice el)) : ValOp P H e ⟨dst, .call ⟨.builtin .len, #[x], #[t]⟩, ty, pos, af, gd⟩ (.int .i64 n) :=
  ⟨fun ρ h g w s => by simp [execOp, resolve, invoke, builtin, h x _ hx, Builtin.len_, run_underlying ht, goInt]⟩
theorem V.lenStr {x : Operand} {t : TypeId} {b : ByteArray} (hx : ev e x = some (.string b)) (ht : P.underlying t = some .string) : ValOp P H e ⟨dst, .call ⟨.builtin .len, #[x], #[t]⟩, ty, pos, af, gd⟩ (.int .i64 b.size) :=
  ⟨fun ρ h g w s => by simp [execOp, resolve, invoke, builtin, h x _ hx, Builtin.len_, run_underlying ht, goInt]⟩
theorem V.lenMap {x : Operand} {t kt et : TypeId} {r : Nat} {es : Array MapEntry} {ck : Nat} (hx : ev e x = some (.map (some r))) (ht : P.underlying t = some (.map kt et)) [i : Rd r H (.map es ck)] : ValOp P H e ⟨dst, .call ⟨.builtin .len, #[x], #[t]⟩, ty, pos, af, gd⟩ (.int .i64 es.size) :=
  ⟨fun ρ h g w s => by
    have hr := s.get (r := r)
    simp [execOp, resolve, invoke, builtin, h x _ hx, Builtin.len_, run_underlying ht, goInt, getObj, Sem.run, hr]⟩
theorem foldlM_int (k : IntKind) (f : Int → Int → Int) (op : Value → Value → Sem Value) (hop : ∀ a b, op (.int k a) (.int k b) = pure (.int k (f a b))) (a b : Int) (w : World) : (([Value.int k b] : List Value).foldlM op (.int k a)).run P w = .ok (.int k (f a b)) w := by
  simp [hop]
theorem V.mx {x y : Operand} {ts : Array TypeId} {k : IntKind} {a b : Int} (hx : ev e x = some (.int k a)) (hy : ev e y = some (.int k b)) : ValOp P H e ⟨dst, .call ⟨.builtin .max, #[x, y], ts⟩, ty, pos, af, gd⟩ (.int k (max a b)) :=
  ⟨fun ρ h g w s => by
    have : (if b > a then b else a) = max a b := by omega
    simp [execOp, resolve, invoke, builtin, h x _ hx, h y _ hy, Builtin.max_, Builtin.max2, ← this]⟩
theorem V.mn {x y : Operand} {ts : Array TypeId} {k : IntKind} {a b : Int} (hx : ev e x = some (.int k a)) (hy : ev e y = some (.int k b)) : ValOp P H e ⟨dst, .call ⟨.builtin .min, #[x, y], ts⟩, ty, pos, af, gd⟩ (.int k (min a b)) :=
  ⟨fun ρ h g w s => by
    have : (if b < a then b else a) = min a b := by omega
    simp [execOp, resolve, invoke, builtin, h x _ hx, h y _ hy, Builtin.min_, Builtin.min2, ← this]⟩

theorem S.put {x y : Operand} {t : TypeId} {r k : Nat} {l l' : List Value} {t' : TypeId} {H' : Obj → HP} (hx : ev e x = some (.pointer (some ⟨r, k, none⟩))) (hy : ev e y = some v) (ht : Scal P t) [i : At r H (.cells l.toArray t' (0, 0)) H'] (h1 : v.oneCell' = true) (hl : upd l k v = some l') :
    StOp P H e ⟨dst, .store t x y, ty, pos, af, gd⟩ (H' (.cells l'.toArray t' (0, 0))) :=
  ⟨fun ρ h g w s => by
    obtain ⟨rfl, hk⟩ := upd_spec l k v l' hl
    have hg := s.get (r := r)
    have hc : w.cell? ⟨r, k, none⟩ = some l[k] := by rw [cell_of_heap hg]; simp [hk]
    have hf : w.frozen? ⟨r, k, none⟩ = false := by rw [frozen_of_heap hg]; simp
    have hst : (store ⟨r, k, none⟩ v).run P w = .ok () (w.setCell ⟨r, k, none⟩ v) := by rw [run_store P w _ v _ h1]; simp [hc, hf]
    refine ⟨w.setCell ⟨r, k, none⟩ v, ?_, ?_⟩
    · simp [execOp, h x _ hx, h y _ hy, Instr.storeAt, Instr.sureAddr, storeVar, cells_one h1, ht.size, storeCells, hst, Addr.add_zero']
    · have := s.setCell (r := r) (k := k) v
      simpa using this⟩
theorem run_storeCells_heap {r k : Nat} {t : TypeId} {l : List Value} : ∀ (vs l' : List Value) (w : World) (i : Nat), w.heap[r]? = some (.cells l.toArray t (0, 0)) → True → True := fun _ _ _ _ _ _ => trivial
/-- Several cells at once. -/
def putAt (l : List Value) (k : Nat) (vs : List Value) : List Value := l.take k ++ vs ++ l.drop (k + vs.length)
theorem updN_spec : ∀ (vs l : List Value) (k : Nat) (l' : List Value), updN l k vs = some l' → (l' = putAt l k vs ∧ (vs ≠ [] → k + vs.length ≤ l.length))
  | [], l, k, l', h => by injection h with h; subst h; simp [putAt]
  | v :: vs, l, k, l', h => by
    simp only [updN] at h
    split at h
    · rename_i m hm
      obtain ⟨rfl, hk⟩ := upd_spec l k v m hm
      obtain ⟨h1, h2⟩ := updN_spec vs (l.set k v) (k + 1) l' h
      subst h1
      have hle : k + (vs.length + 1) ≤ l.length := by
        cases vs with
        | nil => simp; omega
        | cons u us => have := h2 (by simp); simp at this ⊢; omega
      refine ⟨?_, fun _ => by simpa using hle⟩
      simp only [putAt, List.length_cons]
      have e1 : (l.set k v).take (k + 1) = l.take k ++ [v] := by
        rw [List.take_succ_eq_append_getElem (by simpa using hk)]; simp [List.take_set_of_le]
      have e2 : (l.set k v).drop (k + 1 + vs.length) = l.drop (k + (vs.length + 1)) := by
        rw [List.drop_set_of_lt (by omega)]; congr 1; omega
      rw [e1, e2]
      simp
    · cases h
theorem S.putA {x y : Operand} {t : TypeId} {r k n : Nat} {l l' vs : List Value} {t' : TypeId} {H' : Obj → HP} (hx : ev e x = some (.pointer (some ⟨r, k, none⟩))) (hy : ev e y = some (.agg vs.toArray)) (ht : Aggr P t n) [i : At r H (.cells l.toArray t' (0, 0)) H'] (h1 : oneCells vs = true) (hn : Nat.beq vs.length n = true) (hp : Nat.blt 0 n = true) (hl : updN l k vs = some l') :
    StOp P H e ⟨dst, .store t x y, ty, pos, af, gd⟩ (H' (.cells l'.toArray t' (0, 0))) :=
  ⟨fun ρ h g w s => by
    obtain ⟨rfl, hk⟩ := updN_spec vs l k l' hl
    have hn' : vs.length = n := Nat.eq_of_beq_eq_true hn
    have hp' : 0 < n := Nat.le_of_ble_eq_true hp
    have hg := s.get (r := r)
    have hk' := hk (by intro hv; subst hv; simp at hn'; omega)
    have hst := run_storeCells_at P r k t' vs 0 l.toArray w hg (by simpa using hk') (oneCells_spec vs h1)
    refine ⟨w.setRow r (putAt l k vs).toArray, ?_, ?_⟩
    · simp only [execOp, h x _ hx, h y _ hy, Instr.storeAt, Instr.sureAddr, storeVar, Value.cells, List.size_toArray, hn']
      simp only [Sem.run_bind, ht.size, Result.andThen_ok, Sem.run_pure, ne_eq, not_true_eq_false, if_false]
      simp [hst, putAt]
    · exact s.set (r := r) rfl rfl (setRow_heap w r _ _ _ _ hg) (fun q hq => setRow_other w r q _ hq)⟩

/-! ### calls -/
structure Take (A H R : HP) : Prop where
  to : Ent H (A * R)
  back : Ent (A * R) H
theorem Take.of_eq {R : HP} (h : H = A * R) : Take A H R := ⟨Ent.of_eq h, Ent.of_eq h.symm⟩
theorem Take.here : Take A (A * F) F := .of_eq rfl
theorem Take.none (H : HP) : Take emp H H := ⟨Ent.emp H, Ent.right _ _⟩
theorem Take.there {R : HP} (h : Take A H R) : Take A (B * H) (B * R) :=
  ⟨(h.to.framel B).trans (Ent.of_eq (sep_left_comm _ _ _)), (Ent.of_eq (sep_left_comm _ _ _)).trans (h.back.framel B)⟩
theorem Take.two {R R' : HP} (h : Take A H R) (k : Take B R R') : Take (A * B) H R' :=
  ⟨(h.to.trans (k.to.framel A)).trans (Ent.of_eq (sep_assoc _ _ _).symm), ((Ent.of_eq (sep_assoc _ _ _)).trans (k.back.framel A)).trans h.back⟩
theorem Take.one (h : Take A H F) : Ent H A := h.to.trans (Ent.left _ _)
/-- A call of a named function. -/
theorem wpList_call {f : FuncId} {args : List Value} {o : Oper} {a : Act} {w : World} {R : Ending → World → Prop} (hg : o.guard = none) (hr : (execOp a.eval o).run P w = .ok (.enter f args.toArray) w) (hc : Calls P f args.toArray w R)
    (k : ∀ e w', R e w' → ∃ v, e = .returned v ∧ wpList P ops Q rest (a.put o.dst v) w') : wpList P ops Q (o :: rest) a w :=
  wpList_plain hg fun K hK => by
    unfold Oper.wp
    rw [hr]
    refine Calls.mono hc fun e w' hR => ?_
    obtain ⟨v, rfl, hk⟩ := k e w' hR
    exact hK _ _ hk
theorem run_call {f : FuncId} {xs : List Operand} {vs : List Value} {ts : Array TypeId} {Φ : Value → HP} {ρ : Operand → Value} (hs : Ctr P f vs A Φ) (h : Agrees ρ e) (hx : evs e xs = some vs) (w : World) :
    (execOp ρ ⟨dst, .call ⟨.value (.func f), xs.toArray, ts⟩, ty, pos, af, gd⟩).run P w = .ok (.enter f vs.toArray) w := by
  have h1 := h.list xs vs hx
  have h2 : ρ (.func f) = .func (.func f) #[] #[] := h _ _ rfl
  have h3 : Array.map ρ xs.toArray = vs.toArray := by rw [← h1]; simp
  have := hs.enters vs.toArray w
  simp only [execOp, resolve, h2, h3, Deferred.ofValue, Array.empty_append]
  simp [invoke, this]
/-- A call of a function value: what it bears ahead of the arguments, the arguments, what it has captured. -/
theorem run_callv {f : FuncId} {y : Operand} {xs : List Operand} {vs fs cs : List Value} {ts : Array TypeId} {Φ : Value → HP} {ρ : Operand → Value} (hs : Ctr P f (fs ++ vs ++ cs) A Φ) (h : Agrees ρ e) (hy : ev e y = some (.func (.func f) fs.toArray cs.toArray)) (hx : evs e xs = some vs) (w : World) :
    (execOp ρ ⟨dst, .call ⟨.value y, xs.toArray, ts⟩, ty, pos, af, gd⟩).run P w = .ok (.enter f (fs ++ vs ++ cs).toArray) w := by
  have h1 := h.list xs vs hx
  have h2 : ρ y = .func (.func f) fs.toArray cs.toArray := h _ _ hy
  have h3 : Array.map ρ xs.toArray = vs.toArray := by rw [← h1]; simp
  have := hs.enters (fs ++ vs ++ cs).toArray w
  simp only [execOp, resolve, h2, h3, Deferred.ofValue]
  simp at this
  simp [invoke, this]
theorem Wl.call {f : FuncId} {xs : List Operand} {vs : List Value} {ts : Array TypeId} {Φ : Value → HP} (hn : Nat.blt d C.n = true) (hx : evs e xs = some vs) (hs : Ctr C.P f vs A Φ) (ht : Take A H F) (k : ∀ v, Wl C (Φ v * F) ((d, v) :: e) ops rest Q) :
    Wl C H e ops (⟨some d, .call ⟨.value (.func f), xs.toArray, ts⟩, ty, pos, af, none⟩ :: rest) Q :=
  ⟨fun a w fi s => wpList_call rfl (run_call hs fi.agrees hx w) (hs.calls F C.g w (s.ent ht.to)) fun _ _ ⟨v, he, s'⟩ => ⟨v, he, (k v).run _ _ (fi.put hn v) s'⟩⟩
/-- A call whose result is known. -/
theorem Wl.callD {f : FuncId} {xs : List Operand} {vs : List Value} {ts : Array TypeId} {r : Value} (hn : Nat.blt d C.n = true) (hx : evs e xs = some vs) (hs : Ctr C.P f vs A (fun v => Sl.pu (v = r) * B)) (ht : Take A H F) (k : Wl C (B * F) ((d, r) :: e) ops rest Q) :
    Wl C H e ops (⟨some d, .call ⟨.value (.func f), xs.toArray, ts⟩, ty, pos, af, none⟩ :: rest) Q :=
  Wl.call hn hx hs ht fun v => Wl.assoc (Wl.pu fun hv => hv ▸ k)
theorem Wl.callv {f : FuncId} {y : Operand} {xs : List Operand} {vs fs cs : List Value} {ts : Array TypeId} {Φ : Value → HP} (hn : Nat.blt d C.n = true) (hy : ev e y = some (.func (.func f) fs.toArray cs.toArray)) (hx : evs e xs = some vs) (hs : Ctr C.P f (fs ++ vs ++ cs) A Φ) (ht : Take A H F) (k : ∀ v, Wl C (Φ v * F) ((d, v) :: e) ops rest Q) :
    Wl C H e ops (⟨some d, .call ⟨.value y, xs.toArray, ts⟩, ty, pos, af, none⟩ :: rest) Q :=
  ⟨fun a w fi s => wpList_call rfl (run_callv hs fi.agrees hy hx w) (hs.calls F C.g w (s.ent ht.to)) fun _ _ ⟨v, he, s'⟩ => ⟨v, he, (k v).run _ _ (fi.put hn v) s'⟩⟩
theorem Wl.callvD {f : FuncId} {y : Operand} {xs : List Operand} {vs fs cs : List Value} {ts : Array TypeId} {r : Value} (hn : Nat.blt d C.n = true) (hy : ev e y = some (.func (.func f) fs.toArray cs.toArray)) (hx : evs e xs = some vs) (hs : Ctr C.P f (fs ++ vs ++ cs) A (fun v => Sl.pu (v = r) * B)) (ht : Take A H F) (k : Wl C (B * F) ((d, r) :: e) ops rest Q) :
    Wl C H e ops (⟨some d, .call ⟨.value y, xs.toArray, ts⟩, ty, pos, af, none⟩ :: rest) Q :=
  Wl.callv hn hy hx hs ht fun v => Wl.assoc (Wl.pu fun hv => hv ▸ k)
/-- A call whose result nobody takes. -/
theorem Wl.call0 {f : FuncId} {xs : List Operand} {vs : List Value} {ts : Array TypeId} {Φ : Value → HP} (hx : evs e xs = some vs) (hs : Ctr C.P f vs A Φ) (ht : Take A H F) (k : ∀ v, Wl C (Φ v * F) e ops rest Q) :
    Wl C H e ops (⟨none, .call ⟨.value (.func f), xs.toArray, ts⟩, ty, pos, af, none⟩ :: rest) Q :=
  ⟨fun a w fi s => wpList_call rfl (run_call hs fi.agrees hx w) (hs.calls F C.g w (s.ent ht.to)) fun _ _ ⟨v, he, s'⟩ => ⟨v, he, (k v).run _ _ fi s'⟩⟩
theorem Wl.call0D {f : FuncId} {xs : List Operand} {vs : List Value} {ts : Array TypeId} {r : Value} (hx : evs e xs = some vs) (hs : Ctr C.P f vs A (fun v => Sl.pu (v = r) * B)) (ht : Take A H F) (k : Wl C (B * F) e ops rest Q) :
    Wl C H e ops (⟨none, .call ⟨.value (.func f), xs.toArray, ts⟩, ty, pos, af, none⟩ :: rest) Q :=
  Wl.call0 hx hs ht fun v => Wl.assoc (Wl.pu fun _ => k)
theorem Wl.callE {f : FuncId} {xs : List Operand} {vs : List Value} {ts : Array TypeId} {r : Value} (hn : Nat.blt d C.n = true) (hx : evs e xs = some vs) (hs : Ctr C.P f vs emp (fun v => Sl.pu (v = r) * emp)) (k : Wl C H ((d, r) :: e) ops rest Q) :
    Wl C H e ops (⟨some d, .call ⟨.value (.func f), xs.toArray, ts⟩, ty, pos, af, none⟩ :: rest) Q := Wl.callD hn hx hs (Take.none H) (Wl.ent (Ent.right _ _) k)
theorem Wl.callvE {f : FuncId} {y : Operand} {xs : List Operand} {vs fs cs : List Value} {ts : Array TypeId} {r : Value} (hn : Nat.blt d C.n = true) (hy : ev e y = some (.func (.func f) fs.toArray cs.toArray)) (hx : evs e xs = some vs) (hs : Ctr C.P f (fs ++ vs ++ cs) emp (fun v => Sl.pu (v = r) * emp)) (k : Wl C H ((d, r) :: e) ops rest Q) :
    Wl C H e ops (⟨some d, .call ⟨.value y, xs.toArray, ts⟩, ty, pos, af, none⟩ :: rest) Q := Wl.callvD hn hy hx hs (Take.none H) (Wl.ent (Ent.right _ _) k)
end Go.Sl
/- Own layer, 5: regions that draw their order: (a) all quiet; (b) quiet operations and operations that make memory, in any order, then a tail in its own order. -/
namespace Go.Sl
section plain
variable {P : Program} {ops : Array Oper} {md : Region.Mode} {g : Gh}

/-- In every world of the assertion, whatever stands beside it: the value, and the assertion stands. -/
def QuietP (P : Program) (g : Gh) (S : HP) (o : Oper) (a : Act) (v : Value) : Prop := ∀ Fr : HP, ∀ w, Sat g w (S * Fr) → o.quietAt P a (fun w => Sat g w (S * Fr)) w v
/-- Some value out of a row of them; the part M turns, the part S stands. -/
def GrowUpon (P : Program) (g : Gh) (S : HP) (Z : List PanicEntry → World → Prop) {ι : Type} (vr : ι → Value) (N : ι → HP) : Result Next → Prop
  | .ok (.value v) w' => ∃ i, v = vr i ∧ Sat g w' (S * N i)
  | .ok .skip w' => ∃ i, vr i = undef ∧ Sat g w' (S * N i)
  | .ok (.enter f args) w' => Calls P f args w' fun e w'' => (∃ i, e = .returned (vr i) ∧ Sat g w'' (S * N i)) ∨ ∃ ch, e = .panicked ch ∧ Z ch w''
  | _ => False
def GrowP (P : Program) (g : Gh) (S : HP) (Z : List PanicEntry → World → Prop) (o : Oper) (a : Act) (M : HP) {ι : Type} (vr : ι → Value) (N : ι → HP) : Prop := ∀ w, Sat g w (S * M) → GrowUpon P g S Z vr N ((execOp a.eval o).run P w)
def stepP (P : Program) (g : Gh) (S : HP) (Z : List PanicEntry → World → Prop) (o : Oper) (a : Act) (M : HP) (K : Act → HP → Prop) : Prop :=
  (∃ v, QuietP P g S o a v ∧ K (a.put o.dst v) M) ∨ (∃ (ι : Type) (vr : ι → Value) (N : ι → HP), GrowP P g S Z o a M vr N ∧ ∀ i, K (a.put o.dst (vr i)) (N i))
def opP (P : Program) (g : Gh) (S : HP) (Z : List PanicEntry → World → Prop) (ops : Array Oper) (i : Nat) (K : Act → HP → Prop) (a : Act) (M : HP) : Prop :=
  match ops[i]? with
  | none => K a M
  | some o => if Region.wanted o (yielded ops a.tmps) then stepP P g S Z o a M K else K (a.put o.dst undef) M
def wpAnyP (P : Program) (g : Gh) (S : HP) (Z : List PanicEntry → World → Prop) (md : Region.Mode) (ops : Array Oper) (n : Nat) (L : Array Bool → Act → HP → Prop) : Nat → Array Bool → Act → HP → Prop
  | 0, listed, a, M => L listed a M
  | f + 1, listed, a, M =>
    Region.ready md ops listed ≠ [] ∧ ∀ i ∈ Region.ready md ops listed, i < n ∧ opP P g S Z ops i (wpAnyP P g S Z md ops n L f (listed.setIfInBounds i true)) a M
variable {S : HP} {Z : List PanicEntry → World → Prop}

theorem stepP_mono {o : Oper} {a : Act} {M : HP} {K K' : Act → HP → Prop} (h : ∀ a M, K a M → K' a M) (hh : stepP P g S Z o a M K) : stepP P g S Z o a M K' :=
  hh.imp (fun ⟨v, q, k⟩ => ⟨v, q, h _ _ k⟩) (fun ⟨ι, vr, N, q, k⟩ => ⟨ι, vr, N, q, fun v => h _ _ (k v)⟩)
theorem opP_mono {i : Nat} {a : Act} {M : HP} {K K' : Act → HP → Prop} (h : ∀ a M, K a M → K' a M) (hh : opP P g S Z ops i K a M) : opP P g S Z ops i K' a M := by
  unfold opP at *
  split
  · exact h _ _ (by simpa [*] using hh)
  · rename_i o ho
    simp only [ho] at hh
    split
    · rename_i hw; simp only [hw, if_true] at hh; exact stepP_mono h hh
    · rename_i hw; simp only [hw] at hh; exact h _ _ hh

/-! ### it is a wpAny -/
/-- What a panic's end needs of a frame. -/
def ZOk (Z : List PanicEntry → World → Prop) (Q : Exit → Act → World → Prop) (nn : Nat) (ds : List Deferred) : Prop := ∀ ch w, Z ch w → ∀ a : Act, a.tmps.size = nn → a.defers = ds → Q (.panic ch) a w
theorem put_size {a : Act} {nn : Nat} (h : a.tmps.size = nn) (d : Option Tmp) (v : Value) : (a.put d v).tmps.size = nn := by cases d <;> simp [Act.put, h]
theorem put_defers {a : Act} {ds : List Deferred} (h : a.defers = ds) (d : Option Tmp) (v : Value) : (a.put d v).defers = ds := by cases d <;> simp [Act.put, h]
theorem wp_of_stepP {nn : Nat} {ds : List Deferred} {o : Oper} {a : Act} {M : HP} {K : Act → HP → Prop} {K' : Act → World → Prop} {Q : Exit → Act → World → Prop} {w : World} (hZ : ZOk Z Q nn ds) (ha : a.tmps.size = nn) (hd : a.defers = ds) (hs : Sat g w (S * M)) (h : ∀ a w M, a.tmps.size = nn → a.defers = ds → Sat g w (S * M) → K a M → K' a w) (hh : stepP P g S Z o a M K) : o.wp P a w K' Q := by
  rcases hh with ⟨v, hq, k⟩ | ⟨ι, vr, N, hq, k⟩
  · have h3 := hq M w hs
    unfold Oper.quietAt at h3
    unfold Oper.wp
    generalize (execOp a.eval o).run P w = r at *
    cases r with
    | ok x w' =>
      cases x <;> simp only [Oper.quietUpon] at h3 <;> simp only [Oper.upon]
      case value u => obtain ⟨e1, e2⟩ := h3; rw [e1, e2]; exact h _ _ _ (put_size ha _ _) (put_defers hd _ _) hs k
      case skip => obtain ⟨e1, e2⟩ := h3; rw [e1, ← e2]; exact h _ _ _ (put_size ha _ _) (put_defers hd _ _) hs k
      case enter f args =>
        obtain ⟨e1, hc⟩ := h3
        rw [e1]
        exact hc.mono fun e w'' ⟨he, hw''⟩ => by subst he; exact h _ _ _ (put_size ha _ _) (put_defers hd _ _) hw'' k
    | halt x w' => simp only [Oper.quietUpon] at h3
  · have h3 := hq w hs
    unfold Oper.wp
    generalize (execOp a.eval o).run P w = r at *
    cases r with
    | ok x w' =>
      cases x <;> simp only [GrowUpon] at h3 <;> simp only [Oper.upon]
      case value u => obtain ⟨i, rfl, h4⟩ := h3; exact h _ _ _ (put_size ha _ _) (put_defers hd _ _) h4 (k i)
      case skip => obtain ⟨i, hi, h4⟩ := h3; rw [← hi]; exact h _ _ _ (put_size ha _ _) (put_defers hd _ _) h4 (k i)
      case enter f args =>
        refine h3.mono fun e w'' hh => ?_
        rcases hh with ⟨i, he, hw''⟩ | ⟨ch, he, hz⟩
        · subst he; exact h _ _ _ (put_size ha _ _) (put_defers hd _ _) hw'' (k i)
        · subst he; exact hZ _ _ hz _ ha hd
    | halt x w' => simp only [GrowUpon] at h3
theorem wpOp_of_opP {nn : Nat} {ds : List Deferred} {i : Nat} {a : Act} {M : HP} {K : Act → HP → Prop} {K' : Act → World → Prop} {Q : Exit → Act → World → Prop} {w : World} (hZ : ZOk Z Q nn ds) (ha : a.tmps.size = nn) (hd : a.defers = ds) (hs : Sat g w (S * M)) (h : ∀ a w M, a.tmps.size = nn → a.defers = ds → Sat g w (S * M) → K a M → K' a w) (hh : opP P g S Z ops i K a M) : wpOp P ops Q i K' a w := by
  unfold opP at hh
  unfold wpOp
  split
  · rename_i ho; simp only [ho] at hh; exact h _ _ _ (by first | exact ha | exact put_size ha _ _) (by first | exact hd | exact put_defers hd _ _) hs hh
  · rename_i o ho
    simp only [ho] at hh
    split
    · rename_i hw; simp only [hw, if_true] at hh; exact .inl (wp_of_stepP hZ ha hd hs h hh)
    · rename_i hw; simp only [hw] at hh; exact h _ _ _ (by first | exact ha | exact put_size ha _ _) (by first | exact hd | exact put_defers hd _ _) hs hh
theorem wpAny_of_P {nn : Nat} {ds : List Deferred} {n k : Nat} {L : Array Bool → Act → HP → Prop} {Q : Exit → Act → World → Prop} (hZ : ZOk Z Q nn ds) (hL : ∀ listed a M w, Sat g w (S * M) → L listed a M → wpAny P md ops Q k listed a w) :
    ∀ (f : Nat) (listed : Array Bool) (a : Act) (M : HP) (w : World), a.tmps.size = nn → a.defers = ds → Sat g w (S * M) → wpAnyP P g S Z md ops n L f listed a M → wpAny P md ops Q (f + k) listed a w
  | 0, listed, a, M, w, ha, hd, hs, h => by rw [Nat.zero_add]; exact hL _ _ _ _ hs h
  | f + 1, listed, a, M, w, ha, hd, hs, h => by
    rw [show f + 1 + k = (f + k) + 1 by omega]
    exact ⟨fun h0 => absurd h0 h.1, fun i hi => wpOp_of_opP hZ ha hd hs (fun a' w' M' ha' hd' hs' h' => wpAny_of_P hZ hL f _ a' M' w' ha' hd' hs' h') (h.2 i hi).2⟩

/-! ### a quiet operation may be taken first -/
def YieldsP (P : Program) (g : Gh) (S : HP) (ops : Array Oper) (o : Oper) (v : Value) (a : Act) : Prop :=
  (Region.wanted o (yielded ops a.tmps) = true ∧ QuietP P g S o a v) ∨ (Region.wanted o (yielded ops a.tmps) = false ∧ v = undef)
theorem YieldsP.opP {i : Nat} {o : Oper} {v : Value} {a : Act} {M : HP} (hi : ops[i]? = some o) (hy : YieldsP P g S ops o v a) {K : Act → HP → Prop} (h : K (a.put o.dst v) M) : Sl.opP P g S Z ops i K a M := by
  unfold Sl.opP
  simp only [hi]
  rcases hy with ⟨hw, hv⟩ | ⟨hw, rfl⟩
  · simp only [hw, if_true]; exact .inl ⟨v, hv, h⟩
  · simp only [hw, Bool.false_eq_true, if_false]; exact h
theorem YieldsP.of_same {o : Oper} {v : Value} {a a' : Act} (hy : YieldsP P g S ops o v a) (he : execOp a'.eval o = execOp a.eval o)
    (hw : Region.wanted o (yielded ops a'.tmps) = Region.wanted o (yielded ops a.tmps)) : YieldsP P g S ops o v a' := by
  unfold YieldsP QuietP Oper.quietAt at *
  rw [he, hw]
  exact hy
theorem opP_put {j : Nat} {oi oj : Oper} {v : Value} (hj : ops[j]? = some oj) (hap : oi.apart ops oj = true)
    (hsi : ∀ cs b, oi.op ≠ .select cs b) (hsj : ∀ cs b, oj.op ≠ .select cs b) {K : Act → HP → Prop} {a : Act} {M : HP}
    (hy : YieldsP P g S ops oi v a) (h : opP P g S Z ops j K (a.put oi.dst v) M) :
    opP P g S Z ops j (fun a' M' => YieldsP P g S ops oi v a' ∧ K (a'.put oi.dst v) M') a M := by
  obtain ⟨h1, h2, h3⟩ := Oper.apart_spec hap
  have keep : ∀ u, YieldsP P g S ops oi v (a.put oj.dst u) := fun u => hy.of_same (execOp_put oi hsi a oj.dst u h3) (wanted_put oi a oj.dst u h3)
  have hex : execOp (a.put oi.dst v).eval oj = execOp a.eval oj := execOp_put oj hsj a oi.dst v h1
  unfold opP at *
  simp only [hj] at *
  rw [wanted_put oj a oi.dst v h1] at h
  split
  · rename_i hw
    simp only [hw, if_true] at h
    rcases h with ⟨u, hu, hn⟩ | ⟨ι, vr, N, hu, hn⟩
    · refine .inl ⟨u, ?_, keep u, by rw [← Act.put_comm a v u h2]; exact hn⟩
      intro Fr w hs
      have := hu Fr w hs
      unfold Oper.quietAt at *
      rwa [hex] at this
    · refine .inr ⟨ι, vr, N, ?_, fun u => ⟨keep _, by rw [← Act.put_comm a v (vr u) h2]; exact hn u⟩⟩
      intro w hs
      have := hu w hs
      rwa [hex] at this
  · rename_i hw
    simp only [hw] at h
    exact ⟨keep _, by rw [← Act.put_comm a v undef h2]; exact h⟩
theorem wpAnyP_first {n i : Nat} {oi : Oper} {v : Value} {L : Array Bool → Act → HP → Prop} (hi : ops[i]? = some oi) (hsel : ∀ (j : Nat) (o : Oper) cs b, ops[j]? = some o → o.op ≠ .select cs b)
    (hs : Region.sinkB md ops n = true) (hc : Region.chainB md ops n = true) (hn : n < ops.size) (hin : i < n)
    (hdone : ∀ listed a M, L listed a M → ∀ j ∈ Region.ready md ops listed, n ≤ j) :
    ∀ (f : Nat) (listed : Array Bool) (a : Act) (M : HP), HeadInv md ops n listed →
      (∀ j oj, ops[j]? = some oj → j ≠ i → listed.getD j true = false → (∀ e ∈ oj.after, Region.binds md e = true → e.on ≠ i) → oi.apart ops oj = true) →
      i ∈ Region.ready md ops listed → YieldsP P g S ops oi v a →
      wpAnyP P g S Z md ops n L f (listed.setIfInBounds i true) (a.put oi.dst v) M → wpAnyP P g S Z md ops n L (f + 1) listed a M := by
  intro f
  induction f with
  | zero =>
    intro listed a M inv _ hr hy H
    have hun := (mem_ready.1 hr).1
    refine ⟨fun h => (by rw [h] at hr; cases hr), fun j hj => ?_⟩
    have hjn : j < n := by
      rcases Nat.lt_or_ge j n with h | h
      · exact h
      · exact absurd hj (tail_waits hs hc hn inv _ i rfl hin hun j h)
    refine ⟨hjn, ?_⟩
    by_cases hji : j = i
    · subst hji; exact hy.opP hi H
    · have := hdone _ _ _ H j (ready_mono hj hji)
      omega
  | succ f ih =>
    intro listed a M inv hfree hr hy H
    have hun := (mem_ready.1 hr).1
    refine ⟨fun h => (by rw [h] at hr; cases hr), fun j hj => ?_⟩
    have hjn : j < n := by
      rcases Nat.lt_or_ge j n with h | h
      · exact h
      · exact absurd hj (tail_waits hs hc hn inv _ i rfl hin hun j h)
    refine ⟨hjn, ?_⟩
    by_cases hji : j = i
    · subst hji; exact hy.opP hi H
    · have h1 := (H.2 j (ready_mono hj hji)).2
      obtain ⟨hjun, oj, hoj, hall⟩ := mem_ready.1 hj
      have hnot : ∀ e ∈ oj.after, Region.binds md e = true → e.on ≠ i := fun e he hb heq => by
        have h1 := hall e he hb
        rw [heq, getD_both hun] at h1
        cases h1
      have h2 := opP_put hoj (hfree j oj hoj hji hjun hnot) (fun cs b => hsel i oi cs b hi) (fun cs b => hsel j oj cs b hoj) hy h1
      have hfree' : ∀ k ok, ops[k]? = some ok → k ≠ i → (listed.setIfInBounds j true).getD k true = false →
          (∀ e ∈ ok.after, Region.binds md e = true → e.on ≠ i) → oi.apart ops ok = true := fun k ok hk hki hun hno => by
        refine hfree k ok hk hki ?_ hno
        by_cases hjk : j = k
        · subst hjk; exact hjun
        · rw [getD_set_ne true hjk] at hun; exact hun
      refine opP_mono (fun a' M' h3 => ih (listed.setIfInBounds j true) a' M' (inv.set hj hjn) hfree' (ready_mono hr (Ne.symm hji)) h3.1 ?_) h2
      rw [Array.setIfInBounds_comm _ _ hji]
      exact h3.2
end plain

/-! ### the judgements -/
/-- What is asked of a region, by a Bool: no select; the operations from n on stand in a row, behind all others. -/
def regionB (ops : Array Oper) (n : Nat) : Bool := Region.noSelect ops && decide (n < ops.size) && Region.sinkB .any ops n && Region.chainB .any ops n
def setAll (listed : Array Bool) : List Nat → Array Bool
  | [] => listed
  | i :: is => setAll (listed.setIfInBounds i true) is
/-- These may be taken first, one behind the other. -/
def takesB (ops : Array Oper) (n : Nat) : Array Bool → List Nat → Bool
  | _, [] => true
  | listed, i :: is => decide (i < n) && (Region.ready .any ops listed).contains i && Region.free .any ops listed i && takesB ops n (listed.setIfInBounds i true) is
def pickOps (ops : Array Oper) : List Nat → Option (List Oper)
  | [] => some []
  | i :: is => match ops[i]?, pickOps ops is with
    | some o, some l => some (o :: l)
    | _, _ => none
theorem pickOps_spec (ops : Array Oper) : ∀ (is : List Nat) (l : List Oper), pickOps ops is = some l → ∀ k : Nat, l[k]? = (is[k]?).bind fun i => ops[i]?
  | [], l, h, k => by injection h with h; subst h; simp
  | i :: is, l, h, k => by
    simp only [pickOps] at h
    split at h
    · rename_i o l' h1 h2
      injection h with h
      subst h
      cases k with
      | zero => simpa using h1.symm
      | succ k => simpa using pickOps_spec ops is l' h2 k
    · cases h
def dropOps : List Oper → Nat → Option (List Oper)
  | l, 0 => some l
  | _ :: l, n + 1 => dropOps l n
  | [], _ + 1 => none
theorem dropOps_spec : ∀ (l : List Oper) (n : Nat) (l' : List Oper), dropOps l n = some l' → l.drop n = l'
  | l, 0, l', h => by simp [dropOps] at h; simpa using h
  | _ :: l, n + 1, l', h => by simpa using dropOps_spec l n l' h
  | [], _ + 1, _, h => by cases h
/-- The rest stands in a row. -/
def TailL (C : Cx) (S : HP) (ops : Array Oper) (n : Nat) (Q : Post) : Array Bool → Act → HP → Prop := fun listed a M =>
  Region.seqB .any ops (ops.size - n) n listed = true ∧ ∀ w, Sat C.g w (S * M) → wpList C.P ops Q (ops.toList.drop n) a w

variable {C : Cx} {H H' A B F S M : HP} {e e' : Env} {Q : Post} {ops : Array Oper} {rest : List Oper} {c : Code} {listed : Array Bool} {n f f' : Nat} {is : List Nat}
variable {d : Tmp} {op : Op} {ty : TypeId} {pos : String} {af : Array Edge} {v u : Value} {P : Program} {dst : Option Tmp} {gd : Option (Nat × Bool)}

def PanZ (C : Cx) (Q : Post) : List PanicEntry → World → Prop := fun ch w => ∀ a : Act, a.tmps.size = C.n → a.defers = C.ds → Q (.panic ch) a w
/-- The state of a region that draws: what stands (S), what turns (M), the frame, what has come up. -/
structure Wr (C : Cx) (S M : HP) (e : Env) (ops : Array Oper) (n : Nat) (listed : Array Bool) (f : Nat) (Q : Post) : Prop where
  run : ∀ a, Fits a C.n C.ds e → HeadInv .any ops n listed → wpAnyP C.P C.g S (PanZ C Q) .any ops n (TailL C S ops n Q) f listed a M
/-- A row of quiet operations is taken. -/
structure Wt (C : Cx) (S M : HP) (e : Env) (ops : Array Oper) (n : Nat) (listed : Array Bool) (is : List Nat) (l : List Oper) (f : Nat) (Q : Post) : Prop where
  run : regionB ops n = true → takesB ops n listed is = true → (∀ k : Nat, l[k]? = (is[k]?).bind fun i => ops[i]?) → ∀ a, Fits a C.n C.ds e → HeadInv .any ops n listed → wpAnyP C.P C.g S (PanZ C Q) .any ops n (TailL C S ops n Q) (is.length + f) listed a M

theorem Wc.draws {id : Nat} {l : List Oper} (n : Nat) (hm : C.P.follows .mixedOrders = true) (hB : regionB l.toArray n = true) (hH : Ent H (S * M))
    (k : Wr C S M e l.toArray n (Array.replicate l.length false) n Q) : Wc C H e (.region id l.toArray true) Q := ⟨fun a w fi s => by
  simp only [regionB, Bool.and_eq_true, decide_eq_true_eq] at hB
  obtain ⟨⟨⟨hsel, hn⟩, hs⟩, hc⟩ := hB
  have inv0 : HeadInv .any l.toArray n (Array.replicate l.length false) :=
    ⟨by simp, fun j oj _ hl => (by rw [getD_replicate_false] at hl; cases hl), fun t _ ht => getD_in (by simpa using ht) (getD_replicate_false _ _)⟩
  refine wp_region_any hm ?_
  have e1 : (l.toArray.toList.drop n).length = l.toArray.size - n := by simp
  have := wpAny_of_P (P := C.P) (g := C.g) (S := S) (md := .any) (Q := Q) (k := l.toArray.size - n) (Z := PanZ C Q) (nn := C.n) (ds := C.ds) (fun _ _ hz => hz) (fun listed a A w hs hL => by
    have := wpAny_of_seq (md := .any) (Q' := Q) (l.toArray.toList.drop n) n listed a w (fun j => by simp [List.getElem?_drop]) (by rw [e1]; exact hL.1) (hL.2 w hs)
    rwa [e1] at this) n _ a M { w with drawn := w.drawn + 1 } fi.size fi.defers (s.ent hH).drew (k.run a fi inv0)
  have e : n + (l.toArray.size - n) = l.toArray.size := by omega
  rw [e] at this
  simpa using this⟩

theorem Wr.tail (hB : Region.seqB .any ops (ops.size - n) n listed = true) (hl : dropOps ops.toList n = some rest) (k : Wl C (S * M) e ops rest Q) : Wr C S M e ops n listed 0 Q :=
  ⟨fun a fi _ => ⟨hB, fun w s => dropOps_spec _ _ _ hl ▸ k.run a w fi s⟩⟩
theorem Wr.take {l : List Oper} (is : List Nat) (f : Nat) (hB : regionB ops n = true) (ht : takesB ops n listed is = true) (hf : is.length + f = f') (hl : pickOps ops is = some l) (k : Wt C S M e ops n listed is l f Q) : Wr C S M e ops n listed f' Q :=
  ⟨fun a fi inv => hf ▸ k.run hB ht (pickOps_spec ops is l hl) a fi inv⟩
theorem Wt.nil (k : Wr C S M e ops n listed f Q) : Wt C S M e ops n listed [] [] f Q := ⟨fun _ _ _ a fi inv => by simpa using k.run a fi inv⟩
theorem wt_step {i : Nat} {o : Oper} {l : List Oper} (hy : ∀ a, Fits a C.n C.ds e → YieldsP C.P C.g S ops o v a) (hp : ∀ a, Fits a C.n C.ds e → Fits (a.put o.dst v) C.n C.ds e') (k : Wt C S M e' ops n (listed.setIfInBounds i true) is l f Q) : Wt C S M e ops n listed (i :: is) (o :: l) f Q :=
  ⟨fun hB ht hl a fi inv => by
    simp only [takesB, Bool.and_eq_true, decide_eq_true_eq] at ht
    obtain ⟨⟨⟨hin, hr⟩, hf⟩, ht'⟩ := ht
    have hB' := hB
    simp only [regionB, Bool.and_eq_true, decide_eq_true_eq] at hB
    obtain ⟨⟨⟨hsel, hn⟩, hs⟩, hc⟩ := hB
    have h0 : ops[i]? = some o := by simpa using (hl 0).symm
    have hr' : i ∈ Region.ready .any ops listed := by simpa using hr
    have H' := k.run hB' ht' (fun j => by have := hl (j + 1); simpa using this) _ (hp a fi) (inv.set hr' hin)
    rw [List.length_cons, show is.length + 1 + f = (is.length + f) + 1 by omega]
    exact wpAnyP_first h0 (Region.noSelect_spec hsel) hs hc hn hin (fun listed' a' A' hL j hj => seqB_ready hL.1 j hj) (is.length + f) listed a M inv (Region.free_spec h0 hf) hr' (hy a fi) H'⟩
theorem quiet_of_val {o : Oper} {a : Act} {nn : Nat} {ds : List Deferred} {g : Gh} (h : ValOp P S e o v) (fi : Fits a nn ds e) : QuietP P g S o a v := fun Fr w s => by
  unfold Oper.quietAt
  rw [h.run _ fi.agrees g w (s.ent (Ent.left _ _))]
  exact ⟨rfl, rfl⟩
theorem quiet_of_call {a : Act} {nn : Nat} {ds : List Deferred} {g : Gh} {f : FuncId} {xs : List Operand} {vs : List Value} {ts : Array TypeId} {r : Value} (hx : evs e xs = some vs) (hs : Ctr P f vs A (fun v => pu (v = r) * A)) (ht : Take A S F) (fi : Fits a nn ds e) :
    QuietP P g S ⟨dst, .call ⟨.value (.func f), xs.toArray, ts⟩, ty, pos, af, gd⟩ a r := fun Fr w s => by
  unfold Oper.quietAt
  rw [run_call hs fi.agrees hx w]
  refine ⟨rfl, ?_⟩
  replace s := s.ent ((ht.to.frame Fr).trans (Ent.of_eq (sep_assoc _ _ _)))
  refine (hs.calls (F * Fr) g w s).mono fun e w' ⟨v, he, s'⟩ => ?_
  rw [sep_assoc] at s'
  obtain ⟨hv, s''⟩ := s'.pure
  subst hv
  exact ⟨he, by show Sat g w' (S * Fr); exact s''.ent ((Ent.of_eq (sep_assoc _ _ _).symm).trans (ht.back.frame Fr))⟩
theorem Wt.val {i : Nat} {l : List Oper} (hn : Nat.blt d C.n = true) (h : ValOp C.P S e ⟨some d, op, ty, pos, af, none⟩ v) (k : Wt C S M ((d, v) :: e) ops n (listed.setIfInBounds i true) is l f Q) :
    Wt C S M e ops n listed (i :: is) (⟨some d, op, ty, pos, af, none⟩ :: l) f Q :=
  wt_step (fun _ fi => .inl ⟨rfl, quiet_of_val h fi⟩) (fun _ fi => fi.put hn v) k
theorem Wt.call {i : Nat} {l : List Oper} {g : FuncId} {xs : List Operand} {vs : List Value} {ts : Array TypeId} {r : Value} (hn : Nat.blt d C.n = true) (hx : evs e xs = some vs) (hs : Ctr C.P g vs A (fun v => pu (v = r) * A)) (ht : Take A S F)
    (k : Wt C S M ((d, r) :: e) ops n (listed.setIfInBounds i true) is l f Q) :
    Wt C S M e ops n listed (i :: is) (⟨some d, .call ⟨.value (.func g), xs.toArray, ts⟩, ty, pos, af, none⟩ :: l) f Q :=
  wt_step (fun _ fi => .inl ⟨rfl, quiet_of_call hx hs ht fi⟩) (fun _ fi => fi.put hn r) k
theorem wanted_T {a : Act} {nn : Nat} {ds : List Deferred} {b : Bool} {j t : Nat} (fi : Fits a nn ds e) (hj : ((ops[j]?).bind (·.dst)) = some t) (ht : look e t = some (.bool b)) : Region.wanted ⟨dst, op, ty, pos, af, some (j, b)⟩ (yielded ops a.tmps) = true := by
  simp [Region.wanted, yielded, hj, fi.get ht (by simp [undef])]
theorem wanted_F {a : Act} {nn : Nat} {ds : List Deferred} {b : Bool} {j t : Nat} (fi : Fits a nn ds e) (hj : ((ops[j]?).bind (·.dst)) = some t) (ht : look e t = some (.bool (!b))) : Region.wanted ⟨dst, op, ty, pos, af, some (j, b)⟩ (yielded ops a.tmps) = false := by
  simp [Region.wanted, yielded, hj, fi.get (v := .bool (!b)) ht (by simp [undef])]
theorem wanted_U {a : Act} {nn : Nat} {ds : List Deferred} {b : Bool} {j t : Nat} (fi : Fits a nn ds e) (hj : ((ops[j]?).bind (·.dst)) = some t) (ht : look e t = some undef) : Region.wanted ⟨dst, op, ty, pos, af, some (j, b)⟩ (yielded ops a.tmps) = false := by
  have h1 := fi.look t _ ht
  have : (a.tmps[t]? = none) ∨ a.tmps[t]? = some undef := by
    rcases Nat.lt_or_ge t a.tmps.size with h2 | h2
    · right; simp [h2] at h1 ⊢; exact h1
    · left; exact Array.getElem?_eq_none h2
  rcases this with h | h <;> simp [Region.wanted, yielded, hj, h, undef]
theorem Wt.gT {i j t : Nat} {b : Bool} {l : List Oper} (hn : Nat.blt d C.n = true) (hj : ((ops[j]?).bind (·.dst)) = some t) (ht : look e t = some (.bool b)) (h : ValOp C.P S e ⟨some d, op, ty, pos, af, some (j, b)⟩ v) (k : Wt C S M ((d, v) :: e) ops n (listed.setIfInBounds i true) is l f Q) :
    Wt C S M e ops n listed (i :: is) (⟨some d, op, ty, pos, af, some (j, b)⟩ :: l) f Q :=
  wt_step (fun _ fi => .inl ⟨wanted_T fi hj ht, quiet_of_val h fi⟩) (fun _ fi => fi.put hn v) k
theorem Wt.gTcall {i j t : Nat} {b : Bool} {l : List Oper} {g : FuncId} {xs : List Operand} {vs : List Value} {ts : Array TypeId} {r : Value} (hn : Nat.blt d C.n = true) (hj : ((ops[j]?).bind (·.dst)) = some t) (hb : look e t = some (.bool b)) (hx : evs e xs = some vs) (hs : Ctr C.P g vs A (fun v => pu (v = r) * A)) (ht : Take A S F)
    (k : Wt C S M ((d, r) :: e) ops n (listed.setIfInBounds i true) is l f Q) :
    Wt C S M e ops n listed (i :: is) (⟨some d, .call ⟨.value (.func g), xs.toArray, ts⟩, ty, pos, af, some (j, b)⟩ :: l) f Q :=
  wt_step (fun _ fi => .inl ⟨wanted_T fi hj hb, quiet_of_call hx hs ht fi⟩) (fun _ fi => fi.put hn r) k
theorem Wt.gF {i j t : Nat} {b : Bool} {l : List Oper} (hn : Nat.blt d C.n = true) (hj : ((ops[j]?).bind (·.dst)) = some t) (ht : look e t = some (.bool (!b))) (k : Wt C S M ((d, undef) :: e) ops n (listed.setIfInBounds i true) is l f Q) :
    Wt C S M e ops n listed (i :: is) (⟨some d, op, ty, pos, af, some (j, b)⟩ :: l) f Q :=
  wt_step (fun _ fi => .inr ⟨wanted_F fi hj ht, rfl⟩) (fun _ fi => fi.put hn _) k
theorem Wt.gU {i j t : Nat} {b : Bool} {l : List Oper} (hn : Nat.blt d C.n = true) (hj : ((ops[j]?).bind (·.dst)) = some t) (ht : look e t = some undef) (k : Wt C S M ((d, undef) :: e) ops n (listed.setIfInBounds i true) is l f Q) :
    Wt C S M e ops n listed (i :: is) (⟨some d, op, ty, pos, af, some (j, b)⟩ :: l) f Q :=
  wt_step (fun _ fi => .inr ⟨wanted_U fi hj ht, rfl⟩) (fun _ fi => fi.put hn _) k
theorem Wt.bool {b : Bool} {l : List Oper} (t : Nat) (ht : look e t = some (.bool b)) (kt : b = true → Wt C S M ((t, .bool true) :: e) ops n listed is l f Q) (kf : b = false → Wt C S M ((t, .bool false) :: e) ops n listed is l f Q) : Wt C S M e ops n listed is l f Q :=
  ⟨fun hB h1 h2 a fi inv => by
    have fi' : Fits a C.n C.ds ((t, .bool b) :: e) := ⟨fi.size, fi.defers, fun s u hu => by
      simp only [look] at hu
      split at hu
      · rename_i hb; obtain rfl : t = s := Nat.eq_of_beq_eq_true hb; injection hu with hu; subst hu; exact fi.look _ _ ht
      · exact fi.look _ _ hu⟩
    cases b with
    | true => exact (kt rfl).run hB h1 h2 a fi' inv
    | false => exact (kf rfl).run hB h1 h2 a fi' inv⟩

/-- What comes up next, in any order: each of these. -/
structure Wm (C : Cx) (S M : HP) (e : Env) (ops : Array Oper) (n : Nat) (listed : Array Bool) (f : Nat) (Q : Post) (rs : List Nat) : Prop where
  run : ∀ a, Fits a C.n C.ds e → HeadInv .any ops n listed → ∀ i ∈ rs, i ∈ Region.ready .any ops listed → i < n ∧ opP C.P C.g S (PanZ C Q) ops i (wpAnyP C.P C.g S (PanZ C Q) .any ops n (TailL C S ops n Q) f (listed.setIfInBounds i true)) a M
theorem Wr.any (rs : List Nat) (f : Nat) (hr : Region.ready .any ops listed = rs) (hne : rs.isEmpty = false) (hf : f + 1 = f') (k : Wm C S M e ops n listed f Q rs) : Wr C S M e ops n listed f' Q :=
  ⟨fun a fi inv => by
    subst hf
    refine ⟨fun h => ?_, fun i hi => k.run a fi inv i (hr ▸ hi) hi⟩
    rw [h] at hr; subst hr; cases hne⟩
theorem Wm.nil : Wm C S M e ops n listed f Q [] := ⟨fun _ _ _ i hi => by cases hi⟩
theorem wm_step {i : Nat} {rs : List Nat} {o : Oper} {ι : Type} {vr : ι → Value} {N : ι → HP} (hi : ops[i]? = some o) (hg : o.guard = none) (hin : Nat.blt i n = true)
    (h : ∀ a, Fits a C.n C.ds e → GrowP C.P C.g S (PanZ C Q) o a M vr N) (hp : ∀ a x, Fits a C.n C.ds e → Fits (a.put o.dst (vr x)) C.n C.ds (match o.dst with | some d => (d, vr x) :: e | none => e))
    (k : ∀ x, Wr C S (N x) (match o.dst with | some d => (d, vr x) :: e | none => e) ops n (listed.setIfInBounds i true) f Q) (ks : Wm C S M e ops n listed f Q rs) : Wm C S M e ops n listed f Q (i :: rs) :=
  ⟨fun a fi inv j hj hr => by
    rcases List.mem_cons.1 hj with rfl | hj
    · have hin' : j < n := Nat.le_of_ble_eq_true hin
      refine ⟨hin', ?_⟩
      unfold opP
      simp only [hi]
      rw [if_pos (by simp [Region.wanted, hg])]
      exact .inr ⟨_, vr, N, h a fi, fun x => (k x).run _ (hp a x fi) (inv.set hr hin')⟩
    · exact ks.run a fi inv j hj hr⟩
/-- An operation that makes a block. -/
theorem Wm.al {ι : Type} {i : Nat} {rs : List Nat} {vr : ι → Value} {N : ι → HP} (hi : ops[i]? = some ⟨some d, op, ty, pos, af, none⟩) (hin : Nat.blt i n = true) (hd : Nat.blt d C.n = true)
    (h : AlOp C.P (S * M) e ⟨some d, op, ty, pos, af, none⟩ vr (fun r => N r * (S * M))) (k : ∀ r, Wr C S (N r * M) ((d, vr r) :: e) ops n (listed.setIfInBounds i true) f Q) (ks : Wm C S M e ops n listed f Q rs) : Wm C S M e ops n listed f Q (i :: rs) :=
  wm_step hi rfl hin (fun a fi w s => by
    obtain ⟨r, w', hr, s'⟩ := h.run _ fi.agrees _ w s
    rw [hr]
    exact ⟨r, rfl, by rw [sep_left_comm]; exact s'⟩) (fun a x fi => fi.put hd _) k ks
/-- A call that turns what it takes out of M. -/
theorem Wm.callM {ι : Type} {i : Nat} {rs : List Nat} {vr : ι → Value} {B : ι → HP} {g : FuncId} {xs : List Operand} {vs : List Value} {ts : Array TypeId} (hi : ops[i]? = some ⟨some d, .call ⟨.value (.func g), xs.toArray, ts⟩, ty, pos, af, none⟩) (hin : Nat.blt i n = true) (hd : Nat.blt d C.n = true)
    (hx : evs e xs = some vs) (hs : Ctr C.P g vs A (fun v => ex fun x => pu (v = vr x) * B x)) (ht : Take A M F) (k : ∀ x, Wr C S (B x * F) ((d, vr x) :: e) ops n (listed.setIfInBounds i true) f Q) (ks : Wm C S M e ops n listed f Q rs) : Wm C S M e ops n listed f Q (i :: rs) :=
  wm_step (N := fun x => B x * F) hi rfl hin (fun a fi w s => by
    rw [run_call hs fi.agrees hx w]
    replace s := s.ent ((ht.to.framel S).trans (Ent.of_eq (sep_left_comm _ _ _)))
    refine (hs.calls (S * F) C.g w s).mono fun e w' ⟨v, he, s'⟩ => ?_
    rw [ex_mul] at s'
    obtain ⟨x, s'⟩ := s'.exE
    rw [sep_assoc] at s'
    obtain ⟨hv, s2⟩ := s'.pure
    exact .inl ⟨x, hv ▸ he, by rw [sep_left_comm]; exact s2⟩) (fun a x fi => fi.put hd _) k ks
/-- A call that leaves what it takes out of S, and makes more. -/
theorem Wm.callS {ι : Type} {i : Nat} {rs : List Nat} {vr : ι → Value} {N : ι → HP} {g : FuncId} {xs : List Operand} {vs : List Value} {ts : Array TypeId} (hi : ops[i]? = some ⟨some d, .call ⟨.value (.func g), xs.toArray, ts⟩, ty, pos, af, none⟩) (hin : Nat.blt i n = true) (hd : Nat.blt d C.n = true)
    (hx : evs e xs = some vs) (hs : Ctr C.P g vs A (fun v => ex fun x => pu (v = vr x) * (N x * A))) (ht : Take A S F) (k : ∀ x, Wr C S (N x * M) ((d, vr x) :: e) ops n (listed.setIfInBounds i true) f Q) (ks : Wm C S M e ops n listed f Q rs) : Wm C S M e ops n listed f Q (i :: rs) :=
  wm_step (N := fun x => N x * M) hi rfl hin (fun a fi w s => by
    rw [run_call hs fi.agrees hx w]
    replace s := s.ent ((ht.to.frame M).trans (Ent.of_eq (sep_assoc _ _ _)))
    refine (hs.calls (F * M) C.g w s).mono fun e w' ⟨v, he, s'⟩ => ?_
    rw [ex_mul] at s'
    obtain ⟨x, s'⟩ := s'.exE
    rw [sep_assoc] at s'
    obtain ⟨hv, s2⟩ := s'.pure
    refine .inl ⟨x, hv ▸ he, ?_⟩
    exact s2.ent ((Ent.of_eq (by ac_rfl : N x * A * (F * M) = (A * F) * (N x * M))).trans (ht.back.frame _))) (fun a x fi => fi.put hd _) k ks

/-! ### a region that draws and is quiet throughout -/
structure Wq (C : Cx) (H : HP) (e : Env) (ops : Array Oper) (l : List Oper) (Q : Post) : Prop where
  run : ∀ a, Fits a C.n C.ds e → wpQuiet C.P ops (fun w => Sat C.g w H) (fun a' => ∀ w', Sat C.g w' H → Q .normal a' w') l a
theorem Wc.quiet {id : Nat} {l : List Oper} (hm : C.P.follows .mixedOrders = true) (hB : Region.lexB .any l.toArray = true) (k : Wq C H e l.toArray l Q) : Wc C H e (.region id l.toArray true) Q :=
  ⟨fun a _ fi s => wp_region_quiet (C := fun w => Sat C.g w H) hm hB s.drew (by simpa using k.run a fi)⟩
theorem Wq.nil (k : Wx C H e .normal Q) : Wq C H e ops [] Q := ⟨fun a fi w s => k.run a w fi s⟩
theorem wq_step {o : Oper} {l : List Oper} (hy : ∀ a, Fits a C.n C.ds e → YieldsP C.P C.g H ops o v a) (hp : ∀ a, Fits a C.n C.ds e → Fits (a.put o.dst v) C.n C.ds e') (k : Wq C H e' ops l Q) : Wq C H e ops (o :: l) Q :=
  ⟨fun a fi => by
    unfold wpQuiet
    rcases hy a fi with ⟨hw, hq⟩ | ⟨hw, rfl⟩
    · rw [if_pos hw]
      refine ⟨v, fun w s => ?_, k.run _ (hp a fi)⟩
      have h1 := hq emp w (s.ent (by rw [sep_comm]; exact Ent.emp _))
      unfold Oper.quietAt at h1 ⊢
      generalize (execOp a.eval o).run C.P w = r at *
      cases r with
      | ok x w' =>
        cases x <;> simp only [Oper.quietUpon] at h1 ⊢ <;> try exact h1
        obtain ⟨e1, hc⟩ := h1
        exact ⟨e1, hc.mono fun e w'' ⟨he, hs⟩ => ⟨he, hs.ent (Ent.left _ _)⟩⟩
      | halt x w' => simp only [Oper.quietUpon] at h1
    · rw [if_neg (by simp [hw])]
      exact k.run _ (hp a fi)⟩
theorem Wq.val {l : List Oper} (hn : Nat.blt d C.n = true) (h : ValOp C.P H e ⟨some d, op, ty, pos, af, none⟩ v) (k : Wq C H ((d, v) :: e) ops l Q) : Wq C H e ops (⟨some d, op, ty, pos, af, none⟩ :: l) Q :=
  wq_step (fun _ fi => .inl ⟨rfl, quiet_of_val h fi⟩) (fun _ fi => fi.put hn v) k
theorem Wq.call {l : List Oper} {g : FuncId} {xs : List Operand} {vs : List Value} {ts : Array TypeId} {r : Value} (hn : Nat.blt d C.n = true) (hx : evs e xs = some vs) (hs : Ctr C.P g vs A (fun v => pu (v = r) * A)) (ht : Take A H F) (k : Wq C H ((d, r) :: e) ops l Q) :
    Wq C H e ops (⟨some d, .call ⟨.value (.func g), xs.toArray, ts⟩, ty, pos, af, none⟩ :: l) Q :=
  wq_step (fun _ fi => .inl ⟨rfl, quiet_of_call hx hs ht fi⟩) (fun _ fi => fi.put hn r) k
theorem Wq.gT {j t : Nat} {b : Bool} {l : List Oper} (hn : Nat.blt d C.n = true) (hj : ((ops[j]?).bind (·.dst)) = some t) (ht : look e t = some (.bool b)) (h : ValOp C.P H e ⟨some d, op, ty, pos, af, some (j, b)⟩ v) (k : Wq C H ((d, v) :: e) ops l Q) :
    Wq C H e ops (⟨some d, op, ty, pos, af, some (j, b)⟩ :: l) Q :=
  wq_step (fun _ fi => .inl ⟨wanted_T fi hj ht, quiet_of_val h fi⟩) (fun _ fi => fi.put hn v) k
theorem Wq.gTcall {j t : Nat} {b : Bool} {l : List Oper} {g : FuncId} {xs : List Operand} {vs : List Value} {ts : Array TypeId} {r : Value} (hn : Nat.blt d C.n = true) (hj : ((ops[j]?).bind (·.dst)) = some t) (hb : look e t = some (.bool b)) (hx : evs e xs = some vs) (hs : Ctr C.P g vs A (fun v => pu (v = r) * A)) (ht : Take A H F) (k : Wq C H ((d, r) :: e) ops l Q) :
    Wq C H e ops (⟨some d, .call ⟨.value (.func g), xs.toArray, ts⟩, ty, pos, af, some (j, b)⟩ :: l) Q :=
  wq_step (fun _ fi => .inl ⟨wanted_T fi hj hb, quiet_of_call hx hs ht fi⟩) (fun _ fi => fi.put hn r) k
theorem Wq.gF {j t : Nat} {b : Bool} {l : List Oper} (hn : Nat.blt d C.n = true) (hj : ((ops[j]?).bind (·.dst)) = some t) (ht : look e t = some (.bool (!b))) (k : Wq C H ((d, undef) :: e) ops l Q) :
    Wq C H e ops (⟨some d, op, ty, pos, af, some (j, b)⟩ :: l) Q :=
  wq_step (fun _ fi => .inr ⟨wanted_F fi hj ht, rfl⟩) (fun _ fi => fi.put hn _) k
theorem Wq.gU {j t : Nat} {b : Bool} {l : List Oper} (hn : Nat.blt d C.n = true) (hj : ((ops[j]?).bind (·.dst)) = some t) (ht : look e t = some undef) (k : Wq C H ((d, undef) :: e) ops l Q) :
    Wq C H e ops (⟨some d, op, ty, pos, af, some (j, b)⟩ :: l) Q :=
  wq_step (fun _ fi => .inr ⟨wanted_U fi hj ht, rfl⟩) (fun _ fi => fi.put hn _) k
theorem Wq.bool {b : Bool} {l : List Oper} (t : Nat) (ht : look e t = some (.bool b)) (kt : b = true → Wq C H ((t, .bool true) :: e) ops l Q) (kf : b = false → Wq C H ((t, .bool false) :: e) ops l Q) : Wq C H e ops l Q :=
  ⟨fun a fi => by
    have fi' : Fits a C.n C.ds ((t, .bool b) :: e) := ⟨fi.size, fi.defers, fun s u hu => by
      simp only [look] at hu
      split at hu
      · rename_i hb; obtain rfl : t = s := Nat.eq_of_beq_eq_true hb; injection hu with hu; subst hu; exact fi.look _ _ ht
      · exact fi.look _ _ hu⟩
    cases b with
    | true => exact (kt rfl).run a fi'
    | false => exact (kf rfl).run a fi'⟩
end Go.Sl
/- Own layer, 6: new memory: variables, struct values, slices of the call's own; append. -/
namespace Go.Sl
variable {C : Cx} {H H' A B F : HP} {e e' : Env} {Q : Post} {ops : Array Oper} {rest : List Oper} {c : Code}
variable {d : Tmp} {op : Op} {ty : TypeId} {pos : String} {af : Array Edge} {v u : Value} {P : Program} {dst : Option Tmp} {gd : Option (Nat × Bool)}

/-! ### a new variable -/
theorem M.alloc {t : TypeId} {z : List Value} (hz : Zero P t z) : AlOp P H e ⟨dst, .alloc t, ty, pos, af, gd⟩ (fun r => .pointer (some ⟨r, 0, none⟩)) (fun r => row r t z * H) :=
  ⟨fun ρ h g w s => by
    obtain ⟨v, hv, hc⟩ := hz.run w
    exact ⟨w.heap.size, w.alloc (.cells z.toArray t), by simp [execOp, Instr.alloc, hv, newVar, newRow, hc], s.new _⟩⟩
def cellsL : Value → List Value
  | .agg cs => cs.toList
  | v => [v]
theorem cellsL_eq (v : Value) : v.cells = (cellsL v).toArray := by cases v <;> simp [Value.cells, cellsL]
theorem M.box {t : TypeId} {x : Operand} {l : List Value} (hx : ev e x = some v) (hl : cellsL v = l) : AlOp P H e ⟨dst, .box t x, ty, pos, af, gd⟩ (fun r => .pointer (some ⟨r, 0, none⟩)) (fun r => row r t l * H) :=
  ⟨fun ρ h g w s => ⟨w.heap.size, w.alloc (.cells l.toArray t), by simp [execOp, h x _ hx, Instr.box, newVar, newRow, cellsL_eq, hl], s.new _⟩⟩

/-! ### struct values -/
def fillL (place : Nat → Option (Nat × Nat)) : List Value → List (Nat × List Value) → Option (List Value)
  | l, [] => some l
  | l, (i, cs) :: ps => match place i with
    | some (off, size) => match Nat.beq cs.length size && Nat.ble (off + cs.length) l.length with
      | true => match updN l off cs with
        | some l' => fillL place l' ps
        | none => none
      | false => none
    | none => none
theorem foldl_set : ∀ (cs : List Value) (l : List Value) (off k : Nat) (l' : List Value), updN l (off + k) cs = some l' →
    ((cs.zipIdx k).foldl (fun (acc : Array Value) (p : Value × Nat) => acc.setIfInBounds (off + p.2) p.1) l.toArray) = l'.toArray
  | [], l, off, k, l', h => by injection h with h; subst h; rfl
  | v :: cs, l, off, k, l', h => by
    simp only [updN] at h
    split at h
    · rename_i m hm
      obtain ⟨rfl, hk⟩ := upd_spec _ _ _ _ hm
      simp only [List.zipIdx_cons, List.foldl_cons]
      have := foldl_set cs (l.set (off + k) v) off (k + 1) l' (by rw [← Nat.add_assoc]; exact h)
      simpa using this
    · cases h
theorem fill_spec (place : Nat → Option (Nat × Nat)) : ∀ (ps : List (Nat × Value)) (l l' : List Value), fillL place l (ps.map fun p => (p.1, cellsL p.2)) = some l' → Instr.fill place l.toArray ps = some l'.toArray
  | [], l, l', h => by injection h with h; subst h; rfl
  | (i, v) :: ps, l, l', h => by
    simp only [List.map_cons, fillL] at h
    split at h
    · rename_i off size hp
      split at h
      · rename_i hb
        split at h
        · rename_i m hm
          simp only [Bool.and_eq_true] at hb
          have hsz : (cellsL v).length = size := Nat.eq_of_beq_eq_true hb.1
          have hfit : ¬ (off + (cellsL v).length > l.length) := by have := Nat.le_of_ble_eq_true hb.2; omega
          have ih := fill_spec place ps m l' h
          have hf := foldl_set (cellsL v) l off 0 m (by simpa using hm)
          simp only [Instr.fill, hp, cellsL_eq, List.size_toArray, hsz]
          simp only [hsz] at hfit
          simp only [ne_eq, not_true_eq_false, decide_false, Bool.false_or, decide_eq_true_eq, if_neg hfit]
          simpa [hf] using ih
        · cases h
      · cases h
    · cases h
/-- What is asked of a struct's type, to build values of it: the zero value's cells; where each field lies, and its cells. -/
structure Bld (P : Program) (t : TypeId) (z : List Value) (pl : List (Nat × Nat)) : Prop where
  run : ∀ (w : World) (ps : List (Nat × Value)) (l' : List Value), fillL (fun i => pl[i]?) z (ps.map fun p => (p.1, cellsL p.2)) = some l' → (Instr.build t ps.toArray).run P w = .ok (.agg l'.toArray) w
def placesOf (P : Program) (fs : List Field) : Option (List (Nat × Nat)) := fs.mapM fun f => (P.info? f.type).map fun i => (f.offset, i.size)
theorem run_places {w : World} : ∀ (fs : List Field) (pl : List (Nat × Nat)), placesOf P fs = some pl → (fs.mapM fun f => (do pure (f.offset, ← sizeOf f.type) : Sem (Nat × Nat))).run P w = .ok pl w
  | [], pl, h => by simp [placesOf] at h; subst h; rfl
  | f :: fs, pl, h => by
    simp only [placesOf, List.mapM_cons, Option.bind_eq_bind] at h
    cases hi : P.info? f.type with
    | none => simp [hi] at h
    | some i =>
      cases hr : (fs.mapM fun f => (P.info? f.type).map fun i => (f.offset, i.size)) with
      | none => simp [hi, hr] at h
      | some ps =>
        simp [hi, hr] at h
        subst h
        have ih := run_places (w := w) fs ps hr
        simp [sizeOf, typeInfo, hi] at ih ⊢
        simp [ih]
theorem Bld.mk' {t : TypeId} {fs : List Field} {z : List Value} {pl : List (Nat × Nat)} (hu : P.underlying t = some (.struct fs.toArray)) (hz : Zero P t z) (hp : placesOf P fs = some pl) : Bld P t z pl := ⟨fun w ps l' h => by
  obtain ⟨v, hv, hc⟩ := hz.run w
  have h1 := fill_spec (fun i => pl[i]?) ps z l' h
  have h2 := run_places (P := P) (w := w) fs pl hp
  simp only [Instr.build, Sem.run_bind, hv, Result.andThen_ok, run_underlying hu, hc, List.mapM_toArray, h2, Sem.run_map]
  simp only [List.getElem?_toArray, List.toList_toArray, h1]
  rfl⟩
def evParts (e : Env) : List (Nat × Operand) → Option (List (Nat × Value))
  | [] => some []
  | (i, x) :: ps => match ev e x, evParts e ps with
    | some v, some vs => some ((i, v) :: vs)
    | _, _ => none
theorem evParts_spec {ρ : Operand → Value} (h : Agrees ρ e) : ∀ (ps : List (Nat × Operand)) (vs : List (Nat × Value)), evParts e ps = some vs → (ps.map fun (i, x) => (i, ρ x)) = vs
  | [], vs, hv => by simp [evParts] at hv; simp [hv]
  | (i, x) :: ps, vs, hv => by
    unfold evParts at hv
    split at hv
    · rename_i v ws h1 h2
      injection hv with hv
      subst hv
      simp [h x v h1, evParts_spec h ps ws h2]
    · cases hv
def cellParts : List (Nat × Value) → List (Nat × List Value)
  | [] => []
  | (i, v) :: ps => (i, cellsL v) :: cellParts ps
theorem cellParts_eq : ∀ (ps : List (Nat × Value)), cellParts ps = ps.map fun p => (p.1, cellsL p.2)
  | [] => rfl
  | (i, v) :: ps => by simp [cellParts, cellParts_eq ps]
theorem V.build {t : TypeId} {z : List Value} {pl : List (Nat × Nat)} {ps : List (Nat × Operand)} {vs : List (Nat × Value)} {l : List Value} (hb : Bld P t z pl) (hx : evParts e ps = some vs) (hl : fillL (fun i => pl[i]?) z (cellParts vs) = some l) :
    ValOp P H e ⟨dst, .build t ps.toArray, ty, pos, af, gd⟩ (.agg l.toArray) :=
  ⟨fun ρ h g w s => by
    have h1 := evParts_spec h ps vs hx
    rw [cellParts_eq] at hl
    have h2 := hb.run w vs l hl
    simp only [execOp, List.map_toArray, h1, Sem.run_bind, h2]
    rfl⟩

/-! ### a new slice, its elements written out -/
theorem M.slice {t el : TypeId} {n m : Nat} {z1 z : List Value} {ps : List (Nat × Operand)} {vs : List (Nat × Value)} {l : List Value} (ht : P.underlying t = some (.slice el)) (hs : Size P el m) (hz : Zero P el z1) (hx : evParts e ps = some vs)
    (hlt : n * m ≤ 16777216) (hzl : (List.range (n * m)).map (fun i => z1.toArray[i % z1.length]!) = z) (hl : fillL (fun i => some (i * m, m)) z (cellParts vs) = some l) :
    AlOp P H e ⟨dst, .buildSlice t n ps.toArray, ty, pos, af, gd⟩ (fun r => .slice (some ⟨r, 0, none⟩) n n) (fun r => row r el l * H) :=
  ⟨fun ρ h g w s => by
    obtain ⟨v, hv, hc⟩ := hz.run w
    have h1 := evParts_spec h ps vs hx
    rw [cellParts_eq] at hl
    have h2 := fill_spec (fun i => some (i * m, m)) vs z l hl
    have hle : ¬ (n * m > 2 ^ 24) := by omega
    have hz' : (Array.range (n * m)).map (fun i => z1.toArray[i % z1.toArray.size]!) = z.toArray := by
      rw [← hzl]; apply Array.ext'; simp [Array.toList_range]
    refine ⟨w.heap.size, w.alloc (.cells l.toArray el), ?_, s.new _⟩
    by_cases h0 : n * m = 0
    · have hz0 : z = [] := by rw [← hzl, h0]; rfl
      subst hz0
      simp only [execOp, List.map_toArray, h1, Instr.buildSlice, Sem.run_bind, run_underlying ht, Result.andThen_ok, hs.size, if_neg hle, if_pos h0, Sem.run_pure, h0]
      simp [Array.range_zero', h2, newRow]
    · simp only [execOp, List.map_toArray, h1, Instr.buildSlice, Sem.run_bind, run_underlying ht, Result.andThen_ok, hs.size, if_neg hle, if_neg h0, Sem.run_pure, hv, hc, hz', List.toList_toArray, h2]
      simp [newRow]⟩
end Go.Sl
/- Own layer, 7: slices that the call owns; append; slicing; copies. -/
namespace Go.Sl
variable {C : Cx} {H H' A B F : HP} {e e' : Env} {Q : Post} {ops : Array Oper} {rest : List Oper} {c : Code}
variable {d : Tmp} {op : Op} {ty : TypeId} {pos : String} {af : Array Edge} {v u : Value} {P : Program} {dst : Option Tmp} {gd : Option (Nat × Bool)}

/-- A slice type's elements: the type, how many cells and bytes, the zero value's cells. -/
structure El (P : Program) (t el : TypeId) (m by_ : Nat) (z : List Value) : Prop where
  under : P.underlying t = some (.slice el)
  info : ∃ i zv, P.info? el = some i ∧ i.size = m ∧ i.bytes = by_ ∧ i.zero = some zv ∧ zv.cells = z.toArray
  len : z.length = m
theorem El.mk' {t el : TypeId} {m by_ : Nat} {z : List Value} (h1 : P.underlying t = some (.slice el)) (h2 : (P.info? el).map (fun i => (i.size, i.bytes, i.zero.map (·.cells))) = some (m, by_, some z.toArray)) (h3 : z.length = m) : El P t el m by_ z :=
  ⟨h1, by
    cases hi : P.info? el with
    | none => simp [hi] at h2
    | some i =>
      simp [hi] at h2
      obtain ⟨a, b, zv, hz, hc⟩ := h2
      exact ⟨i, zv, rfl, a, b, hz, hc⟩, h3⟩
theorem El.size {t el : TypeId} {m by_ : Nat} {z : List Value} (h : El P t el m by_ z) : Size P el m := ⟨fun w => by
  obtain ⟨i, zv, hi, h1, _⟩ := h.info
  simp [sizeOf, typeInfo, hi, h1]⟩

/-- A slice of n elements of m cells each, with these cells, whose whole array the assertion has. -/
def ownIn (el : TypeId) (m : Nat) (v : Value) (n : Nat) (xs : List Value) : Option (Nat × Nat × List Value) → HP
  | none => pu (v = .slice none 0 0 ∧ n = 0 ∧ xs = [])
  | some (r, cap, cur) => pu (v = .slice (some ⟨r, 0, none⟩) n cap ∧ n ≤ cap ∧ cap ≤ maxLen ∧ cur.length = cap * m ∧ cur.take (n * m) = xs ∧ xs.length = n * m) * row r el cur
def own (el : TypeId) (m : Nat) (v : Value) (n : Nat) (xs : List Value) : HP := ex fun o => ownIn el m v n xs o
theorem Ent.own_nil (el : TypeId) (m : Nat) (A : HP) : Ent A (own el m (.slice none 0 0) 0 [] * A) := by
  rw [own, ex_mul]
  exact Ent.ex none (Ent.pure ⟨rfl, rfl, rfl⟩)
/-- A block written out is owned. -/
theorem Ent.own_row {el : TypeId} {m n cap r : Nat} {cur xs : List Value} (A : HP) (h1 : n ≤ cap) (h2 : cap ≤ maxLen) (h3 : cur.length = cap * m) (h4 : cur.take (n * m) = xs) : Ent (row r el cur * A) (own el m (.slice (some ⟨r, 0, none⟩) n cap) n xs * A) := by
  rw [own, ex_mul]
  refine Ent.ex (some (r, cap, cur)) ?_
  rw [ownIn, sep_assoc]
  refine Ent.pure ⟨rfl, h1, h2, h3, h4, ?_⟩
  subst h4
  rw [List.length_take, h3]
  exact Nat.min_eq_left (Nat.mul_le_mul_right m h1)

/-- The bytes of a string, as cells. -/
def bytesV (l : List UInt8) : List Value := l.map fun b => .int .u8 b.toNat
@[simp] theorem bytesV_length (l : List UInt8) : (bytesV l).length = l.length := by simp [bytesV]
@[simp] theorem bytesV_append (a b : List UInt8) : bytesV (a ++ b) = bytesV a ++ bytesV b := by simp [bytesV]

/-- What is appended: so many elements, these cells, whatever else has been made. -/
structure Src (P : Program) (H : HP) (xt : TypeId) (x : Value) (m n : Nat) (news : List Value) : Prop where
  ty : (∃ el', P.underlying xt = some (.slice el')) ∨ P.underlying xt = some .string
  len : ∀ w, (Builtin.lenOf x).run P w = .ok n w
  pre : ∀ k, k ≤ n → ∀ g w, Sat g w H → (Builtin.firstCells m k x).run P w = .ok (news.take (k * m)).toArray w
  size : news.length = n * m
  one : ∀ v ∈ news, v.oneCell' = true
theorem Src.cells {P : Program} {H : HP} {xt : TypeId} {x : Value} {m n : Nat} {news : List Value} (h : Src P H xt x m n news) (g : Gh) (w : World) (s : Sat g w H) : (Builtin.firstCells m n x).run P w = .ok news.toArray w := by
  have := h.pre n (Nat.le_refl _) g w s
  rwa [← h.size, List.take_length] at this
theorem Src.row {xt el' : TypeId} {r o n cap m : Nat} {l news : List Value} {t' : TypeId} {z : Nat × Nat} (ht : P.underlying xt = some (.slice el')) [i : Rd r H (.cells l.toArray t' z)] (hg : getN l o (n * m) = some news) (h1 : oneCells news = true) : Src P H xt (.slice (some ⟨r, o, none⟩) n cap) m n news where
  ty := .inl ⟨_, ht⟩
  len := fun w => rfl
  pre := fun k hk g w s => by
    obtain ⟨e1, e2⟩ := getN_spec _ l o news hg
    refine run_loadCells_heap (s.get (r := r)) ?_ fun j u hj => ?_
    · rw [List.length_take, e1]; exact Nat.min_eq_left (Nat.mul_le_mul_right m hk)
    · rw [List.getElem?_take] at hj
      split at hj
      · exact e2 j u hj
      · cases hj
  size := (getN_spec _ l o news hg).1
  one := oneCells_spec news h1
theorem Src.str {xt : TypeId} {s : ByteArray} (ht : P.underlying xt = some .string) : Src P H xt (.string s) 1 s.size (bytesV s.data.toList) where
  ty := .inr ht
  len := fun w => rfl
  pre := fun k hk g w _ => by
    simp only [Builtin.firstCells, Sem.run_pure]
    congr 1
    apply Array.ext'
    simp [bytesV, List.map_take]
  size := by simp [bytesV]
  one := fun v hv => by
    simp only [bytesV, List.mem_map] at hv
    obtain ⟨b, _, rfl⟩ := hv
    rfl
theorem Src.nil {xt el' : TypeId} {m : Nat} (ht : P.underlying xt = some (.slice el')) : Src P H xt (.slice none 0 0) m 0 [] where
  ty := .inl ⟨_, ht⟩
  len := fun w => rfl
  pre := fun k hk g w _ => by simp [Builtin.firstCells]
  size := by simp
  one := fun v hv => by cases hv
/-- Of a slice that is owned: its cells. -/
theorem Src.own {xt el' el : TypeId} {n m : Nat} {v : Value} {xs : List Value} {R : HP} (ht : P.underlying xt = some (.slice el')) (hH : Take (Sl.own el m v n xs) H R) (h1 : ∀ v ∈ xs, v.oneCell' = true) (hs : xs.length = n * m) (hl : ∃ a cap, v = .slice a n cap) : Src P H xt v m n xs where
  ty := .inl ⟨_, ht⟩
  len := fun w => by obtain ⟨a, cap, rfl⟩ := hl; rfl
  pre := fun k hk g w s => by
    replace s := s.ent hH.to; rw [Sl.own, ex_mul] at s
    obtain ⟨o, s⟩ := s.exE
    cases o with
    | none =>
      obtain ⟨⟨rfl, rfl, rfl⟩, _⟩ := s.pure
      simp [Builtin.firstCells]
    | some o =>
      obtain ⟨r, cap, cur⟩ := o
      rw [ownIn, sep_assoc] at s
      obtain ⟨⟨rfl, h2, h3, h4, h5, h6⟩, s⟩ := s.pure
      refine run_loadCells_heap (s.get (r := r)) ?_ fun j u hj => ?_
      · rw [List.length_take, hs]; exact Nat.min_eq_left (Nat.mul_le_mul_right m hk)
      · subst h5
        rw [List.getElem?_take] at hj
        simp only [Nat.zero_add]
        split at hj
        · rw [List.getElem?_take] at hj
          split at hj
          · exact hj
          · cases hj
        · cases hj
  size := hs
  one := h1

theorem take_append_len {α : Type} (a b : List α) {n : Nat} (h : a.length = n) : (a ++ b).take n = a := by subst h; simp
theorem size_zeroL (z : List Value) (n : Nat) : (Builtin.zeroCells z.toArray n).size = n * z.length := by simp [Builtin.zeroCells]
theorem own_new {w1 : World} {g : Gh} {el : TypeId} {m n k old : Nat} {z xs news : List Value} (hz : z.length = m) (h1 : xs.length = n * m) (h2 : news.length = k * m) (hm : n + k ≤ maxLen) (s : Sat g w1 F) :
    Sat g (w1.drew.alloc (.cells (xs.toArray ++ news.toArray ++ Builtin.zeroCells z.toArray (grownCap w1 (n + k) old el - (n + k))) el)) (own el m (.slice (some ⟨w1.heap.size, 0, none⟩) (n + k) (grownCap w1 (n + k) old el)) (n + k) (xs ++ news) * F) := by
  have hge := grownCap_ge w1 (n + k) old el
  have hcm := grownCap_le_maxLen w1 (n + k) old el hm
  have hs := s.drew.new (.cells (xs.toArray ++ news.toArray ++ Builtin.zeroCells z.toArray (grownCap w1 (n + k) old el - (n + k))) el)
  have e1 : xs.toArray ++ news.toArray ++ Builtin.zeroCells z.toArray (grownCap w1 (n + k) old el - (n + k)) = (xs ++ news ++ (Builtin.zeroCells z.toArray (grownCap w1 (n + k) old el - (n + k))).toList).toArray := by
    apply Array.ext'; simp
  rw [e1] at hs ⊢
  refine hs.ent (Ent.own_row F hge hcm ?_ ?_)
  · simp only [List.length_append, Array.length_toList, size_zeroL, hz, h1, h2, ← Nat.add_mul]
    congr 1; omega
  · exact take_append_len _ _ (by simp [h1, h2, Nat.add_mul])
theorem run_append_sl {w : World} {g : Gh} {t el xt : TypeId} {m by_ k n : Nat} {z xs news : List Value} {x : Value} (he : El P t el m by_ z) (hx : Src P F xt x m k news)
    (hb : (n + k) * by_ ≤ 140737488355328) (hm : n + k ≤ maxLen) (s : Sat g w (own el m v n xs * F)) :
    ∃ v' w', (Builtin.append_ #[t, xt] ty #[v, x]).run P w = .ok v' w' ∧ Sat g w' (own el m v' (n + k) (xs ++ news) * F) := by
  obtain ⟨i, zv, hi, hsz, hby, hz, hzc⟩ := he.info
  have h63 : ¬ (9223372036854775807 < ((n : Int) + (k : Int))) := by simp only [maxLen] at hm; omega
  have hsF : Sat g w F := s.ent (Ent.right _ _)
  have hcell : (Builtin.firstCells m k x).run P w = .ok news.toArray w := hx.cells g w hsF
  have hcell' : (Builtin.firstCells m k x).run P w.drew = .ok news.toArray w.drew := hx.cells g w.drew hsF.drew
  have s0 := s
  rw [own, ex_mul] at s
  obtain ⟨o, s⟩ := s.exE
  cases o with
  | none =>
    obtain ⟨⟨rfl, rfl, rfl⟩, s⟩ := s.pure
    by_cases hk : k = 0
    · subst hk
      have hn : news = [] := List.eq_nil_of_length_eq_zero (by simpa using hx.size)
      subst hn
      refine ⟨.slice none 0 0, w, ?_, s0⟩
      rcases hx.ty with ⟨el', hxt⟩ | hxt <;> simp [Builtin.append_, run_underlying he.under, run_underlying hxt, sizeOf, typeInfo, hi, hsz, hx.len, hcell]
    · have h63' : ¬ (9223372036854775807 < (k : Int)) := by omega
      have h48 : ¬ (281474976710656 < Builtin.nextslicecap k 0 * by_) := by rw [nextslicecap_zero (by omega)]; simp only [Nat.zero_add] at hb; omega
      have hnew := own_new (el := el) (n := 0) (k := k) (old := 0) (xs := []) he.len (by simp) hx.size hm hsF
      refine ⟨_, _, ?_, hnew⟩
      rcases hx.ty with ⟨el', hxt⟩ | hxt <;> simp [Builtin.append_, run_underlying he.under, run_underlying hxt, sizeOf, typeInfo, zeroValue, hi, hz, hsz, hby, hzc, hx.len, hk, h63', h48, Question.forced, run_firstCells_none, hcell', newRow, grownCap]
  | some o =>
    obtain ⟨r, cap, cur⟩ := o
    rw [ownIn, sep_assoc] at s
    obtain ⟨⟨rfl, h2, h3, h4, h5, h6⟩, s2⟩ := s.pure
    have hg := s2.get (r := r)
    by_cases hroom : n + k ≤ cap
    · have hfit : n * m + 0 + news.length ≤ cur.toArray.size := by
        rw [hx.size, List.size_toArray, h4, Nat.add_zero, ← Nat.add_mul]; exact Nat.mul_le_mul_right _ hroom
      have hst := run_storeCells_at P r (n * m) el news 0 cur.toArray w hg hfit hx.one
      simp only [Nat.add_zero] at hst
      have hset := s2.set (r := r) (w' := w.setRow r (cur.take (n * m) ++ news ++ cur.drop (n * m + news.length)).toArray) rfl rfl (setRow_heap w r _ _ _ _ hg) (fun q hq => setRow_other w r q _ hq)
      refine ⟨.slice (some ⟨r, 0, none⟩) (n + k) cap, _, ?_, hset.ent (Ent.own_row F hroom h3 ?_ ?_)⟩
      · rcases hx.ty with ⟨el', hxt⟩ | hxt <;> simp [Builtin.append_, run_underlying he.under, run_underlying hxt, sizeOf, typeInfo, hi, hsz, hx.len, hroom, hcell, Addr.add_lit, hst]
      · have : n * m + k * m ≤ cap * m := by rw [← Nat.add_mul]; exact Nat.mul_le_mul_right _ hroom
        simp only [List.length_append, List.length_take, List.length_drop, h4, hx.size]
        omega
      · rw [h5]
        exact take_append_len _ _ (by simp [h6, hx.size, Nat.add_mul])
    · have h48 : ¬ (281474976710656 < Builtin.nextslicecap (n + k) cap * by_) := by
        have := growslice_fits (need := n + k) (old := cap) (bytes := by_) (by omega) hb
        omega
      have hold : (Builtin.firstCells m n (.slice (some ⟨r, 0, none⟩) n cap)).run P w.drew = .ok xs.toArray w.drew :=
        run_loadCells_heap (w := w.drew) hg h6 (fun j u hj => by
          subst h5
          rw [List.getElem?_take] at hj
          simp only [Nat.zero_add]
          split at hj
          · exact hj
          · cases hj)
      have hnew := own_new (el := el) (old := cap) he.len h6 hx.size hm hsF
      refine ⟨_, _, ?_, hnew⟩
      rcases hx.ty with ⟨el', hxt⟩ | hxt <;> simp [Builtin.append_, run_underlying he.under, run_underlying hxt, sizeOf, typeInfo, zeroValue, hi, hz, hsz, hby, hzc, hx.len, hroom, h63, h48, Question.forced, hcell', hold, newRow, grownCap] <;>
        (congr 2; apply Array.ext'; simp [List.append_assoc])
theorem X.append {t el xt : TypeId} {m by_ k n : Nat} {z xs news : List Value} {x : Value} {s y : Operand} (he : El P t el m by_ z) (hs : ev e s = some v) (hy : ev e y = some x) (ht : Take (own el m v n xs) H F) (hx : Src P F xt x m k news)
    (hm : n + k ≤ maxLen) (hb : (n + k) * by_ ≤ 140737488355328) :
    ExOp P H e ⟨dst, .call ⟨.builtin .append, #[s, y], #[t, xt]⟩, ty, pos, af, gd⟩ (fun v' => own el m v' (n + k) (xs ++ news) * F) :=
  ⟨fun ρ h g w sa => by
    replace sa := sa.ent ht.to
    obtain ⟨v', w', hr, s'⟩ := run_append_sl (ty := ty) he hx hb hm sa
    refine ⟨v', w', ?_, s'⟩
    simp [execOp, resolve, invoke, builtin, h s _ hs, h y _ hy, hr]⟩

/-! ### slicing -/
/-- The place of a slice of a slice. -/
def soff (o l cap m : Nat) : Nat := if cap = l then o else o + l * m
theorem soff_lt {o l cap m : Nat} (h : l < cap) : soff o l cap m = o + l * m := by unfold soff; rw [if_neg (by omega)]
def evo (e : Env) : Option Operand → Option (Option Value)
  | none => some none
  | some x => match ev e x with
    | some v => some (some v)
    | none => none
theorem Agrees.opt {ρ : Operand → Value} (h : Agrees ρ e) {x : Option Operand} {v : Option Value} (hx : evo e x = some v) : x.map ρ = v := by
  cases x with
  | none => injection hx
  | some x =>
    simp only [evo] at hx
    cases hu : ev e x with
    | none => rw [hu] at hx; cases hx
    | some u => rw [hu] at hx; injection hx with hx; subst hx; simp [h x u hu]
/-- A bound that is there or not. -/
def bnd : Option Value → Nat → Nat → Prop
  | none, dflt, n => n = dflt
  | some (.int _ i), _, n => i = (n : Int)
  | _, _, _ => False
theorem run_bnd {w : World} {v : Option Value} {dflt n y : Nat} {cd : BoundsCode} (h : bnd v dflt n) (hn : v = none ∨ n ≤ y) : (match v with | some v => Instr.sliceBound v y cd | none => pure dflt).run P w = .ok n w := by
  unfold bnd at h
  split at h
  · subst h; rfl
  · rename_i k i
    rcases hn with hn | hn
    · cases hn
    · subst h
      simp only [Instr.sliceBound, asIntOf]
      have h1 : (0 : Int) ≤ (n : Int) ∧ (n : Int) ≤ (y : Int) := by omega
      simp [h1.2]
  · exact h.elim
theorem run_sliceBounds {w : World} {b : Bool} {len cap l h : Nat} {lo hi : Option Value} (h1 : bnd lo 0 l) (h2 : bnd hi len h) (h3 : h ≤ cap) (h4 : l ≤ h) : (Instr.sliceBounds b len cap lo hi none).run P w = .ok (l, h, cap) w := by
  have e2 := run_bnd (P := P) (w := w) (y := cap) (cd := if b then .sliceAcap else .sliceAlen) h2 (.inr h3)
  have e1 := run_bnd (P := P) (w := w) (y := h) (cd := .sliceB) h1 (.inr h4)
  cases lo <;> cases hi <;> simp [Instr.sliceBounds] at e1 e2 ⊢ <;> simp [e1, e2]
theorem V.slice {t el : TypeId} {r o len cap l h m : Nat} {x : Operand} {lo hi : Option Operand} {vl vh : Option Value} (hx : ev e x = some (.slice (some ⟨r, o, none⟩) len cap)) (ht : P.underlying t = some (.slice el)) (hs : Size P el m) (hlo : evo e lo = some vl) (hhi : evo e hi = some vh)
    (h1 : bnd vl 0 l) (h2 : bnd vh len h) (h3 : h ≤ cap) (h4 : l ≤ h) : ValOp P H e ⟨dst, .slice t x lo hi none, ty, pos, af, gd⟩ (.slice (some ⟨r, soff o l cap m, none⟩) (h - l) (cap - l)) :=
  ⟨fun ρ hh g w s => by
    have := run_sliceBounds (P := P) (w := w) (b := true) h1 h2 h3 h4
    simp only [execOp, hh x _ hx, hh.opt hlo, hh.opt hhi, Instr.sliceAt, Option.map_none]
    simp [run_underlying ht, Instr.slice, this, hs.size, soff]
    split <;> simp [addr_add]⟩
theorem V.sliceN {t el : TypeId} {len cap l h m : Nat} {x : Operand} {lo hi : Option Operand} {vl vh : Option Value} (hx : ev e x = some (.slice none len cap)) (ht : P.underlying t = some (.slice el)) (hs : Size P el m) (hlo : evo e lo = some vl) (hhi : evo e hi = some vh)
    (h1 : bnd vl 0 l) (h2 : bnd vh len h) (h3 : h ≤ cap) (h4 : l ≤ h) : ValOp P H e ⟨dst, .slice t x lo hi none, ty, pos, af, gd⟩ (.slice none (h - l) (cap - l)) :=
  ⟨fun ρ hh g w s => by
    have := run_sliceBounds (P := P) (w := w) (b := true) h1 h2 h3 h4
    simp only [execOp, hh x _ hx, hh.opt hlo, hh.opt hhi, Instr.sliceAt, Option.map_none]
    simp [run_underlying ht, Instr.slice, this, hs.size]⟩
/-- Of an array, by its address. -/
theorem V.sliceA {t el : TypeId} {r o n l h m : Nat} {x : Operand} {lo hi : Option Operand} {vl vh : Option Value} (hx : ev e x = some (.pointer (some ⟨r, o, none⟩))) (ht : P.underlying t = some (.array n el)) (hs : Size P el m) (hlo : evo e lo = some vl) (hhi : evo e hi = some vh)
    (h1 : bnd vl 0 l) (h2 : bnd vh n h) (h3 : h ≤ n) (h4 : l ≤ h) : ValOp P H e ⟨dst, .slice t x lo hi none, ty, pos, af, gd⟩ (.slice (some ⟨r, soff o l n m, none⟩) (h - l) (n - l)) :=
  ⟨fun ρ hh g w s => by
    have := run_sliceBounds (P := P) (w := w) (b := false) h1 h2 h3 h4
    simp only [execOp, hh x _ hx, hh.opt hlo, hh.opt hhi, Instr.sliceAt, Option.map_none]
    simp [run_underlying ht, Instr.sureAddr, this, hs.size, soff]
    split <;> simp [addr_add]⟩
end Go.Sl
/- Own layer, 8: maps with int keys; ranging over them. -/
namespace Go.Sl
variable {C : Cx} {H H' A B F : HP} {e e' : Env} {Q : Post} {ops : Array Oper} {rest : List Oper} {c : Code}
variable {d : Tmp} {op : Op} {ty : TypeId} {pos : String} {af : Array Edge} {v u : Value} {P : Program} {dst : Option Tmp} {gd : Option (Nat × Bool)}

theorem Ent.res {p : Prop} (hp : p) (h : Ent A (B * F)) : Ent A (pu p * B * F) := by rw [sep_assoc]; exact h.trans (Ent.pure hp)
theorem Ent.resF {p : Prop} (hp : p) : Ent (B * F) (pu p * B * F) := Ent.res hp (Ent.refl _)

/-- The entries of a map with int keys: key and value, as they came; each has a stamp of its own, elder than the clock. -/
structure MapOk (es : Array MapEntry) (ck : Nat) (l : List (Int × Value)) : Prop where
  kv : es.toList.map (fun e => (e.key, e.val)) = l.map fun p => (.int .i64 p.1, p.2)
  nodup : (l.map (·.1)).Nodup
  born : es.toList.Pairwise (fun a b => a.born < b.born)
  clock : ∀ e ∈ es.toList, e.born < ck
def mapI (p : Nat) (l : List (Int × Value)) : HP := ex fun (x : Array MapEntry × Nat) => pu (MapOk x.1 x.2 l) * blk p (.map x.1 x.2)
def kfind (l : List (Int × Value)) (k : Int) : Option Value := (l.find? fun p => p.1 == k).map (·.2)
def kset (l : List (Int × Value)) (k : Int) (v : Value) : List (Int × Value) :=
  if l.any (fun p => p.1 == k) then l.map (fun p => if p.1 == k then (k, v) else p) else l ++ [(k, v)]
def kdel (l : List (Int × Value)) (k : Int) : List (Int × Value) := l.filter fun p => !(p.1 == k)

/-- An int type as key. -/
structure KeyI (P : Program) (t kt et : TypeId) : Prop where
  map : P.underlying t = some (.map kt et)
  key : P.underlying kt = some (.int .i64)
theorem run_checkKey (P : Program) (kt : TypeId) (b : Bool) (n : Nat) (k : Int) (h : P.underlying kt = some (.int .i64)) (w : World) : (Instr.checkKey b (n + 1) kt (.int .i64 k)).run P w = .ok () w := by
  simp [Instr.checkKey, run_underlying h]
theorem findNow_spec (k : Int) : ∀ (es : List MapEntry) (l : List (Int × Value)) (i : Nat), es.map (fun e => (e.key, e.val)) = l.map (fun p => (Value.int .i64 p.1, p.2)) →
    Instr.findNow (.int .i64) (.int .i64 k) es i = some ((l.findIdx? fun p => p.1 == k).map fun j => (i + j, (es.getD j default).val))
  | [], l, i, h => by cases l with
    | nil => rfl
    | cons p l => simp at h
  | e :: es, l, i, h => by
    cases l with
    | nil => simp at h
    | cons p l =>
      simp only [List.map_cons, List.cons.injEq, Prod.mk.injEq] at h
      obtain ⟨⟨hk, hv⟩, ht⟩ := h
      simp only [Instr.findNow, hk, Instr.sameNow, if_true, List.findIdx?_cons]
      by_cases e1 : p.1 = k
      · subst e1; simp
      · have e2 : (k == p.1) = false := by simp; exact fun h => e1 h.symm
        have e3 : (p.1 == k) = false := by simpa using e1
        simp only [e2, e3]
        rw [findNow_spec k es l (i + 1) ht]
        simp
        cases l.findIdx? (fun p => p.1 == k) <;> simp
        omega
theorem run_findKey {P : Program} {kt : TypeId} {w : World} {es : List MapEntry} {l : List (Int × Value)} (k : Int) (h : P.underlying kt = some (.int .i64)) (hm : es.map (fun e => (e.key, e.val)) = l.map (fun p => (Value.int .i64 p.1, p.2))) :
    (Instr.findKey kt (.int .i64 k) es).run P w = .ok ((l.findIdx? fun p => p.1 == k).map fun j => (j, (es.getD j default).val)) w := by
  simp [Instr.findKey, run_underlying h, findNow_spec k es l 0 hm]
theorem kfind_idx (l : List (Int × Value)) (k : Int) : kfind l k = (l.findIdx? fun p => p.1 == k).bind fun j => (l[j]?).map (·.2) := by
  unfold kfind
  induction l with
  | nil => rfl
  | cons p l ih =>
    simp only [List.find?_cons, List.findIdx?_cons]
    cases h : (p.1 == k) with
    | true => simp
    | false =>
      simp only [ih]
      cases l.findIdx? (fun p => p.1 == k) <;> simp
theorem run_getObj_map {P : Program} {w : World} {p : Nat} {es : Array MapEntry} {ck : Nat} (h : w.heap[p]? = some (.map es ck)) : (getObj p).run P w = .ok (.map es ck) w := by
  simp [getObj, Sem.run, h]
theorem MapOk.val {es : Array MapEntry} {ck : Nat} {l : List (Int × Value)} (h : MapOk es ck l) (k : Int) : ((l.findIdx? fun p => p.1 == k).map fun j => (es.toList.getD j default).val) = kfind l k := by
  rw [kfind_idx]
  cases hj : l.findIdx? (fun p => p.1 == k) with
  | none => rfl
  | some j =>
    have hlt : j < l.length := by
      rw [List.findIdx?_eq_some_iff_getElem] at hj
      exact hj.1
    have hlen : es.toList.length = l.length := by have := congrArg List.length h.kv; simpa using this
    have := congrArg (fun x : List (Value × Value) => x[j]?) h.kv
    simp only [List.getElem?_map] at this
    rw [List.getElem?_eq_getElem (by omega), List.getElem?_eq_getElem hlt] at this
    simp at this
    have h3 : j < es.size := by simpa using (show j < es.toList.length by omega)
    simp [List.getD, h3, hlt]
    simpa using this.2
theorem V.look {t kt et : TypeId} {p : Nat} {k : Int} {l : List (Int × Value)} {R : HP} {z : List Value} {x y : Operand} (hx : ev e x = some (.map (some p))) (hy : ev e y = some (.int .i64 k)) (ht : KeyI P t kt et) (hv : kfind l k = some v) (hH : Take (mapI p l) H R) :
    ValOp P H e ⟨dst, .lookup t x y true, ty, pos, af, gd⟩ (.tuple #[v, .bool true]) :=
  ⟨fun ρ h g w s => by
    replace s := s.ent hH.to; rw [mapI, ex_mul] at s
    obtain ⟨⟨es, ck⟩, s⟩ := s.exE
    rw [sep_assoc] at s
    obtain ⟨hok, s⟩ := s.pure
    have hg := s.get (r := p)
    have hval := hok.val k
    have hf := run_findKey (P := P) (w := w) k ht.key hok.kv
    cases hj : l.findIdx? (fun p => p.1 == k) with
    | none => rw [hj] at hval; simp [hv] at hval
    | some j =>
      rw [hj] at hval hf
      simp [hv] at hval
      simp [execOp, h x _ hx, h y _ hy, Instr.lookup, run_underlying ht.map, run_getObj_map hg, run_checkKey P kt _ 9999 k ht.key, hf, hval]⟩
theorem V.lookN {t kt et : TypeId} {p : Nat} {k : Int} {l : List (Int × Value)} {R : HP} {x y : Operand} (hx : ev e x = some (.map (some p))) (hy : ev e y = some (.int .i64 k)) (ht : KeyI P t kt et) (hz : ∀ w, (zeroValue et).run P w = .ok u w) (hv : kfind l k = none) (hH : Take (mapI p l) H R) :
    ValOp P H e ⟨dst, .lookup t x y true, ty, pos, af, gd⟩ (.tuple #[u, .bool false]) :=
  ⟨fun ρ h g w s => by
    replace s := s.ent hH.to; rw [mapI, ex_mul] at s
    obtain ⟨⟨es, ck⟩, s⟩ := s.exE
    rw [sep_assoc] at s
    obtain ⟨hok, s⟩ := s.pure
    have hg := s.get (r := p)
    have hval := hok.val k
    have hf := run_findKey (P := P) (w := w) k ht.key hok.kv
    cases hj : l.findIdx? (fun p => p.1 == k) with
    | some j => rw [hj] at hval; simp [hv] at hval
    | none =>
      rw [hj] at hf
      simp [execOp, h x _ hx, h y _ hy, Instr.lookup, run_underlying ht.map, run_getObj_map hg, run_checkKey P kt _ 9999 k ht.key, hf, hz]⟩
theorem V.look1 {t kt et : TypeId} {p : Nat} {k : Int} {l : List (Int × Value)} {R : HP} {x y : Operand} (hx : ev e x = some (.map (some p))) (hy : ev e y = some (.int .i64 k)) (ht : KeyI P t kt et) (hv : kfind l k = some v) (hH : Take (mapI p l) H R) :
    ValOp P H e ⟨dst, .lookup t x y false, ty, pos, af, gd⟩ v :=
  ⟨fun ρ h g w s => by
    replace s := s.ent hH.to; rw [mapI, ex_mul] at s
    obtain ⟨⟨es, ck⟩, s⟩ := s.exE
    rw [sep_assoc] at s
    obtain ⟨hok, s⟩ := s.pure
    have hg := s.get (r := p)
    have hval := hok.val k
    have hf := run_findKey (P := P) (w := w) k ht.key hok.kv
    cases hj : l.findIdx? (fun p => p.1 == k) with
    | none => rw [hj] at hval; simp [hv] at hval
    | some j =>
      rw [hj] at hval hf
      simp [hv] at hval
      simp [execOp, h x _ hx, h y _ hy, Instr.lookup, run_underlying ht.map, run_getObj_map hg, run_checkKey P kt _ 9999 k ht.key, hf, hval]⟩
theorem V.look1N {t kt et : TypeId} {p : Nat} {k : Int} {l : List (Int × Value)} {R : HP} {x y : Operand} (hx : ev e x = some (.map (some p))) (hy : ev e y = some (.int .i64 k)) (ht : KeyI P t kt et) (hz : ∀ w, (zeroValue et).run P w = .ok u w) (hv : kfind l k = none) (hH : Take (mapI p l) H R) :
    ValOp P H e ⟨dst, .lookup t x y false, ty, pos, af, gd⟩ u :=
  ⟨fun ρ h g w s => by
    replace s := s.ent hH.to; rw [mapI, ex_mul] at s
    obtain ⟨⟨es, ck⟩, s⟩ := s.exE
    rw [sep_assoc] at s
    obtain ⟨hok, s⟩ := s.pure
    have hg := s.get (r := p)
    have hval := hok.val k
    have hf := run_findKey (P := P) (w := w) k ht.key hok.kv
    cases hj : l.findIdx? (fun p => p.1 == k) with
    | some j => rw [hj] at hval; simp [hv] at hval
    | none =>
      rw [hj] at hf
      simp [execOp, h x _ hx, h y _ hy, Instr.lookup, run_underlying ht.map, run_getObj_map hg, run_checkKey P kt _ 9999 k ht.key, hf, hz]⟩
theorem MapOk.length {es : Array MapEntry} {ck : Nat} {l : List (Int × Value)} (h : MapOk es ck l) : es.size = l.length := by
  have := congrArg List.length h.kv
  simpa using this
theorem V.lenM {x : Operand} {t kt et : TypeId} {p : Nat} {l : List (Int × Value)} {R : HP} (hx : ev e x = some (.map (some p))) (ht : P.underlying t = some (.map kt et)) (hH : Take (mapI p l) H R) : ValOp P H e ⟨dst, .call ⟨.builtin .len, #[x], #[t]⟩, ty, pos, af, gd⟩ (.int .i64 l.length) :=
  ⟨fun ρ h g w s => by
    replace s := s.ent hH.to; rw [mapI, ex_mul] at s
    obtain ⟨⟨es, ck⟩, s⟩ := s.exE
    rw [sep_assoc] at s
    obtain ⟨hok, s⟩ := s.pure
    have hg := s.get (r := p)
    simp [execOp, resolve, invoke, builtin, h x _ hx, Builtin.len_, run_underlying ht, goInt, run_getObj_map hg, hok.length]⟩
theorem M.map {t : TypeId} : AlOp P H e ⟨dst, .makeMap t none, ty, pos, af, gd⟩ (fun r => .map (some r)) (fun r => mapI r [] * H) :=
  ⟨fun ρ h g w s => ⟨w.heap.size, w.alloc (.map #[] 0), by simp [execOp, Instr.makeMap], (s.new _).ent (by
    rw [mapI, ex_mul]
    refine Ent.ex (#[], 0) ?_
    rw [sep_assoc]
    exact Ent.pure ⟨rfl, by simp, by simp, by simp⟩)⟩⟩
theorem run_setObj_map {P : Program} {w : World} {p : Nat} {es es' : Array MapEntry} {ck ck' : Nat} (h : w.heap[p]? = some (.map es ck)) : (setObj p (.map es' ck')).run P w = .ok () { w with heap := w.heap.setIfInBounds p (.map es' ck') } := by
  simp [setObj, Sem.run, h]
theorem Sat.setMap {w : World} {g : Gh} {p : Nat} {es es' : Array MapEntry} {ck ck' : Nat} {R : HP} (s : Sat g w (blk p (.map es ck) * R)) : Sat g { w with heap := w.heap.setIfInBounds p (.map es' ck') } (blk p (.map es' ck') * R) := by
  have hg := s.get (r := p)
  have hlt : p < w.heap.size := (Array.getElem?_eq_some_iff.1 hg).1
  exact s.set (r := p) rfl rfl (by simp [hlt]) (fun q hq => by simp [Array.getElem?_setIfInBounds, Ne.symm hq])
theorem kset_none {l : List (Int × Value)} {k : Int} {v : Value} (h : l.findIdx? (fun p => p.1 == k) = none) : kset l k v = l ++ [(k, v)] := by
  rw [List.findIdx?_eq_none_iff] at h
  unfold kset
  rw [if_neg]
  simp only [List.any_eq_true, not_exists, not_and]
  intro p hp; simp [h p hp]
theorem MapOk.push {es : Array MapEntry} {ck : Nat} {l : List (Int × Value)} (h : MapOk es ck l) {k : Int} {v : Value} (hk : l.findIdx? (fun p => p.1 == k) = none) : MapOk (es.push { key := .int .i64 k, val := v, born := ck }) (ck + 1) (kset l k v) := by
  rw [kset_none hk]
  refine ⟨by simp [h.kv], ?_, ?_, ?_⟩
  · rw [List.findIdx?_eq_none_iff] at hk
    simp only [List.map_append, List.map_cons, List.map_nil, List.nodup_append, h.nodup, List.nodup_cons, List.not_mem_nil, not_false_iff, List.nodup_nil, true_and, and_true, List.mem_map, List.mem_singleton]
    rintro a ⟨p, hp, rfl⟩ b rfl heq
    have := hk p hp
    simp [heq] at this
  · rw [Array.toList_push, List.pairwise_append]
    exact ⟨h.born, by simp, fun a ha b hb => by simp at hb; subst hb; exact h.clock a ha⟩
  · intro x hx
    rw [Array.toList_push, List.mem_append] at hx
    rcases hx with hx | hx
    · have := h.clock x hx; omega
    · simp at hx; subst hx; simp
theorem MapOk.modify {es : Array MapEntry} {ck j : Nat} {l : List (Int × Value)} (h : MapOk es ck l) {k : Int} {v : Value} (hk : l.findIdx? (fun p => p.1 == k) = some j) : MapOk (es.modify j fun e => { e with key := .int .i64 k, val := v }) ck (kset l k v) := by
  rw [List.findIdx?_eq_some_iff_getElem] at hk
  obtain ⟨hlt, hkj, hbefore⟩ := hk
  have hkey : l[j].1 = k := by simpa using hkj
  have hlen := h.length
  have hany : l.any (fun p => p.1 == k) = true := List.any_eq_true.2 ⟨l[j], List.getElem_mem hlt, hkj⟩
  have hset : kset l k v = l.set j (k, v) := by
    unfold kset
    rw [if_pos hany]
    apply List.ext_getElem (by simp)
    intro i h1 h2
    simp only [List.getElem_map, List.getElem_set]
    by_cases hij : j = i
    · subst hij; simp [hkey]
    · have h1' : i < l.length := by simpa using h1
      have hne : (l[i]'h1').1 ≠ k := by
        intro heq
        have hnd : (l.map (·.1)).Pairwise (· ≠ ·) := h.nodup
        rw [List.pairwise_iff_getElem] at hnd
        rcases Nat.lt_or_gt_of_ne hij with hh | hh
        · exact hnd j i (by simpa using hlt) (by simpa using h1') hh (by simp [heq, hkey])
        · exact hnd i j (by simpa using h1') (by simpa using hlt) hh (by simp [heq, hkey])
      simp [hij, hne]
  have hmem : (es.modify j fun e => { e with key := .int .i64 k, val := v }).toList = es.toList.modify j fun e => { e with key := .int .i64 k, val := v } := by simp
  refine ⟨?_, ?_, ?_, ?_⟩
  · rw [hmem, hset]
    apply List.ext_getElem?
    intro i
    have := congrArg (fun x : List (Value × Value) => x[i]?) h.kv
    simp only [List.getElem?_map] at this
    simp only [List.getElem?_map, List.getElem?_modify, List.getElem?_set]
    by_cases hij : j = i
    · subst hij
      have h2 : j < es.size := by omega
      simp [hlt, h2]
    · simp [hij]
      simpa using this
  · rw [hset, List.map_set]
    have : (l.map (·.1)).set j k = l.map (·.1) := by
      apply List.ext_getElem (by simp)
      intro i h1 h2
      simp only [List.getElem_set, List.getElem_map]
      split
      · rename_i hij; subst hij; exact hkey.symm
      · rfl
    rw [this]; exact h.nodup
  · rw [hmem]
    have hb := h.born
    rw [List.pairwise_iff_getElem] at hb ⊢
    intro i i' h1 h2 hlt'
    simp at h1 h2
    have := hb i i' (by simpa using h1) (by simpa using h2) hlt'
    simp only [List.getElem_modify]
    split <;> split <;> exact this
  · intro x hx
    rw [hmem] at hx
    obtain ⟨i, hi, rfl⟩ := List.getElem_of_mem hx
    simp at hi
    simp only [List.getElem_modify]
    have := h.clock es[i] (by simp)
    split <;> exact this
theorem S.mapSet {t kt et : TypeId} {p : Nat} {k : Int} {l : List (Int × Value)} {R : HP} {x y z : Operand} (hx : ev e x = some (.map (some p))) (hy : ev e y = some (.int .i64 k)) (hz : ev e z = some v) (ht : KeyI P t kt et) (hH : Take (mapI p l) H R) :
    StOp P H e ⟨dst, .mapUpdate t x y z, ty, pos, af, gd⟩ (mapI p (kset l k v) * R) :=
  ⟨fun ρ h g w s => by
    replace s := s.ent hH.to; rw [mapI, ex_mul] at s
    obtain ⟨⟨es, ck⟩, s⟩ := s.exE
    rw [sep_assoc] at s
    obtain ⟨hok, s⟩ := s.pure
    have hg := s.get (r := p)
    have hf := run_findKey (P := P) (w := w) k ht.key hok.kv
    cases hj : l.findIdx? (fun p => p.1 == k) with
    | none =>
      rw [hj] at hf
      refine ⟨{ w with heap := w.heap.setIfInBounds p (.map (es.push { key := .int .i64 k, val := v, born := ck }) (ck + 1)) }, ?_, ?_⟩
      · simp [execOp, h x _ hx, h y _ hy, h z _ hz, Instr.mapUpdate, run_underlying ht.map, run_getObj_map hg, run_checkKey P kt _ 9999 k ht.key, hf, run_setObj_map hg]
      · rw [mapI, ex_mul]
        refine Sat.exI (es.push { key := .int .i64 k, val := v, born := ck }, ck + 1) ?_
        rw [sep_assoc]
        exact Sat.pureI (hok.push hj) s.setMap
    | some j =>
      rw [hj] at hf
      have hk2 := hj
      rw [List.findIdx?_eq_some_iff_getElem] at hk2
      obtain ⟨hlt, hkj, _⟩ := hk2
      have hkey : l[j].1 = k := by simpa using hkj
      have hlen : es.size = l.length := hok.length
      have hold : (es[j]?).map (·.key) = some (.int .i64 k) := by
        have := congrArg (fun x : List (Value × Value) => x[j]?) hok.kv
        simp only [List.getElem?_map, List.getElem?_eq_getElem hlt] at this
        have h2 : j < es.size := by omega
        simp [h2] at this ⊢
        rw [this.1, hkey]
      refine ⟨{ w with heap := w.heap.setIfInBounds p (.map (es.modify j fun e => { e with key := .int .i64 k, val := v }) ck) }, ?_, ?_⟩
      · have hst : (Instr.keyThatStays (((es[j]?).map (·.key)).getD (.int .i64 k)) (.int .i64 k)).run P w = .ok (.int .i64 k) w := by
          rw [hold]; simp [Instr.keyThatStays, Instr.sameBits]
        simp only [execOp, h x _ hx, h y _ hy, h z _ hz, Instr.mapUpdate]
        simp [run_underlying ht.map, run_getObj_map hg, run_checkKey P kt _ 9999 k ht.key, hf, hst, run_setObj_map hg]
      · rw [mapI, ex_mul]
        refine Sat.exI (es.modify j fun e => { e with key := .int .i64 k, val := v }, ck) ?_
        rw [sep_assoc]
        exact Sat.pureI (hok.modify hj) s.setMap⟩
end Go.Sl
/- Own layer, 9: ranging over a map, deleting, clearing; results that lie in memory; more operations. -/
namespace Go.Sl
variable {C : Cx} {H H' A B F : HP} {e e' : Env} {Q : Post} {ops : Array Oper} {rest : List Oper} {c : Code}
variable {d : Tmp} {op : Op} {ty : TypeId} {pos : String} {af : Array Edge} {v u : Value} {P : Program} {dst : Option Tmp} {gd : Option (Nat × Bool)}

/-! ### results -/
def rsem (tmps : Array Value) : ResultVar → Sem Value
  | .tmp t => pure (tmps.getD t undef)
  | .cell a t => do loadVar t (← asAddr (tmps.getD a undef))
theorem results_eq (fn : Func) (tmps : Array Value) : results fn tmps = (do
    let vs ← fn.results.mapM (rsem tmps)
    pure (if h : vs.size = 1 then vs[0] else .tuple vs)) := by
  unfold results
  have : (fun (x : ResultVar) => match x with | .tmp t => (pure (tmps.getD t undef) : Sem Value) | .cell a t => (do loadVar t (← asAddr (tmps.getD a undef)))) = rsem tmps := by
    funext x; cases x <;> rfl
  rw [← this]; rfl
structure RV (P : Program) (H : HP) (e : Env) (x : ResultVar) (v : Value) : Prop where
  run : ∀ (g : Gh) (w : World) (tmps : Array Value), (∀ t v, look e t = some v → tmps.getD t undef = v) → Sat g w H → (rsem tmps x).run P w = .ok v w
theorem RV.tmp {t : Nat} (h : look e t = some v) : RV P H e (.tmp t) v := ⟨fun g w tmps ht s => by simp only [rsem, ht t v h]; rfl⟩
theorem RV.cell {a : Nat} {t : TypeId} {r k : Nat} {l : List Value} {t' : TypeId} {z : Nat × Nat} (hx : look e a = some (.pointer (some ⟨r, k, none⟩))) (ht : Scal P t) [i : Rd r H (.cells l.toArray t' z)] (hv : l[k]? = some v) : RV P H e (.cell a t) v :=
  ⟨fun g w tmps h s => by simp only [rsem, h a _ hx]; simp [asAddr, loadVar, ht.agg, run_load_heap (s.get (r := r)) hv, -run_load]⟩
theorem RV.cellA {a : Nat} {t : TypeId} {r k n : Nat} {l vs : List Value} {t' : TypeId} {z : Nat × Nat} (hx : look e a = some (.pointer (some ⟨r, k, none⟩))) (ht : Aggr P t n) [i : Rd r H (.cells l.toArray t' z)] (hv : getN l k n = some vs) : RV P H e (.cell a t) (.agg vs.toArray) :=
  ⟨fun g w tmps h s => by
    obtain ⟨h1, h2⟩ := getN_spec n l k vs hv
    simp only [rsem, h a _ hx]; simp [asAddr, loadVar, ht.agg, ht.size, run_loadCells_heap (s.get (r := r)) h1 h2]⟩
theorem run_results1 {w : World} {g : Gh} {fn : Func} {x : ResultVar} {a : Act} {n : Nat} {ds : List Deferred} (hr : fn.results = #[x]) (h1 : RV P H e x v) (fi : Fits a n ds e) (s : Sat g w H) : (results fn a.tmps).run P w = .ok v w := by
  have e1 := h1.run g w a.tmps fi.look s
  simp [results_eq, hr, e1]
theorem run_results2 {w : World} {g : Gh} {fn : Func} {x y : ResultVar} {a : Act} {n : Nat} {ds : List Deferred} (hr : fn.results = #[x, y]) (h1 : RV P H e x v) (h2 : RV P H e y u) (fi : Fits a n ds e) (s : Sat g w H) : (results fn a.tmps).run P w = .ok (.tuple #[v, u]) w := by
  have e1 := h1.run g w a.tmps fi.look s
  have e2 := h2.run g w a.tmps fi.look s
  simp [results_eq, hr, e1, e2]
theorem run_results3 {w : World} {g : Gh} {fn : Func} {x y z : ResultVar} {a : Act} {n : Nat} {ds : List Deferred} {u' : Value} (hr : fn.results = #[x, y, z]) (h1 : RV P H e x v) (h2 : RV P H e y u) (h3 : RV P H e z u') (fi : Fits a n ds e) (s : Sat g w H) : (results fn a.tmps).run P w = .ok (.tuple #[v, u, u']) w := by
  have e1 := h1.run g w a.tmps fi.look s
  have e2 := h2.run g w a.tmps fi.look s
  have e3 := h3.run g w a.tmps fi.look s
  simp [results_eq, hr, e1, e2, e3]
theorem Wx.rv1 {fn : Func} {Φ : Value → HP} {x : ResultVar} (hd : C.ds = []) (hr : fn.results = #[x]) (h1 : RV C.P H e x v) (hp : Ent H (Φ v * F)) : Wx C H e .ret (bodyPost C.P fn (Back C.g Φ F)) :=
  ⟨fun _ _ f s => ⟨f.defers.trans hd, _, run_results1 hr h1 f s, _, rfl, s.ent hp⟩⟩
theorem Wx.rv2 {fn : Func} {Φ : Value → HP} {x y : ResultVar} (hd : C.ds = []) (hr : fn.results = #[x, y]) (h1 : RV C.P H e x v) (h2 : RV C.P H e y u) (hp : Ent H (Φ (.tuple #[v, u]) * F)) : Wx C H e .ret (bodyPost C.P fn (Back C.g Φ F)) :=
  ⟨fun _ _ f s => ⟨f.defers.trans hd, _, run_results2 hr h1 h2 f s, _, rfl, s.ent hp⟩⟩
theorem Wx.rv3 {fn : Func} {Φ : Value → HP} {x y z : ResultVar} {u' : Value} (hd : C.ds = []) (hr : fn.results = #[x, y, z]) (h1 : RV C.P H e x v) (h2 : RV C.P H e y u) (h3 : RV C.P H e z u') (hp : Ent H (Φ (.tuple #[v, u, u']) * F)) : Wx C H e .ret (bodyPost C.P fn (Back C.g Φ F)) :=
  ⟨fun _ _ f s => ⟨f.defers.trans hd, _, run_results3 hr h1 h2 h3 f s, _, rfl, s.ent hp⟩⟩

/-! ### ranging over a map -/
def unseen (es : List MapEntry) (seen : Array Nat) : List MapEntry := es.filter fun x => !seen.contains x.born
structure RngOk (es : Array MapEntry) (ck : Nat) (l : List (Int × Value)) (since : Nat) (seen : Array Nat) (stepped : Nat) (left : List (Int × Value)) (cur : Option (Int × Value)) : Prop where
  ok : MapOk es ck l
  since : since = ck
  stepped : stepped = ck
  left : (unseen es.toList seen).map (fun e => (e.key, e.val)) = left.map fun p => (.int .i64 p.1, p.2)
  cur : ∀ p, cur = some p → ∃ x, es.find? (fun y => y.born == seen.back?.getD 0) = some x ∧ seen.back? = some x.born ∧ x.key = .int .i64 p.1 ∧ x.val = p.2
/-- A map that is being ranged over by an iterator: its entries, those still to come, the one that it stands at. -/
def rng (p it : Nat) (l left : List (Int × Value)) (cur : Option (Int × Value)) : HP :=
  ex fun (x : Array MapEntry × Nat × Nat × Array Nat × Nat) => pu (RngOk x.1 x.2.1 l x.2.2.1 x.2.2.2.1 x.2.2.2.2 left cur) * (blk p (.map x.1 x.2.1) * blk it (.mapIter (some p) x.2.2.1 x.2.2.2.1 x.2.2.2.2))
theorem Ent.rng_map (p it : Nat) (l left : List (Int × Value)) (cur : Option (Int × Value)) (F : HP) : Ent (rng p it l left cur * F) (mapI p l * F) := by
  refine Ent.frame F ?_
  rw [rng]
  refine Ent.exE fun x => ?_
  refine Ent.puE fun h => ?_
  rw [mapI]
  refine Ent.ex (x.1, x.2.1) ?_
  exact (Ent.left _ _).trans (Ent.pure h.ok)
theorem unseen_empty (es : List MapEntry) : unseen es #[] = es := by simp [unseen]
theorem M.range {t kt et : TypeId} {p : Nat} {l : List (Int × Value)} {R : HP} {x : Operand} (hx : ev e x = some (.map (some p))) (ht : P.underlying t = some (.map kt et)) (hH : Take (mapI p l) H R) :
    AlOp P H e ⟨dst, .range t x, ty, pos, af, gd⟩ (fun r => .pointer (some ⟨r, 0, none⟩)) (fun r => rng p r l l none * R) :=
  ⟨fun ρ h g w s => by
    replace s := s.ent hH.to; rw [mapI, ex_mul] at s
    obtain ⟨⟨es, ck⟩, s⟩ := s.exE
    rw [sep_assoc] at s
    obtain ⟨hok, s⟩ := s.pure
    have hg := s.get (r := p)
    refine ⟨w.heap.size, w.alloc (.mapIter (some p) ck #[] ck), ?_, ?_⟩
    · simp [execOp, h x _ hx, Instr.range, run_underlying ht, run_getObj_map hg]
    · have s' := s.new (.mapIter (some p) ck #[] ck)
      rw [rng, ex_mul]
      refine Sat.exI (es, ck, ck, #[], ck) ?_
      rw [sep_assoc]
      refine Sat.pureI ⟨hok, rfl, rfl, ?_, fun p hp => by cases hp⟩ ?_
      · rw [unseen_empty]; exact hok.kv
      · rw [sep_assoc, sep_left_comm]; exact s'⟩
theorem old_all {es : List MapEntry} {seen : Array Nat} {ck : Nat} (h : ∀ e ∈ es, e.born < ck) : ((unseen es seen).filter fun x => decide (x.born < ck)) = unseen es seen := by
  rw [List.filter_eq_self]
  intro a ha
  simp only [decide_eq_true_eq]
  exact h a (List.mem_filter.1 ha).1
theorem new_none {es : List MapEntry} {seen : Array Nat} {ck : Nat} (h : ∀ e ∈ es, e.born < ck) : ((unseen es seen).filter fun x => decide (x.born ≥ ck)) = [] := by
  rw [List.filter_eq_nil_iff]
  intro a ha
  have := h a (List.mem_filter.1 ha).1
  simp; omega
theorem run_getObj_iter {w : World} {it : Nat} {m : Option Nat} {since stepped : Nat} {seen : Array Nat} (h : w.heap[it]? = some (.mapIter m since seen stepped)) : (getObj it).run P w = .ok (.mapIter m since seen stepped) w := by
  simp [getObj, Sem.run, h]
theorem run_setObj_iter {w : World} {it : Nat} {m m' : Option Nat} {since stepped since' stepped' : Nat} {seen seen' : Array Nat} (h : w.heap[it]? = some (.mapIter m since seen stepped)) : (setObj it (.mapIter m' since' seen' stepped')).run P w = .ok () { w with heap := w.heap.setIfInBounds it (.mapIter m' since' seen' stepped') } := by
  simp [setObj, Sem.run, h]
theorem live_any {es : Array MapEntry} {ck stepped : Nat} {l : List (Int × Value)} (hok : MapOk es ck l) (hs : stepped = ck) (seen : Array Nat) : (!seen.isEmpty && !es.isEmpty && es.all fun x => decide (x.born ≥ stepped)) = false := by
  subst hs
  cases hemp : es.isEmpty with
  | true => simp
  | false =>
    have hpos : 0 < es.size := by
      rcases Nat.eq_zero_or_pos es.size with h | h
      · rw [Array.isEmpty_iff_size_eq_zero.2 h] at hemp; cases hemp
      · exact h
    have hm := hok.clock es[0] (by simp)
    have : (es.all fun x => decide (x.born ≥ stepped)) = false := by
      rw [Bool.eq_false_iff]
      intro hall
      rw [Array.all_eq_true] at hall
      have := hall 0 hpos
      simp at this
      omega
    simp [this]
theorem V.nextOver {p it : Nat} {l : List (Int × Value)} {cur : Option (Int × Value)} {R : HP} {x : Operand} (hx : ev e x = some (.pointer (some ⟨it, 0, none⟩))) (hH : Take (rng p it l [] cur) H R) :
    ValOp P H e ⟨dst, .next x false, ty, pos, af, gd⟩ (.tuple #[.bool false]) :=
  ⟨fun ρ h g w s => by
    replace s := s.ent hH.to; rw [rng, ex_mul] at s
    obtain ⟨⟨es, ck, since, seen, stepped⟩, s⟩ := s.exE
    rw [sep_assoc, sep_assoc] at s
    obtain ⟨hok, s⟩ := s.pure
    have hg := s.get (r := p)
    have hi := s.get (r := it)
    have hl : unseen es.toList seen = [] := by have := hok.left; simpa using this
    have hsin : since = ck := hok.since
    subst hsin
    have hcl : ∀ x ∈ es.toList, x.born < since := hok.ok.clock
    have hlive := live_any hok.ok hok.stepped seen
    have e1 : (es.filter fun x => !seen.contains x.born) = #[] := by
      apply Array.ext'; simpa [unseen] using hl
    simp only [execOp, h x _ hx, Instr.next, Sem.run_bind, run_getObj_iter hi, Result.andThen_ok, run_getObj_map hg]
    simp only [hlive, Bool.false_eq_true, if_false, e1]
    simp [Question.forced]⟩
theorem X.next {p it : Nat} {l left : List (Int × Value)} {cur : Option (Int × Value)} {R : HP} {x : Operand} (hx : ev e x = some (.pointer (some ⟨it, 0, none⟩))) (hH : Take (rng p it l left cur) H R) (hne : left ≠ []) :
    ExOp P H e ⟨dst, .next x false, ty, pos, af, gd⟩ (fun v => ex fun (y : List (Int × Value) × (Int × Value) × List (Int × Value)) => pu (left = y.1 ++ y.2.1 :: y.2.2 ∧ v = .tuple #[.bool true, .int .i64 y.2.1.1, y.2.1.2]) * (rng p it l (y.1 ++ y.2.2) (some y.2.1) * R)) :=
  ⟨fun ρ h g w s => by
    replace s := s.ent hH.to; rw [rng, ex_mul] at s
    obtain ⟨⟨es, ck, since, seen, stepped⟩, s⟩ := s.exE
    rw [sep_assoc, sep_assoc] at s
    obtain ⟨hok, s⟩ := s.pure
    have hg := s.get (r := p)
    have hi := s.get (r := it)
    have hsin : since = ck := hok.since
    subst hsin
    have hcl : ∀ x ∈ es.toList, x.born < since := hok.ok.clock
    have hlive := live_any hok.ok hok.stepped seen
    have hlen : (unseen es.toList seen).length = left.length := by have := congrArg List.length hok.left; simpa using this
    have hpos : 0 < (unseen es.toList seen).length := by rw [hlen]; exact List.length_pos_iff.2 hne
    -- the candidates
    have eU : (es.filter fun x => !seen.contains x.born) = (unseen es.toList seen).toArray := by apply Array.ext'; simp [unseen]
    have eO : ((unseen es.toList seen).toArray.filter fun x => decide (x.born < since)) = (unseen es.toList seen).toArray := by apply Array.ext'; simpa using old_all hcl
    have eN : ((unseen es.toList seen).toArray.filter fun x => decide (x.born ≥ since)) = #[] := by apply Array.ext'; simpa using new_none hcl
    have eE : (unseen es.toList seen).toArray.isEmpty = false := by
      cases hu : unseen es.toList seen with
      | nil => simp [hu] at hpos
      | cons a b => rfl
    -- one of them
    let q : Question := .mapNext (unseen es.toList seen).length
    have hch : ∃ i w1, (choose (.mapNext (unseen es.toList seen).length)).run P w = .ok i w1 ∧ i < (unseen es.toList seen).length ∧ w1.os = w.os ∧ w1.output = w.output ∧ w1.heap = w.heap := by
      rw [run_choose]
      split
      · exact ⟨0, w, rfl, hpos, rfl, rfl, rfl⟩
      · exact ⟨_, _, rfl, Nat.mod_lt _ hpos, rfl, rfl, rfl⟩
    obtain ⟨i, w1, hrun, hilt, ho, hu, hh⟩ := hch
    let x0 := (unseen es.toList seen)[i]
    have hx0 : x0 ∈ unseen es.toList seen := List.getElem_mem hilt
    have hx0es : x0 ∈ es.toList := (List.mem_filter.1 hx0).1
    have hlt : i < left.length := by omega
    have hkv : x0.key = .int .i64 (left[i]).1 ∧ x0.val = (left[i]).2 := by
      have := congrArg (fun x : List (Value × Value) => x[i]?) hok.left
      simp only [List.getElem?_map, List.getElem?_eq_getElem hilt, List.getElem?_eq_getElem hlt, Option.map_some, Option.some.injEq, Prod.mk.injEq] at this
      exact this
    have s1 : Sat g w1 (blk p (.map es since) * (blk it (.mapIter (some p) since seen stepped) * R)) := s.same ho hu hh
    have hi1 : w1.heap[it]? = some (.mapIter (some p) since seen stepped) := by rw [hh]; exact hi
    have hitlt : it < w1.heap.size := (Array.getElem?_eq_some_iff.1 hi1).1
    refine ⟨.tuple #[.bool true, x0.key, x0.val], { w1 with heap := w1.heap.setIfInBounds it (.mapIter (some p) since (seen.push x0.born) since) }, ?_, ?_⟩
    · simp only [execOp, h x _ hx, Instr.next, Sem.run_bind, run_getObj_iter hi, Result.andThen_ok, run_getObj_map hg]
      simp only [hlive, Bool.false_eq_true, if_false, eU, eO, eN, eE]
      simp only [Array.append_empty, Array.empty_append, Array.size_map, List.size_toArray, hrun, Sem.run_bind, Result.andThen_ok]
      simp [hilt, run_setObj_iter hi1, x0]
    · have hsplit : left = left.take i ++ left[i] :: left.drop (i + 1) := by
        rw [List.getElem_cons_drop, List.take_append_drop]
      refine Sat.exI (left.take i, left[i], left.drop (i + 1)) ?_
      refine Sat.pureI ⟨hsplit, by rw [hkv.1, hkv.2]⟩ ?_
      rw [rng, ex_mul]
      refine Sat.exI (es, since, since, seen.push x0.born, since) ?_
      rw [sep_assoc, sep_assoc]
      refine Sat.pureI ⟨hok.ok, rfl, rfl, ?_, ?_⟩ ?_
      · -- what is left
        have hnb : ∀ (j : Nat) (hj : j < (unseen es.toList seen).length), ((unseen es.toList seen)[j]).born = x0.born → j = i := by
          intro j hj hb
          have hp : (unseen es.toList seen).Pairwise (fun a b => a.born < b.born) := List.Pairwise.filter _ hok.ok.born
          rw [List.pairwise_iff_getElem] at hp
          rcases Nat.lt_trichotomy j i with h1 | h1 | h1
          · have := hp j i hj hilt h1; simp only [x0] at hb; omega
          · exact h1
          · have := hp i j hilt hj h1; simp only [x0] at hb; omega
        have hun : unseen es.toList (seen.push x0.born) = (unseen es.toList seen).take i ++ (unseen es.toList seen).drop (i + 1) := by
          have h1 : unseen es.toList (seen.push x0.born) = (unseen es.toList seen).filter fun y => !(y.born == x0.born) := by
            unfold unseen
            rw [List.filter_filter]
            congr 1
            funext y
            simp only [Array.contains_push, Bool.not_or, Bool.and_comm]
          rw [h1]
          conv => lhs; rw [show unseen es.toList seen = (unseen es.toList seen).take i ++ (unseen es.toList seen)[i] :: (unseen es.toList seen).drop (i + 1) by rw [List.getElem_cons_drop, List.take_append_drop]]
          rw [List.filter_append, List.filter_cons]
          have h2 : (!((unseen es.toList seen)[i].born == x0.born)) = false := by simp [x0]
          rw [h2]
          simp only [Bool.false_eq_true, if_false]
          congr 1
          · rw [List.filter_eq_self]
            intro y hy
            obtain ⟨j, hj, rfl⟩ := List.getElem_of_mem hy
            simp only [List.length_take] at hj
            simp only [List.getElem_take, Bool.not_eq_true', beq_eq_false_iff_ne, ne_eq]
            intro hb
            have := hnb j (by omega) hb
            omega
          · rw [List.filter_eq_self]
            intro y hy
            obtain ⟨j, hj, rfl⟩ := List.getElem_of_mem hy
            simp only [List.length_drop] at hj
            simp only [List.getElem_drop, Bool.not_eq_true', beq_eq_false_iff_ne, ne_eq]
            intro hb
            have := hnb (i + 1 + j) (by omega) hb
            omega
        rw [hun, List.map_append, List.map_take, List.map_drop, hok.left]
        simp
      · intro p' hp'
        injection hp' with hp'
        subst hp'
        have hfind : es.find? (fun y => y.born == x0.born) = some x0 := by
          rw [← Array.find?_toList]
          cases hf : es.toList.find? (fun y => y.born == x0.born) with
          | none =>
            rw [List.find?_eq_none] at hf
            have := hf x0 hx0es
            simp at this
          | some y =>
            have hb : y.born = x0.born := by simpa using List.find?_some hf
            have hm : y ∈ es.toList := List.mem_of_find?_eq_some hf
            have hp : es.toList.Pairwise (fun a b => a.born < b.born) := hok.ok.born
            obtain ⟨j, hj, rfl⟩ := List.getElem_of_mem hm
            obtain ⟨k, hk, hkx⟩ := List.getElem_of_mem hx0es
            rw [List.pairwise_iff_getElem] at hp
            rcases Nat.lt_trichotomy j k with h1 | h1 | h1
            · have := hp j k hj hk h1; rw [hkx] at this; omega
            · subst h1; rw [hkx]
            · have := hp k j hk hj h1; rw [hkx] at this; omega
        exact ⟨x0, by simpa using hfind, by simp, hkv.1, hkv.2⟩
      · have s2 := s1.set (r := it) (w' := { w1 with heap := w1.heap.setIfInBounds it (.mapIter (some p) since (seen.push x0.born) since) }) (o' := .mapIter (some p) since (seen.push x0.born) since) rfl rfl (by simp [hitlt]) (fun q hq => by simp [Array.getElem?_setIfInBounds, Ne.symm hq])
        exact s2⟩
theorem V.entry {p it : Nat} {l left : List (Int × Value)} {k : Int} {R : HP} {x : Operand} (hx : ev e x = some (.pointer (some ⟨it, 0, none⟩))) (hH : Take (rng p it l left (some (k, v))) H R) :
    ValOp P H e ⟨dst, .entry x, ty, pos, af, gd⟩ (.tuple #[.int .i64 k, v]) :=
  ⟨fun ρ h g w s => by
    replace s := s.ent hH.to; rw [rng, ex_mul] at s
    obtain ⟨⟨es, ck, since, seen, stepped⟩, s⟩ := s.exE
    rw [sep_assoc, sep_assoc] at s
    obtain ⟨hok, s⟩ := s.pure
    have hg := s.get (r := p)
    have hi := s.get (r := it)
    obtain ⟨x0, h1, h2, h3, h4⟩ := hok.cur (k, v) rfl
    have hst : stepped = ck := hok.stepped
    subst hst
    have h2' : seen.back? = some x0.born := h2
    have h1' : es.find? (fun y => y.born == x0.born) = some x0 := by
      have := h1
      simp only [h2', Option.getD_some] at this
      exact this
    simp only [execOp, h x _ hx, Instr.entry, Sem.run_bind, run_getObj_iter hi, Result.andThen_ok, h2', run_getObj_map hg]
    simp [h1', h3, h4]⟩

/-! ### delete, clear -/
theorem map_eraseIdx' {α β : Type} (f : α → β) (l : List α) (j : Nat) : (l.eraseIdx j).map f = (l.map f).eraseIdx j := by
  simp [List.eraseIdx_eq_take_drop_succ, List.map_take, List.map_drop]
theorem MapOk.erase {es : Array MapEntry} {ck : Nat} {l : List (Int × Value)} (h : MapOk es ck l) {k : Int} : ∃ es', MapOk es' ck (kdel l k) ∧
    (match (l.findIdx? fun p => p.1 == k) with | some i => es.eraseIdxIfInBounds i | none => es) = es' := by
  refine ⟨_, ?_, rfl⟩
  have hnd : (l.map (·.1)).Pairwise (· ≠ ·) := h.nodup
  cases hj : l.findIdx? (fun p => p.1 == k) with
  | none =>
    have : kdel l k = l := by
      rw [List.findIdx?_eq_none_iff] at hj
      unfold kdel
      rw [List.filter_eq_self]
      intro p hp; simp [hj p hp]
    rw [this]; exact h
  | some j =>
    rw [List.findIdx?_eq_some_iff_getElem] at hj
    obtain ⟨hlt, hkj, _⟩ := hj
    have hkey : l[j].1 = k := by simpa using hkj
    have hdel : kdel l k = l.eraseIdx j := by
      unfold kdel
      rw [List.eraseIdx_eq_take_drop_succ]
      conv => lhs; rw [show l = l.take j ++ l[j] :: l.drop (j + 1) by rw [List.getElem_cons_drop, List.take_append_drop]]
      rw [List.filter_append, List.filter_cons]
      simp only [hkey, beq_self_eq_true, Bool.not_true, Bool.false_eq_true, if_false]
      rw [List.pairwise_iff_getElem] at hnd
      congr 1
      · rw [List.filter_eq_self]
        intro y hy
        obtain ⟨i, hi, rfl⟩ := List.getElem_of_mem hy
        simp only [List.length_take] at hi
        simp only [List.getElem_take, Bool.not_eq_true', beq_eq_false_iff_ne, ne_eq]
        intro hb
        exact hnd i j (by simpa using (show i < l.length by omega)) (by simpa using hlt) (by omega) (by simp [hb, hkey])
      · rw [List.filter_eq_self]
        intro y hy
        obtain ⟨i, hi, rfl⟩ := List.getElem_of_mem hy
        simp only [List.length_drop] at hi
        simp only [List.getElem_drop, Bool.not_eq_true', beq_eq_false_iff_ne, ne_eq]
        intro hb
        exact hnd j (j + 1 + i) (by simpa using hlt) (by simpa using (show j + 1 + i < l.length by omega)) (by omega) (by simp [hb, hkey])
    have hlen := h.length
    have he : (es.eraseIdxIfInBounds j).toList = es.toList.eraseIdx j := by simp
    rw [hdel]
    refine ⟨?_, ?_, ?_, ?_⟩
    · rw [he, map_eraseIdx', map_eraseIdx', h.kv]
    · rw [map_eraseIdx']; exact h.nodup.sublist (List.eraseIdx_sublist _ _)
    · rw [he]; exact h.born.sublist (List.eraseIdx_sublist _ _)
    · intro x hx
      rw [he] at hx
      exact h.clock x (List.mem_of_mem_eraseIdx hx)
theorem X.delete {t kt et : TypeId} {p : Nat} {k : Int} {l : List (Int × Value)} {R : HP} {ts : Array TypeId} {x y : Operand} (hx : ev e x = some (.map (some p))) (hy : ev e y = some (.int .i64 k)) (ht : KeyI P t kt et) (hts : ts[0]? = some t) (hH : Take (mapI p l) H R) :
    ExOp P H e ⟨dst, .call ⟨.builtin .delete, #[x, y], ts⟩, ty, pos, af, gd⟩ (fun _ => mapI p (kdel l k) * R) :=
  ⟨fun ρ h g w s => by
    replace s := s.ent hH.to; rw [mapI, ex_mul] at s
    obtain ⟨⟨es, ck⟩, s⟩ := s.exE
    rw [sep_assoc] at s
    obtain ⟨hok, s⟩ := s.pure
    have hg := s.get (r := p)
    have hf := run_findKey (P := P) (w := w) k ht.key hok.kv
    obtain ⟨es', hok', heq⟩ := hok.erase (k := k)
    refine ⟨.tuple #[], { w with heap := w.heap.setIfInBounds p (.map es' ck) }, ?_, ?_⟩
    · cases hj : l.findIdx? (fun p => p.1 == k) with
      | none =>
        rw [hj] at hf heq
        simp only at heq
        subst heq
        simp [execOp, resolve, invoke, builtin, h x _ hx, h y _ hy, Builtin.delete_, hts, run_underlying ht.map, run_getObj_map hg, run_checkKey P kt _ 9999 k ht.key, hf, run_setObj_map hg]
      | some j =>
        rw [hj] at hf heq
        simp only at heq
        subst heq
        simp [execOp, resolve, invoke, builtin, h x _ hx, h y _ hy, Builtin.delete_, hts, run_underlying ht.map, run_getObj_map hg, run_checkKey P kt _ 9999 k ht.key, hf, run_setObj_map hg]
    · rw [mapI, ex_mul]
      refine Sat.exI (es', ck) ?_
      rw [sep_assoc]
      exact Sat.pureI hok' s.setMap⟩
theorem X.clear {t kt et : TypeId} {p : Nat} {l : List (Int × Value)} {R : HP} {ts : Array TypeId} {x : Operand} (hx : ev e x = some (.map (some p))) (ht : P.underlying t = some (.map kt et)) (hts : ts[0]? = some t) (hH : Take (mapI p l) H R) :
    ExOp P H e ⟨dst, .call ⟨.builtin .clear, #[x], ts⟩, ty, pos, af, gd⟩ (fun _ => mapI p [] * R) :=
  ⟨fun ρ h g w s => by
    replace s := s.ent hH.to; rw [mapI, ex_mul] at s
    obtain ⟨⟨es, ck⟩, s⟩ := s.exE
    rw [sep_assoc] at s
    obtain ⟨hok, s⟩ := s.pure
    have hg := s.get (r := p)
    refine ⟨.tuple #[], { w with heap := w.heap.setIfInBounds p (.map #[] ck) }, ?_, ?_⟩
    · simp [execOp, resolve, invoke, builtin, h x _ hx, Builtin.clear_, hts, run_underlying ht, run_getObj_map hg, run_setObj_map hg]
    · rw [mapI, ex_mul]
      refine Sat.exI (#[], ck) ?_
      rw [sep_assoc]
      exact Sat.pureI ⟨rfl, by simp, by simp, by simp⟩ s.setMap⟩
end Go.Sl
/- Own layer, 10: strings and bytes, copies, makes, elements of values, assertions, function values. -/
namespace Go.Sl
variable {C : Cx} {H H' A B F : HP} {e e' : Env} {Q : Post} {ops : Array Oper} {rest : List Oper} {c : Code}
variable {d : Tmp} {op : Op} {ty : TypeId} {pos : String} {af : Array Edge} {v u : Value} {P : Program} {dst : Option Tmp} {gd : Option (Nat × Bool)}

theorem V.sNeq {x y : Operand} {t t' : TypeId} {a b : ByteArray} (hx : ev e x = some (.string a)) (hy : ev e y = some (.string b)) : ValOp P H e ⟨dst, .binOp .neq t x y t', ty, pos, af, gd⟩ (.bool (!decide (a = b))) :=
  ⟨fun ρ h g w s => by
    have := (V.sEql (P := P) (H := H) (dst := dst) (t := t) (t' := t') (ty := ty) (pos := pos) (af := af) (gd := gd) hx hy).run ρ h g w s
    simp [execOp, h x _ hx, h y _ hy, eqGuard, binOp, Op.stringOp] at this ⊢
    rw [this]⟩
theorem V.mkFunc {fn : Fn} {xs ys : List Operand} {vs us : List Value} (hx : evs e xs = some vs) (hy : evs e ys = some us) : ValOp P H e ⟨dst, .makeFunc fn xs.toArray ys.toArray, ty, pos, af, gd⟩ (.func fn vs.toArray us.toArray) :=
  ⟨fun ρ h g w s => by
    have h1 := h.list xs vs hx
    have h2 := h.list ys us hy
    simp [execOp, Instr.makeFunc, h1, h2]⟩
theorem V.idxStr {x y : Operand} {t : TypeId} {k : IntKind} {i : Int} {s : ByteArray} {b : UInt8} (hx : ev e x = some (.string s)) (hy : ev e y = some (.int k i)) (ht : P.underlying t = some .string) (h0 : 0 ≤ i) (hb : s.data.toList[i.toNat]? = some b) : ValOp P H e ⟨dst, .index t x y, ty, pos, af, gd⟩ (.int .u8 b.toNat) :=
  ⟨fun ρ h g w _ => by
    have : s[i.toNat]? = some b := by
      rw [List.getElem?_eq_some_iff] at hb
      obtain ⟨h1, h2⟩ := hb
      have h3 : i.toNat < s.size := by simpa using h1
      rw [getElem?_pos s i.toNat h3]
      congr 1
    simp only [execOp, h x _ hx, h y _ hy, Instr.index, asIntOf]
    simp [run_underlying ht, h0, this]⟩
theorem V.idxAgg {x y : Operand} {t el : TypeId} {k : IntKind} {i : Int} {n : Nat} {l : List Value} (hx : ev e x = some (.agg l.toArray)) (hy : ev e y = some (.int k i)) (ht : P.underlying t = some (.array n el)) (hs : Scal P el) (h0 : 0 ≤ i) (h1 : i < n) (hv : l[i.toNat]? = some v) : ValOp P H e ⟨dst, .index t x y, ty, pos, af, gd⟩ v :=
  ⟨fun ρ h g w _ => by
    simp only [execOp, h x _ hx, h y _ hy, Instr.index, asIntOf]
    simp [run_underlying ht, h0, h1, hs.size, part, hs.agg, hv]⟩
structure FVal (P : Program) (t : TypeId) (f : Nat) (off : Nat) (ft : TypeId) : Prop where
  run : ∃ fs fd, P.underlying t = some (.struct fs) ∧ fs[f]? = some fd ∧ fd.offset = off ∧ fd.type = ft
theorem FVal.mk' {t ft : TypeId} {f off : Nat} {fs : Array Field} {fd : Field} (h1 : P.underlying t = some (.struct fs)) (h2 : fs[f]? = some fd) (h3 : fd.offset = off) (h4 : fd.type = ft) : FVal P t f off ft := ⟨fs, fd, h1, h2, h3, h4⟩
theorem zeroV {t : TypeId} {z : Value} (h : (P.info? t).map (·.zero) = some (some z)) (w : World) : (zeroValue t).run P w = .ok z w := by
  cases hi : P.info? t with
  | none => simp [hi] at h
  | some i => simp [hi] at h; simp [zeroValue, typeInfo, hi, h]
theorem V.field {x : Operand} {t ft : TypeId} {f off : Nat} {l : List Value} (hx : ev e x = some (.agg l.toArray)) (hf : FVal P t f off ft) (hs : Scal P ft) (hv : l[off]? = some v) : ValOp P H e ⟨dst, .field t x f, ty, pos, af, gd⟩ v :=
  ⟨fun ρ h g w _ => by
    obtain ⟨fs, fd, h1, h2, h3, h4⟩ := hf.run
    simp [execOp, h x _ hx, Instr.field, run_underlying h1, h2, asAgg, part, h4, hs.agg, h3, hv]⟩
theorem V.fieldA {x : Operand} {t ft : TypeId} {f off n : Nat} {l vs : List Value} (hx : ev e x = some (.agg l.toArray)) (hf : FVal P t f off ft) (hs : Aggr P ft n) (hv : getN l off n = some vs) : ValOp P H e ⟨dst, .field t x f, ty, pos, af, gd⟩ (.agg vs.toArray) :=
  ⟨fun ρ h g w _ => by
    obtain ⟨fs, fd, h1, h2, h3, h4⟩ := hf.run
    obtain ⟨e1, e2⟩ := getN_spec n l off vs hv
    have e3 : l.toArray.extract off (off + n) = vs.toArray := by
      apply Array.ext_getElem?
      intro j
      rw [Array.getElem?_extract]
      by_cases hj : j < vs.length
      · have := e2 j vs[j] (by simp [hj])
        have hlt : off + j < l.length := (List.getElem?_eq_some_iff.1 this).1
        simp only [List.size_toArray]
        rw [if_pos (by omega)]
        simp [this, hj]
      · rw [if_neg (by simp only [List.size_toArray]; omega)]
        simp [List.getElem?_eq_none (show vs.length ≤ j by omega)]
    simp only [execOp, h x _ hx, Instr.field, Sem.run_bind, run_underlying h1, Result.andThen_ok, h2, asAgg, part, h4, hs.agg, hs.size, h3, e3, Sem.run_pure, if_true]⟩

/-! ### strings and bytes -/
/-- These bytes lie in a row of cells from a place on. -/
def BytesAt (l : List Value) (o : Nat) (bs : List UInt8) : Prop := ∀ (j : Nat) (b : UInt8), bs[j]? = some b → l[o + j]? = some (.int .u8 (b.toNat : Int))
theorem BytesAt.get {l : List Value} {o : Nat} {bs : List UInt8} (h : BytesAt l o bs) {j k : Nat} (hj : j < bs.length) (hk : o + j = k) : l[k]? = some (.int .u8 ((bs[j]).toNat : Int)) := by
  subst hk; exact h j _ (by simp [hj])
theorem BytesAt.all (pre post : List Value) (bs : List UInt8) : BytesAt (pre ++ bytesV bs ++ post) pre.length bs := fun j b hj => by
  have hlt : j < bs.length := (List.getElem?_eq_some_iff.1 hj).1
  rw [List.append_assoc, List.getElem?_append_right (by omega)]
  simp only [Nat.add_sub_cancel_left]
  rw [List.getElem?_append_left (by simpa using hlt)]
  simp [bytesV, hj]
theorem BytesAt.whole (bs : List UInt8) (post : List Value) : BytesAt (bytesV bs ++ post) 0 bs := by simpa using BytesAt.all [] post bs
theorem BytesAt.sub {l : List Value} {o : Nat} {bs : List UInt8} (h : BytesAt l o bs) (k n : Nat) : BytesAt l (o + k) ((bs.drop k).take n) := fun j b hj => by
  rw [List.getElem?_take] at hj
  split at hj
  · rw [List.getElem?_drop] at hj
    have := h (k + j) b hj
    rwa [← Nat.add_assoc] at this
  · cases hj
theorem foldl_push : ∀ (bs : List UInt8) (r : ByteArray), (bs.map fun b => (b.toNat : Int)).foldl (fun r n => r.push (UInt8.ofNat n.toNat)) r = ⟨r.data ++ bs.toArray⟩
  | [], r => by simp
  | b :: bs, r => by
    simp only [List.map_cons, List.foldl_cons, Int.toNat_natCast]
    rw [foldl_push bs]
    apply ByteArray.ext
    simp [ByteArray.push]
theorem V.b2s {r o n cap : Nat} {bs : List UInt8} {l : List Value} {t' : TypeId} {z : Nat × Nat} {x : Operand} {t td el : TypeId} (hx : ev e x = some (.slice (some ⟨r, o, none⟩) n cap)) (ht : P.underlying t = some (.slice el)) (he : P.underlying el = some (.int .u8)) (hd : P.underlying td = some .string) [i : Rd r H (.cells l.toArray t' z)] (hb : BytesAt l o bs) (hn : bs.length = n) :
    ValOp P H e ⟨dst, .convert t td x, ty, pos, af, gd⟩ (.string ⟨bs.toArray⟩) :=
  ⟨fun ρ h g w s => by
    have hl : (loadCells ⟨r, o, none⟩ n).run P w = .ok ((bs.map fun b => (b.toNat : Int)).map (Value.int .u8)).toArray w := by
      refine run_loadCells_heap (s.get (r := r)) (by simp [hn]) fun j u hj => ?_
      simp only [List.map_map, List.getElem?_map, Option.map_eq_some_iff] at hj
      obtain ⟨b, hb1, rfl⟩ := hj
      exact hb j b hb1
    have h1 := run_bytesToString (P := P) w ⟨r, o, none⟩ n cap _ hl
    simp only [execOp, h x _ hx]
    simp [run_convert_bytes_string w t td el _ _ _ ht he hd, h1, foldl_push]⟩
theorem V.b2sN {n cap : Nat} {x : Operand} {t td el : TypeId} (hx : ev e x = some (.slice none n cap)) (ht : P.underlying t = some (.slice el)) (he : P.underlying el = some (.int .u8)) (hd : P.underlying td = some .string) :
    ValOp P H e ⟨dst, .convert t td x, ty, pos, af, gd⟩ (.string ⟨#[]⟩) :=
  ⟨fun ρ h g w s => by
    simp only [execOp, h x _ hx]
    simp [run_convert_bytes_string w t td el _ _ _ ht he hd, Conv.bytesToString]
    rfl⟩
theorem M.s2b {x : Operand} {t td el : TypeId} {s : ByteArray} (hx : ev e x = some (.string s)) (ht : P.underlying t = some .string) (hd : P.underlying td = some (.slice el)) (he : P.underlying el = some (.int .u8)) :
    AlOp P H e ⟨dst, .convert t td x, ty, pos, af, gd⟩ (fun (r : Nat × Nat) => .slice (some ⟨r.1, 0, none⟩) s.size r.2)
      (fun r => blk r.1 (.cells (bytesV s.data.toList ++ List.replicate (r.2 - s.size) (Value.int .u8 0)).toArray el ((s.size + (r.2 - s.size)), (s.size + (r.2 - s.size)) + 1)) * (pu (s.size ≤ r.2) * H)) :=
  ⟨fun ρ h g w sa => by
    have h1 := Lib.run_convert_string_bytes (P := P) w t td el s ht hd he
    have hsz : (Lib.bytesCells w el s).size = s.size + (grownCap w s.size 0 el - s.size) := by simp [Lib.bytesCells]
    have hcell : Lib.bytesCells w el s = (bytesV s.data.toList ++ List.replicate (grownCap w s.size 0 el - s.size) (Value.int .u8 0)).toArray := by
      apply Array.ext'; simp [Lib.bytesCells, bytesV]
    refine ⟨(w.heap.size, grownCap w s.size 0 el), Lib.bytesWorld w el s, ?_, ?_⟩
    · simp [execOp, h x _ hx, h1]
    · have s1 := sa.drew.new (.cells (Lib.bytesCells w el s) el)
      have s2 := s1.set (r := w.heap.size) (w' := Lib.bytesWorld w el s) rfl rfl (Lib.bytesWorld_at_new w el s) (fun q hq => by
        simp only [Lib.bytesWorld, World.freeze, Array.getElem?_modify]
        split
        · rfl
        · simp only [Array.getElem?_modify, if_neg (Ne.symm hq)]; rfl)
      rw [hsz] at s2
      rw [hcell] at s2
      refine s2.ent (Ent.framel _ (Ent.pure (grownCap_ge w s.size 0 el)))⟩

/-! ### copies and makes -/
theorem X.copy {r o dn dc m sn k : Nat} {l news : List Value} {t' xt : TypeId} {td el : TypeId} {y : Value} {H' : Obj → HP} {x z : Operand} {ts : Array TypeId} (hx : ev e x = some (.slice (some ⟨r, o, none⟩) dn dc)) (hz : ev e z = some y) (ht0 : ts[0]? = some td) (ht : P.underlying td = some (.slice el)) (hs : Size P el m)
    [i : At r H (.cells l.toArray t' (0, 0)) H'] (hsrc : Src P H xt y m sn news) (hk : min sn dn = k) (hfit : o + k * m ≤ l.length) :
    ExOp P H e ⟨dst, .call ⟨.builtin .copy, #[x, z], ts⟩, ty, pos, af, gd⟩ (fun v => pu (v = .int .i64 k) * H' (.cells (putAt l o (news.take (k * m))).toArray t' (0, 0))) :=
  ⟨fun ρ h g w s => by
    have hg := s.get (r := r)
    have hkn : k ≤ sn := by omega
    have hlen : (news.take (k * m)).length = k * m := by rw [List.length_take, hsrc.size]; exact Nat.min_eq_left (Nat.mul_le_mul_right m hkn)
    have hcell := hsrc.pre k hkn g w s
    have hst := run_storeCells_at P r o t' (news.take (k * m)) 0 l.toArray w hg (by simp only [List.size_toArray, hlen]; omega) (fun v hv => hsrc.one v (List.mem_of_mem_take hv))
    have hmin : Nat.min sn dn = k := hk
    refine ⟨.int .i64 k, w.setRow r (putAt l o (news.take (k * m))).toArray, ?_, ?_⟩
    · simp only [execOp, resolve, invoke, builtin, Builtin.copy_]
      simp [h x _ hx, h z _ hz, ht0, run_underlying ht, hsrc.len, hs.size, hmin, hcell, hst, putAt, goInt, hlen]
    · exact Sat.pureI rfl (s.set (r := r) rfl rfl (setRow_heap w r _ _ _ _ hg) (fun q hq => setRow_other w r q _ hq))⟩
def madeL (z : List Value) (n : Nat) : List Value := (List.range n).map fun i => z.getD (i % z.length) default
theorem madeL_const (v : Value) (k n : Nat) (hk : 0 < k) : madeL (List.replicate k v) n = List.replicate n v := by
  unfold madeL
  apply List.ext_getElem (by simp)
  intro i h1 h2
  have : i % k < k := Nat.mod_lt _ hk
  simp [List.getD, this]
theorem madeCells_eq (z : List Value) (n : Nat) (hz : 0 < z.length ∨ n = 0) : madeCells z.toArray n = (madeL z n).toArray := by
  unfold madeCells madeL
  apply Array.ext'
  simp only [Array.toList_map, Array.toList_range]
  apply List.map_congr_left
  intro i hi
  rcases hz with hz | hz
  · have : i % z.length < z.length := Nat.mod_lt _ hz
    simp [List.getD, this]
  · subst hz; simp at hi
theorem M.make {t el : TypeId} {m by_ n : Nat} {z : List Value} {x y : Operand} {k k' : IntKind} (hx : ev e x = some (.int k (n : Int))) (hy : ev e y = some (.int k' (n : Int))) (he : El P t el m by_ z) (hm : 0 < m) (hb : by_ * n ≤ 281474976710656) (h63 : n ≤ maxLen) :
    AlOp P H e ⟨dst, .makeSlice t x y, ty, pos, af, gd⟩ (fun (r : Nat) => .slice (some ⟨r, 0, none⟩) n n) (fun r => row r el (madeL z (n * m)) * H) :=
  ⟨fun ρ h g w s => by
    obtain ⟨i, zv, hi, hsz, hby, hz, hzc⟩ := he.info
    have h1 := run_make (P := P) w t el i zv he.under hi hz k k' n n (by omega) (by omega) (by rw [hby, ← Int.natCast_mul]; omega) (by simp only [maxLen] at h63; omega)
    rw [hzc, hsz, Int.toNat_natCast, madeCells_eq z _ (.inl (by rw [he.len]; exact hm))] at h1
    exact ⟨w.heap.size, _, by simp [execOp, h x _ hx, h y _ hy, h1], s.new _⟩⟩

/-! ### assertions -/
theorem V.isT {x : Operand} {t xt : TypeId} (hx : ev e x = some (.iface t v)) (ht : NotI P t) : ValOp P H e ⟨dst, .typeAssert x xt t true, ty, pos, af, gd⟩ (.tuple #[v, .bool true]) :=
  ⟨fun ρ h g w s => by
    obtain ⟨dT, hu, hd⟩ := ht.run
    simp only [execOp, h x _ hx, Instr.typeAssert]
    cases dT <;> first | (simp [notIfaceD] at hd; done) | simp [run_underlying hu]⟩
theorem V.isNot {x : Operand} {t t' xt : TypeId} (hx : ev e x = some (.iface t' v)) (ht : NotI P t) (hne : Nat.beq t' t = false) (hz : ∀ w, (zeroValue t).run P w = .ok u w) : ValOp P H e ⟨dst, .typeAssert x xt t true, ty, pos, af, gd⟩ (.tuple #[u, .bool false]) :=
  ⟨fun ρ h g w s => by
    have hne' : ¬ t' = t := fun he => by rw [he, Nat.beq_refl] at hne; cases hne
    obtain ⟨dT, hu, hd⟩ := ht.run
    simp only [execOp, h x _ hx, Instr.typeAssert]
    cases dT <;> first | (simp [notIfaceD] at hd; done) | simp [run_underlying hu, hne', hz]⟩
theorem V.isNil {x : Operand} {t xt : TypeId} (hx : ev e x = some .nilIface) (ht : NotI P t) (hz : ∀ w, (zeroValue t).run P w = .ok u w) : ValOp P H e ⟨dst, .typeAssert x xt t true, ty, pos, af, gd⟩ (.tuple #[u, .bool false]) :=
  ⟨fun ρ h g w s => by
    obtain ⟨dT, hu, hd⟩ := ht.run
    simp only [execOp, h x _ hx, Instr.typeAssert]
    cases dT <;> first | (simp [notIfaceD] at hd; done) | simp [run_underlying hu, hz]⟩
theorem V.s2s {x : Operand} {t t' : TypeId} {s : ByteArray} (hx : ev e x = some (.string s)) (ht : P.underlying t = some .string) (ht' : P.underlying t' = some .string) : ValOp P H e ⟨dst, .convert t t' x, ty, pos, af, gd⟩ (.string s) :=
  ⟨fun ρ h g w _ => by simp [execOp, h x _ hx, convert, run_underlying ht, run_underlying ht']⟩
theorem V.sliceStr {t : TypeId} {s : ByteArray} {l h : Nat} {x : Operand} {lo hi : Option Operand} {vl vh : Option Value} (hx : ev e x = some (.string s)) (ht : P.underlying t = some .string) (hlo : evo e lo = some vl) (hhi : evo e hi = some vh)
    (h1 : bnd vl 0 l) (h2 : bnd vh s.size h) (h3 : h ≤ s.size) (h4 : l ≤ h) : ValOp P H e ⟨dst, .slice t x lo hi none, ty, pos, af, gd⟩ (.string (s.extract l h)) :=
  ⟨fun ρ hh g w _ => by
    have := run_sliceBounds (P := P) (w := w) (b := false) h1 h2 h3 h4
    simp only [execOp, hh x _ hx, hh.opt hlo, hh.opt hhi, Instr.sliceAt, Option.map_none]
    simp [run_underlying ht, Instr.slice, this]⟩
end Go.Sl
/- Own layer, 11: slices that are only read. -/
namespace Go.Sl
variable {C : Cx} {H H' S A B F : HP} {e e' : Env} {Q : Post} {ops : Array Oper} {rest : List Oper} {c : Code}
variable {d : Tmp} {op : Op} {ty : TypeId} {pos : String} {af : Array Edge} {v u : Value} {P : Program} {dst : Option Tmp} {gd : Option (Nat × Bool)}

/-- One assertion is a part of another one. -/
class In (S H : HP) : Prop where
  get : ∀ g w, Sat g w H → Sat g w S
instance In.refl (S : HP) : In S S := ⟨fun _ _ h => h⟩
instance (priority := 1050) In.here (S F : HP) : In S (S * F) := ⟨fun _ _ h => h.ent (Ent.left S F)⟩
instance (priority := 900) In.there (S A F : HP) [i : In S F] : In S (A * F) := ⟨fun g w h => i.get g w (h.ent (Ent.right A F))⟩
instance (priority := 800) In.left (S A F : HP) [i : In S A] : In S (A * F) := ⟨fun g w h => i.get g w (h.ent (Ent.left A F))⟩

/-- A slice of n elements of m cells each reads so. -/
def Vw (H : HP) (v : Value) (m n : Nat) (xs : List Value) : Prop :=
  (v = .slice none 0 0 ∧ n = 0 ∧ xs = []) ∨ (∃ r o cap, v = .slice (some ⟨r, o, none⟩) n cap ∧ (n ≤ cap ∧ cap ≤ maxLen) ∧ xs.length = n * m ∧
    ∀ g w, Sat g w H → ∃ (c : List Value) (t : TypeId) (z : Nat × Nat), w.heap[r]? = some (.cells c.toArray t z) ∧ ∀ j x, xs[j]? = some x → c[o + j]? = some x) ∨ ((∃ a, v = .slice (some a) 0 0) ∧ n = 0 ∧ xs = [])
theorem Vw.lift {m n : Nat} {xs : List Value} (hw : Vw S v m n xs) [i : In S H] : Vw H v m n xs := by
  rcases hw with h | ⟨r, o, cap, h1, h2, h3, h4⟩ | h
  · exact .inl h
  · exact .inr (.inl ⟨r, o, cap, h1, h2, h3, fun g w s => h4 g w (i.get g w s)⟩)
  · exact .inr (.inr h)
theorem Vw.ent {m n : Nat} {xs : List Value} (hw : Vw S v m n xs) (hE : Ent H S) : Vw H v m n xs := by
  rcases hw with h | ⟨r, o, cap, h1, h2, h3, h4⟩ | h
  · exact .inl h
  · exact .inr (.inl ⟨r, o, cap, h1, h2, h3, fun g w s => h4 g w (s.ent hE)⟩)
  · exact .inr (.inr h)
theorem Vw.length {m n : Nat} {xs : List Value} (hw : Vw S v m n xs) : xs.length = n * m := by
  rcases hw with ⟨_, rfl, rfl⟩ | ⟨r, o, cap, h1, h2, h3, h4⟩ | ⟨_, rfl, rfl⟩
  · simp
  · exact h3
  · simp
theorem Vw.le {m n : Nat} {xs : List Value} (hw : Vw S v m n xs) : n ≤ 9223372036854775807 := by
  rcases hw with ⟨_, rfl, rfl⟩ | ⟨r, o, cap, h1, ⟨h2, h2'⟩, h3, h4⟩ | ⟨_, rfl, rfl⟩
  · simp
  · unfold maxLen at h2'; omega
  · simp
theorem Vw.nil (H : HP) (m : Nat) : Vw H (.slice none 0 0) m 0 [] := .inl ⟨rfl, rfl, rfl⟩
theorem Vw.row {r o n cap m : Nat} {l xs : List Value} {t : TypeId} {z : Nat × Nat} [i : Rd r H (.cells l.toArray t z)] (h1 : n ≤ cap) (hm : cap ≤ maxLen) (h2 : xs.length = n * m) (h3 : ∀ j x, xs[j]? = some x → l[o + j]? = some x) : Vw H (.slice (some ⟨r, o, none⟩) n cap) m n xs :=
  .inr (.inl ⟨r, o, cap, rfl, ⟨h1, hm⟩, h2, fun g w s => ⟨l, t, z, s.get (r := r), h3⟩⟩)
theorem Sat.own {g : Gh} {w : World} {el : TypeId} {m n : Nat} {xs : List Value} (s : Sat g w (own el m v n xs)) :
    (v = .slice none 0 0 ∧ n = 0 ∧ xs = []) ∨ ∃ r cap cur, v = .slice (some ⟨r, 0, none⟩) n cap ∧ n ≤ cap ∧ cap ≤ maxLen ∧ cur.length = cap * m ∧ cur.take (n * m) = xs ∧ xs.length = n * m ∧ Sat g w (Sl.row r el cur) := by
  obtain ⟨o, s⟩ := s.exE
  cases o with
  | none =>
    obtain ⟨_, _, f, h, _⟩ := s
    exact .inl h
  | some o =>
    obtain ⟨r, cap, cur⟩ := o
    obtain ⟨⟨h1, h2, h3, h4, h5, h6⟩, s2⟩ := s.pure
    exact .inr ⟨r, cap, cur, h1, h2, h3, h4, h5, h6, s2⟩
/-- What an assertion cannot be without. -/
theorem Wc.know {p : Prop} (hp : ∀ g w, Sat g w H → p) (k : p → Wc C H e c Q) : Wc C H e c Q := ⟨fun a w f s => (k (hp _ _ s)).run a w f s⟩
theorem Wl.know {p : Prop} (hp : ∀ g w, Sat g w H → p) (k : p → Wl C H e ops rest Q) : Wl C H e ops rest Q := ⟨fun a w f s => (k (hp _ _ s)).run a w f s⟩
theorem Wx.know {p : Prop} {x : Exit} (hp : ∀ g w, Sat g w H → p) (k : p → Wx C H e x Q) : Wx C H e x Q := ⟨fun a w f s => (k (hp _ _ s)).run a w f s⟩
theorem Ctr.know {f : FuncId} {args : List Value} {Φ : Value → HP} {p : Prop} (hf : ∀ vs w, (callFunc f vs).run P w = .ok (.enter f vs) w) (hp : ∀ g w, Sat g w A → p) (k : p → Ctr P f args A Φ) : Ctr P f args A Φ :=
  ⟨hf, fun F g w s => (k (hp g w (s.ent (Ent.left A F)))).calls F g w s⟩
/-- A slice that is owned has one of two shapes, if anything at all has. -/
theorem Vw.of_own (el : TypeId) (m : Nat) (v : Value) (n : Nat) (xs : List Value) (g : Gh) (w : World) (s : Sat g w (own el m v n xs)) : Vw (own el m v n xs) v m n xs := by
  rcases s.own with h | ⟨r, cap, cur, h1, h2, h3, h4, h5, h6, s2⟩
  · exact .inl h
  · refine .inr (.inl ⟨r, 0, cap, h1, ⟨h2, h3⟩, h6, fun g w s => ?_⟩)
    rcases s.own with ⟨h, _⟩ | ⟨r', cap', cur', h1', h2', h3', h4', h5', h6', s2'⟩
    · rw [h1] at h; cases h
    · rw [h1] at h1'
      injection h1' with e1 e2 e3
      injection e1 with e1
      injection e1 with e1
      subst e1
      refine ⟨cur', el, (0, 0), s2'.get, fun j x hj => ?_⟩
      rw [← h5', List.getElem?_take] at hj
      split at hj
      · simpa using hj
      · cases hj

/-! ### the values -/
def elp (v : Value) (k : Nat) : Value := match v with
  | .slice (some ⟨r, o, _⟩) _ _ => .pointer (some ⟨r, o + k, none⟩)
  | _ => undef
def subS (v : Value) (l h m : Nat) : Value := match v with
  | .slice (some ⟨r, o, s⟩) _ cap => .slice (some ⟨r, soff o l cap m, if cap = l then s else none⟩) (h - l) (cap - l)
  | _ => .slice none (h - l) 0
theorem V.lenW {x : Operand} {t el : TypeId} {m n : Nat} {xs : List Value} (hx : ev e x = some v) (ht : P.underlying t = some (.slice el)) (hw : Vw S v m n xs) : ValOp P H e ⟨dst, .call ⟨.builtin .len, #[x], #[t]⟩, ty, pos, af, gd⟩ (.int .i64 n) := by
  rcases hw with ⟨rfl, rfl, rfl⟩ | ⟨r, o, cap, rfl, h2, h3, h4⟩ | ⟨⟨a, rfl⟩, rfl, rfl⟩
  · exact V.lenS hx ht
  · exact V.lenS hx ht
  · exact V.lenS hx ht
theorem V.idxW {x y : Operand} {t el : TypeId} {m n : Nat} {xs : List Value} {k : IntKind} {i : Int} (hx : ev e x = some v) (hy : ev e y = some (.int k i)) (ht : P.underlying t = some (.slice el)) (hs : Size P el m) (hw : Vw S v m n xs) (h0 : 0 ≤ i) (h1 : i < n) :
    ValOp P H e ⟨dst, .indexAddr t x y, ty, pos, af, gd⟩ (elp v (i.toNat * m)) := by
  rcases hw with ⟨rfl, rfl, rfl⟩ | ⟨r, o, cap, rfl, h2, h3, h4⟩ | ⟨⟨a, rfl⟩, rfl, rfl⟩
  · omega
  · exact V.idx hx hy ht hs h0 h1 rfl
  · omega
theorem V.fldW (k' : Nat) {x : Operand} {t : TypeId} {f k off m n : Nat} {xs : List Value} (hx : ev e x = some (elp v k)) (hf : FOff P t f off) (hw : Vw S v m n xs) (hn : 0 < n) (hk : k + off = k') : ValOp P H e ⟨dst, .fieldAddr t x f, ty, pos, af, gd⟩ (elp v k') := by
  rcases hw with ⟨rfl, rfl, rfl⟩ | ⟨r, o, cap, rfl, h2, h3, h4⟩ | ⟨⟨a, rfl⟩, rfl, rfl⟩
  · omega
  · subst hk; exact V.fld _ hx hf (Nat.add_assoc _ _ _)
  · omega
theorem V.ldW {x : Operand} {t : TypeId} {k m n : Nat} {xs : List Value} (hx : ev e x = some (elp v k)) (ht : Scal P t) (hw : Vw S v m n xs) [i : In S H] (hv : xs[k]? = some u) : ValOp P H e ⟨dst, .load t x, ty, pos, af, gd⟩ u := by
  rcases hw with ⟨rfl, rfl, rfl⟩ | ⟨r, o, cap, rfl, h2, h3, h4⟩ | ⟨⟨a, rfl⟩, rfl, rfl⟩
  · cases hv
  · refine ⟨fun ρ h g w s => ?_⟩
    obtain ⟨c, t', z, hc, hr⟩ := h4 g w (i.get g w s)
    simp [execOp, h x _ hx, elp, Instr.loadAt, Instr.sureAddr, loadVar, ht.agg, run_load_heap hc (hr k u hv), -run_load]
  · cases hv
theorem V.ldAW {x : Operand} {t : TypeId} {k q m n : Nat} {xs vs : List Value} (hx : ev e x = some (elp v k)) (ht : Aggr P t q) (hw : Vw S v m n xs) [i : In S H] (hn : 0 < n) (hv : getN xs k q = some vs) : ValOp P H e ⟨dst, .load t x, ty, pos, af, gd⟩ (.agg vs.toArray) := by
  rcases hw with ⟨rfl, rfl, rfl⟩ | ⟨r, o, cap, rfl, h2, h3, h4⟩ | ⟨⟨a, rfl⟩, rfl, rfl⟩
  · omega
  · refine ⟨fun ρ h g w s => ?_⟩
    obtain ⟨c, t', z, hc, hr⟩ := h4 g w (i.get g w s)
    obtain ⟨h1, h2⟩ := getN_spec q xs k vs hv
    have := run_loadCells_heap (P := P) (k := o + k) hc h1 fun j v hj => by
      rw [Nat.add_assoc]; exact hr _ _ (h2 j v hj)
    simp [execOp, h x _ hx, elp, Instr.loadAt, Instr.sureAddr, loadVar, ht.agg, ht.size, this]
  · omega
theorem V.sliceZ {t el : TypeId} {m : Nat} {a : Addr} {x : Operand} {lo hi : Option Operand} {vl vh : Option Value} (hx : ev e x = some (.slice (some a) 0 0)) (ht : P.underlying t = some (.slice el)) (hs : Size P el m) (hlo : evo e lo = some vl) (hhi : evo e hi = some vh)
    (h1 : bnd vl 0 0) (h2 : bnd vh 0 0) : ValOp P H e ⟨dst, .slice t x lo hi none, ty, pos, af, gd⟩ (subS (.slice (some a) 0 0) 0 0 m) :=
  ⟨fun ρ hh g w s => by
    have := run_sliceBounds (P := P) (w := w) (b := true) h1 h2 (Nat.le_refl 0) (Nat.le_refl 0)
    obtain ⟨r, o, sp⟩ := a
    simp only [execOp, hh x _ hx, hh.opt hlo, hh.opt hhi, Instr.sliceAt, Option.map_none]
    simp [run_underlying ht, Instr.slice, this, hs.size, soff, subS]⟩
theorem V.sliceW {t el : TypeId} {m n l q : Nat} {xs : List Value} {x : Operand} {lo hi : Option Operand} {vl vh : Option Value} (hx : ev e x = some v) (ht : P.underlying t = some (.slice el)) (hs : Size P el m) (hlo : evo e lo = some vl) (hhi : evo e hi = some vh)
    (hw : Vw S v m n xs) (h1 : bnd vl 0 l) (h2 : bnd vh n q) (h3 : q ≤ n) (h4 : l ≤ q) : ValOp P H e ⟨dst, .slice t x lo hi none, ty, pos, af, gd⟩ (subS v l q m) := by
  rcases hw with ⟨rfl, rfl, rfl⟩ | ⟨r, o, cap, rfl, h5, h6, h7⟩ | ⟨⟨a, rfl⟩, rfl, rfl⟩
  · have : q = 0 := by omega
    subst this
    have : l = 0 := by omega
    subst this
    exact V.sliceN hx ht hs hlo hhi h1 h2 (Nat.zero_le _) h4
  · have := V.slice (H := H) (dst := dst) (ty := ty) (pos := pos) (af := af) (gd := gd) hx ht hs hlo hhi h1 h2 (show q ≤ cap by omega) h4
    simpa [subS] using this
  · have : q = 0 := by omega
    subst this
    have : l = 0 := by omega
    subst this
    exact V.sliceZ hx ht hs hlo hhi h1 h2
theorem Vw.sub {m n l q : Nat} {xs : List Value} (hw : Vw S v m n xs) (h3 : q ≤ n) (h4 : l ≤ q) : Vw S (subS v l q m) m (q - l) ((xs.drop (l * m)).take ((q - l) * m)) := by
  rcases hw with ⟨rfl, rfl, rfl⟩ | ⟨r, o, cap, rfl, h5, h6, h7⟩ | ⟨⟨a, rfl⟩, rfl, rfl⟩
  · have : q = 0 := by omega
    subst this
    simp [subS, Vw]
  · have hlen : ((xs.drop (l * m)).take ((q - l) * m)).length = (q - l) * m := by
      rw [List.length_take, List.length_drop, h6, ← Nat.sub_mul]
      exact Nat.min_eq_left (Nat.mul_le_mul_right m (by omega))
    refine .inr (.inl ⟨r, soff o l cap m, cap - l, by simp [subS], ⟨by omega, by omega⟩, hlen, fun g w s => ?_⟩)
    obtain ⟨c, t, z, hc, hr⟩ := h7 g w s
    refine ⟨c, t, z, hc, fun j x hj => ?_⟩
    have hj' : j < (q - l) * m := by rw [← hlen]; exact (List.getElem?_eq_some_iff.1 hj).1
    have hlt : l < cap := by
      rcases Nat.lt_or_ge l q with h | h
      · omega
      · rw [Nat.sub_eq_zero_of_le h, Nat.zero_mul] at hj'; omega
    rw [List.getElem?_take, if_pos hj', List.getElem?_drop] at hj
    rw [soff_lt hlt, Nat.add_assoc]
    exact hr _ _ hj
  · have : q = 0 := by omega
    subst this
    have : l = 0 := by omega
    subst this
    exact .inr (.inr ⟨⟨_, rfl⟩, rfl, by simp⟩)
theorem Src.vw {xt el' : TypeId} {m n : Nat} {xs : List Value} (ht : P.underlying xt = some (.slice el')) (hw : Vw S v m n xs) [i : In S H] (h1 : ∀ x ∈ xs, x.oneCell' = true) : Src P H xt v m n xs := by
  rcases hw with ⟨rfl, rfl, rfl⟩ | ⟨r, o, cap, rfl, h5, h6, h7⟩ | ⟨⟨a, rfl⟩, rfl, rfl⟩
  · exact Src.nil ht
  · exact {
      ty := .inl ⟨_, ht⟩
      len := fun w => rfl
      pre := fun k hk g w s => by
        obtain ⟨c, t, z, hc, hr⟩ := h7 g w (i.get g w s)
        refine run_loadCells_heap hc ?_ fun j u hj => ?_
        · rw [List.length_take, h6]; exact Nat.min_eq_left (Nat.mul_le_mul_right m hk)
        · rw [List.getElem?_take] at hj
          split at hj
          · exact hr j u hj
          · cases hj
      size := h6
      one := h1 }
  · exact {
      ty := .inl ⟨_, ht⟩
      len := fun w => rfl
      pre := fun k hk g w s => by
        obtain rfl : k = 0 := by omega
        simp only [Builtin.firstCells, Nat.zero_mul, Nat.mul_zero, List.take_zero]
        rfl
      size := by simp
      one := h1 }
theorem bytesV_one (bs : List UInt8) : ∀ x ∈ bytesV bs, x.oneCell' = true := by
  intro x hx
  obtain ⟨b, _, rfl⟩ := List.mem_map.1 hx
  rfl
theorem bytesV_get (bs : List UInt8) (j : Nat) : (bytesV bs)[j]? = (bs[j]?).map fun b => (Value.int .u8 b.toNat) := by simp [bytesV]
theorem V.b2sW {n : Nat} {bs : List UInt8} {x : Operand} {t td el : TypeId} (hx : ev e x = some v) (ht : P.underlying t = some (.slice el)) (he : P.underlying el = some (.int .u8)) (hd : P.underlying td = some .string) (hw : Vw S v 1 n (bytesV bs)) [i : In S H] :
    ValOp P H e ⟨dst, .convert t td x, ty, pos, af, gd⟩ (.string ⟨bs.toArray⟩) := by
  rcases hw with ⟨rfl, rfl, h⟩ | ⟨r, o, cap, rfl, h5, h6, h7⟩ | ⟨⟨a, rfl⟩, rfl, h⟩
  · have : bs = [] := by cases bs with
      | nil => rfl
      | cons => simp [bytesV] at h
    subst this
    exact V.b2sN hx ht he hd
  · refine ⟨fun ρ h g w s => ?_⟩
    obtain ⟨c, t', z, hc, hr⟩ := h7 g w (i.get g w s)
    have hl : (loadCells ⟨r, o, none⟩ n).run P w = .ok ((bs.map fun b => (b.toNat : Int)).map (Value.int .u8)).toArray w := by
      refine run_loadCells_heap hc (by simpa using h6) fun j u hj => hr j u ?_
      simpa [bytesV, Function.comp_def] using hj
    have h1 := run_bytesToString (P := P) w ⟨r, o, none⟩ n cap _ hl
    simp only [execOp, h x _ hx]
    simp [run_convert_bytes_string w t td el _ _ _ ht he hd, h1, foldl_push]
  · have : bs = [] := by cases bs with
      | nil => rfl
      | cons => simp [bytesV] at h
    subst this
    refine ⟨fun ρ h g w s => ?_⟩
    have hl : (loadCells a 0).run P w = .ok (([] : List Int).map (Value.int .u8)).toArray w := rfl
    have h1 := run_bytesToString (P := P) w a 0 0 _ hl
    simp only [execOp, h x _ hx]
    simp [run_convert_bytes_string w t td el _ _ _ ht he hd, h1]
    rfl
end Go.Sl
/- Own layer, 12: panics, deferred calls that recover. -/
namespace Go.Sl
variable {C : Cx} {H H' S A B F : HP} {e e' : Env} {Q : Post} {ops : Array Oper} {rest : List Oper} {c : Code}
variable {d : Tmp} {op : Op} {ty : TypeId} {pos : String} {af : Array Edge} {v u : Value} {P : Program} {dst : Option Tmp} {gd : Option (Nat × Bool)}

/-- What a call keeps that returns or panics. -/
structure CtrP (P : Program) (f : FuncId) (args : List Value) (A : HP) (Φ : Value → HP) (ch : List PanicEntry) (Ψ : HP) : Prop where
  enters : ∀ vs w, (callFunc f vs).run P w = .ok (.enter f vs) w
  calls : ∀ F g w, Sat g w (A * F) → Calls P f args.toArray w (fun e w' => (∃ v, e = .returned v ∧ Sat g w' (Φ v * F)) ∨ (e = .panicked ch ∧ Sat g w' (Ψ * F)))
def BackP (g : Gh) (Φ : Value → HP) (ch : List PanicEntry) (Ψ : HP) (F : HP) : Ending → World → Prop := fun e w' => (∃ v, e = .returned v ∧ Sat g w' (Φ v * F)) ∨ (e = .panicked ch ∧ Sat g w' (Ψ * F))
/-- Into a body, whatever is to hold behind it. -/
theorem into_body {f : FuncId} {fn : Func} {c : Code} {args : List Value} {m : Nat} {R : Ending → World → Prop} {g : Gh} {w : World} (hf : P.funcs[f]? = some fn) (hb : fn.body = some c) (hnt : fn.ntmps = m)
    (hle : Nat.ble args.length m = true) (he' : argEnvO 0 args = some e) (k : Wc ⟨P, g, m, []⟩ H e c (bodyPost P fn R)) (s : Sat g w H) : Calls P f args.toArray w R := by
  have he : argEnv 0 args = e := by rw [argEnvO_eq] at he'; injection he'
  refine calls_of_wp hf hb (k.run _ w ⟨?_, rfl, fun t v ht => ?_⟩ s)
  · have := Nat.le_of_ble_eq_true hle
    simp [hnt]; omega
  · rw [← he] at ht
    obtain ⟨_, h2⟩ := look_argEnv 0 args t v ht
    have hlt : t < args.length := by
      rcases Nat.lt_or_ge t args.length with h | h
      · exact h
      · simp [List.getElem?_eq_none h] at h2
    simp only [Nat.sub_zero] at h2
    show (args.toArray ++ _).getD t undef = v
    rw [Array.getD_eq_getD_getElem?, Array.getElem?_append_left (by simpa using hlt)]
    simp [h2]
theorem into_bodyD {f : FuncId} {fn : Func} {c : Code} {args : List Value} {m : Nat} {R : Ending → World → Prop} {g : Gh} {w : World} (hf : P.funcs[f]? = some fn) (hb : fn.body = some c) (hnt : fn.ntmps = m)
    (hle : Nat.ble args.length m = true) (he' : argEnvO 0 args = some e) (k : Wc ⟨P, g, m, []⟩ H e c (bodyPostD P fn R)) (s : Sat g w H) : Calls P f args.toArray w R := by
  have he : argEnv 0 args = e := by rw [argEnvO_eq] at he'; injection he'
  refine calls_of_wp_defers hf hb (k.run _ w ⟨?_, rfl, fun t v ht => ?_⟩ s)
  · have := Nat.le_of_ble_eq_true hle
    simp [hnt]; omega
  · rw [← he] at ht
    obtain ⟨_, h2⟩ := look_argEnv 0 args t v ht
    have hlt : t < args.length := by
      rcases Nat.lt_or_ge t args.length with h | h
      · exact h
      · simp [List.getElem?_eq_none h] at h2
    simp only [Nat.sub_zero] at h2
    show (args.toArray ++ _).getD t undef = v
    rw [Array.getD_eq_getD_getElem?, Array.getElem?_append_left (by simpa using hlt)]
    simp [h2]
theorem enters_of {f : FuncId} {fn : Func} {c : Code} (hf : P.funcs[f]? = some fn) (hb : fn.body = some c) (hn : (fn.name == "runtime.NumGoroutine") = false) (vs : Array Value) (w : World) : (callFunc f vs).run P w = .ok (.enter f vs) w := by
  unfold callFunc
  simp only [beq_eq_false_iff_ne, ne_eq] at hn
  simp [hf, hn, hb]
theorem CtrP.of_body {f : FuncId} {fn : Func} {c : Code} {args : List Value} {Φ : Value → HP} {ch : List PanicEntry} {Ψ : HP} {m : Nat} (hf : P.funcs[f]? = some fn) (hb : fn.body = some c) (hnt : fn.ntmps = m)
    (hn : (fn.name == "runtime.NumGoroutine") = false) (hle : Nat.ble args.length m = true) (he' : argEnvO 0 args = some e)
    (k : ∀ F g, Wc ⟨P, g, m, []⟩ (A * F) e c (bodyPost P fn (BackP g Φ ch Ψ F))) : CtrP P f args A Φ ch Ψ where
  enters := fun vs w => enters_of hf hb hn vs w
  calls := fun F g w s => into_body hf hb hnt hle he' (k F g) s
theorem Ctr.of_bodyD {f : FuncId} {fn : Func} {c : Code} {args : List Value} {Φ : Value → HP} {m : Nat} (hf : P.funcs[f]? = some fn) (hb : fn.body = some c) (hnt : fn.ntmps = m)
    (hn : (fn.name == "runtime.NumGoroutine") = false) (hle : Nat.ble args.length m = true) (he' : argEnvO 0 args = some e)
    (k : ∀ F g, Wc ⟨P, g, m, []⟩ (A * F) e c (bodyPostD P fn (Back g Φ F))) : Ctr P f args A Φ where
  enters := fun vs w => enters_of hf hb hn vs w
  calls := fun F g w s => into_bodyD hf hb hnt hle he' (k F g) s
theorem Wx.retP1 {fn : Func} {Φ : Value → HP} {ch : List PanicEntry} {Ψ : HP} {t : Nat} (hd : C.ds = []) (hr : fn.results = #[.tmp t]) (hv : look e t = some v) (hp : Ent H (Φ v * F)) : Wx C H e .ret (bodyPost C.P fn (BackP C.g Φ ch Ψ F)) :=
  ⟨fun a w f s => ⟨f.defers.trans hd, _, results_tmp hr _ _ _, .inl ⟨_, rfl, by rw [f.look t v hv]; exact s.ent hp⟩⟩⟩
theorem Wx.rvP1 {fn : Func} {Φ : Value → HP} {ch : List PanicEntry} {Ψ : HP} {x : ResultVar} (hd : C.ds = []) (hr : fn.results = #[x]) (h1 : RV C.P H e x v) (hp : Ent H (Φ v * F)) : Wx C H e .ret (bodyPost C.P fn (BackP C.g Φ ch Ψ F)) :=
  ⟨fun _ _ f s => ⟨f.defers.trans hd, _, run_results1 hr h1 f s, .inl ⟨_, rfl, s.ent hp⟩⟩⟩
theorem Wx.panicP {fn : Func} {Φ : Value → HP} {ch : List PanicEntry} {Ψ : HP} (hd : C.ds = []) (hp : Ent H (Ψ * F)) : Wx C H e (.panic ch) (bodyPost C.P fn (BackP C.g Φ ch Ψ F)) :=
  ⟨fun a w f s => ⟨f.defers.trans hd, .inr ⟨rfl, s.ent hp⟩⟩⟩
theorem Wl.panic {x : Operand} {t : TypeId} (hx : ev e x = some (.iface t v)) (k : Wx C H e (.panic [⟨.iface t v, false, false⟩]) Q) : Wl C H e ops (⟨dst, .panic x, ty, pos, af, none⟩ :: rest) Q :=
  ⟨fun a w fi s => wpList_plain rfl fun K hK => by
    unfold Oper.wp
    have h1 : (execOp a.eval ⟨dst, .panic x, ty, pos, af, none⟩).run C.P w = .halt (.panic (.iface t v)) w := by
      simp only [execOp, fi.agrees x _ hx, Instr.panic]
      simp [goPanic]
    rw [h1]
    exact k.run a w fi s⟩
theorem run_callP {f : FuncId} {xs : List Operand} {vs : List Value} {ts : Array TypeId} {ρ : Operand → Value} (hs : ∀ vs w, (callFunc f vs).run P w = .ok (.enter f vs) w) (h : Agrees ρ e) (hx : evs e xs = some vs) (w : World) :
    (execOp ρ ⟨dst, .call ⟨.value (.func f), xs.toArray, ts⟩, ty, pos, af, gd⟩).run P w = .ok (.enter f vs.toArray) w := by
  have h1 := h.list xs vs hx
  have h2 : ρ (.func f) = .func (.func f) #[] #[] := h _ _ rfl
  have h3 : Array.map ρ xs.toArray = vs.toArray := by rw [← h1]; simp
  have := hs vs.toArray w
  simp only [execOp, resolve, h2, h3, Deferred.ofValue, Array.empty_append]
  simp [invoke, this]
theorem Wl.callP {f : FuncId} {xs : List Operand} {vs : List Value} {ts : Array TypeId} {Φ : Value → HP} {ch : List PanicEntry} {Ψ : HP} (hn : Nat.blt d C.n = true) (hx : evs e xs = some vs) (hs : CtrP C.P f vs A Φ ch Ψ) (ht : Take A H F)
    (kp : Wx C (Ψ * F) e (.panic ch) Q) (k : ∀ v, Wl C (Φ v * F) ((d, v) :: e) ops rest Q) :
    Wl C H e ops (⟨some d, .call ⟨.value (.func f), xs.toArray, ts⟩, ty, pos, af, none⟩ :: rest) Q :=
  ⟨fun a w fi s => wpList_plain rfl fun K hK => by
    unfold Oper.wp
    rw [run_callP hs.enters fi.agrees hx w]
    refine Calls.mono (hs.calls F C.g w (s.ent ht.to)) fun e w' hR => ?_
    rcases hR with ⟨v, rfl, s'⟩ | ⟨rfl, s'⟩
    · exact hK _ _ ((k v).run _ _ (fi.put hn v) s')
    · exact kp.run _ _ fi s'⟩

/-! ### deferred calls -/
theorem Wl.defer {y : Operand} {f : FuncId} {fs cs : List Value} {ts : Array TypeId} (hy : ev e y = some (.func (.func f) fs.toArray cs.toArray))
    (k : Wl ⟨C.P, C.g, C.n, ⟨.fn (.func f) cs.toArray, fs.toArray⟩ :: C.ds⟩ H e ops rest Q) : Wl C H e ops (⟨none, .defer ⟨.value y, #[], ts⟩, ty, pos, af, none⟩ :: rest) Q :=
  ⟨fun a w fi s => wpList_plain rfl fun K hK => by
    unfold Oper.wp
    have h1 : (execOp a.eval ⟨none, .defer ⟨.value y, #[], ts⟩, ty, pos, af, none⟩).run C.P w = .ok (.defer ⟨.fn (.func f) cs.toArray, fs.toArray⟩) w := by
      simp only [execOp, resolve, fi.agrees y _ hy, Deferred.ofValue]
      simp
    rw [h1]
    exact hK _ _ (k.run _ _ ⟨fi.size, by simp [Act.put, fi.defers], fi.look⟩ s)⟩
/-- What a deferred call keeps, while its caller is at an end of this kind. -/
structure CtrD (P : Program) (f : FuncId) (args : List Value) (u : FrameMode) (A : HP) (u' : FrameMode) (B : HP) : Prop where
  enters : ∀ vs w, (callFunc f vs).run P w = .ok (.enter f vs) w
  calls : ∀ F g w, Sat g w (A * F) → CallsD P f args.toArray u w (fun e u'' w' => (∃ v, e = .returned v) ∧ u'' = u' ∧ Sat g w' (B * F))
theorem leaves_of {fn : Func} {tmps : Array Value} {R : Ending → World → Prop} {f : FuncId} {fs cs : List Value} {u u' : FrameMode} {g : Gh} {w : World} (hu : u ≠ .run) (hs : CtrD P f (fs ++ cs) u A u' B) (h : Sat g w (A * F))
    (k : ∀ w', Sat g w' (B * F) → Leaves P fn tmps R [] (settle u') w') : Leaves P fn tmps R [⟨.fn (.func f) cs.toArray, fs.toArray⟩] u w := by
  refine ⟨hu, .func f, cs.toArray, f, (fs ++ cs).toArray, rfl, ?_, ?_⟩
  · have := hs.enters (fs ++ cs).toArray w
    simp [invoke] at this ⊢
    simp [this]
  · have := hs.calls F g w h
    intro c cs' hc
    obtain ⟨e, u'', w', fr, hR, h2, h3, h4⟩ := this c cs' hc
    obtain ⟨⟨v, rfl⟩, rfl, s'⟩ := hR
    exact ⟨_, _, w', fr, k w' s', h2, h3, h4⟩
/-- An end of a function with one deferred call, and two results. -/
theorem Wx.leave2 {fn : Func} {Φ : Value → HP} {x y : ResultVar} {f : FuncId} {fs cs : List Value} {u' : FrameMode} {ex : Exit} {um : FrameMode} (hd : C.ds = [⟨.fn (.func f) cs.toArray, fs.toArray⟩]) (hr : fn.results = #[x, y]) (hs : CtrD C.P f (fs ++ cs) um A u' B) (hu : settle u' = .returning) (ht : Ent H (A * H'))
    (hm : um ≠ .run) (hex : (ex = .ret ∧ um = .returning) ∨ ∃ ch, ex = .panic ch ∧ um = .panicking ch) (h1 : RV C.P (B * H') e x v) (h2 : RV C.P (B * H') e y u) (hp : Ent (B * H') (Φ (.tuple #[v, u]) * F)) : Wx C H e ex (bodyPostD C.P fn (Back C.g Φ F)) :=
  ⟨fun a w fi s => by
    have := leaves_of (fn := fn) (tmps := a.tmps) (R := Back C.g Φ F) hm hs (s.ent ht) fun w' s' => by
      rw [hu]
      exact ⟨_, run_results2 hr h1 h2 fi s', _, rfl, s'.ent hp⟩
    rcases hex with ⟨rfl, rfl⟩ | ⟨ch, rfl, rfl⟩
    · show Leaves C.P fn a.tmps _ a.defers .returning w
      rw [fi.defers, hd]; exact this
    · show Leaves C.P fn a.tmps _ a.defers (.panicking ch) w
      rw [fi.defers, hd]; exact this⟩
/-- The body of a deferred function. -/
theorem CtrD.of_body {f : FuncId} {fn : Func} {c : Code} {args : List Value} {m : Nat} {u u' : FrameMode} (hf : P.funcs[f]? = some fn) (hb : fn.body = some c) (hnt : fn.ntmps = m)
    (hn : (fn.name == "runtime.NumGoroutine") = false) (hle : Nat.ble args.length m = true) (he' : argEnvO 0 args = some e)
    (k : ∀ F g c₀ cs a w, c₀.mode = u → Fits a m [] e → Sat g w (A * F) → c.wpS P (bodyPostS P fn c₀ cs fun e u'' w' => (∃ v, e = .returned v) ∧ u'' = u' ∧ Sat g w' (B * F)) a (c₀ :: cs) w) : CtrD P f args u A u' B where
  enters := fun vs w => enters_of hf hb hn vs w
  calls := fun F g w s => by
    have he : argEnv 0 args = e := by rw [argEnvO_eq] at he'; injection he'
    refine callsD_of_wpS hf hb fun c₀ cs hc => k F g c₀ cs _ w hc ⟨?_, rfl, fun t v ht => ?_⟩ s
    · have := Nat.le_of_ble_eq_true hle
      simp [hnt]; omega
    · rw [← he] at ht
      obtain ⟨_, h2⟩ := look_argEnv 0 args t v ht
      have hlt : t < args.length := by
        rcases Nat.lt_or_ge t args.length with h | h
        · exact h
        · simp [List.getElem?_eq_none h] at h2
      simp only [Nat.sub_zero] at h2
      show (args.toArray ++ _).getD t undef = v
      rw [Array.getD_eq_getD_getElem?, Array.getElem?_append_left (by simpa using hlt)]
      simp [h2]
/-- A region that begins by a recover. -/
theorem wpS_recover {id : Nat} {x : Oper} {l : List Oper} {t : Tmp} {Q : Exit → Act → List Frame → World → Prop} {a : Act} {cs cs' : List Frame} {w : World} {rv : Value} (hx : x = ⟨some t, .call ⟨.builtin .recover, #[], #[]⟩, ty, pos, af, none⟩)
    (hr : recoverD cs = some (rv, cs')) (h : wpOpsS P (x :: l).toArray Q (List.range' 1 l.length) (a.put (some t) rv) cs' w) : (Code.region id (x :: l).toArray false).wpS P Q a cs w := by
  subst hx
  refine wpS_region ?_
  rw [show (List.range (Array.size (List.toArray (⟨some t, .call ⟨.builtin .recover, #[], #[]⟩, ty, pos, af, none⟩ :: l)))) = 0 :: List.range' 1 l.length by simp [List.range_eq_range', List.range'_succ]]
  unfold wpOpsS
  have h1 : (execOp a.eval ⟨some t, .call ⟨.builtin .recover, #[], #[]⟩, ty, pos, af, none⟩).run P w = .ok .recover w := by
    simp [execOp, resolve, invoke, builtin]
  simp [Region.wanted, h1, hr]
  exact h
theorem wpS_recoverN {id : Nat} {x : Oper} {l : List Oper} {t : Tmp} {Q : Exit → Act → List Frame → World → Prop} {a : Act} {cs : List Frame} {w : World} (hx : x = ⟨some t, .call ⟨.builtin .recover, #[], #[]⟩, ty, pos, af, none⟩)
    (hr : recoverD cs = none) (h : wpOpsS P (x :: l).toArray Q (List.range' 1 l.length) (a.put (some t) .nilIface) cs w) : (Code.region id (x :: l).toArray false).wpS P Q a cs w := by
  subst hx
  refine wpS_region ?_
  rw [show (List.range (Array.size (List.toArray (⟨some t, .call ⟨.builtin .recover, #[], #[]⟩, ty, pos, af, none⟩ :: l)))) = 0 :: List.range' 1 l.length by simp [List.range_eq_range', List.range'_succ]]
  unfold wpOpsS
  have h1 : (execOp a.eval ⟨some t, .call ⟨.builtin .recover, #[], #[]⟩, ty, pos, af, none⟩).run P w = .ok .recover w := by
    simp [execOp, resolve, invoke, builtin]
  simp [Region.wanted, h1, hr]
  exact h
theorem wpOpsS_assign {ops : Array Oper} {i : Nat} {x : Operand} {t : Tmp} {Q : Exit → Act → List Frame → World → Prop} {a : Act} {cs : List Frame} {w : World} {n : Nat} (hi : ops[i]? = some ⟨some t, .assign x, ty, pos, af, none⟩) (hn : n = 1)
    (h : Q .normal (a.put (some t) (a.eval x)) cs w) : wpOpsS P ops Q (List.range' i n) a cs w := by
  subst hn
  simp only [List.range'_succ, List.range'_zero]
  unfold wpOpsS
  rw [hi]
  simp [Region.wanted, execOp, Oper.upon]
  unfold wpOpsS
  exact h
theorem wpS_rest {n : Nat} {ds : List Deferred} {g : Gh} {Q : Exit → Act → List Frame → World → Prop} {a : Act} {cs : List Frame} {w : World} (fi : Fits a n ds e) (s : Sat g w H) (h : Wc ⟨P, g, n, ds⟩ H e c (fun e a' w' => Q e a' cs w')) : c.wpS P Q a cs w :=
  wpS_of_wp (h.run a w fi s)
theorem V.lenT {x : Operand} {t : TypeId} {l : List UInt8} (hx : ev e x = some (.string ⟨l.toArray⟩)) (ht : P.underlying t = some .string) : ValOp P H e ⟨dst, .call ⟨.builtin .len, #[x], #[t]⟩, ty, pos, af, gd⟩ (.int .i64 (l.length : Int)) := V.lenStr hx ht
/-! ### finding parts -/
class TakeC (A H : HP) (R : outParam HP) : Prop where
  t : Take A H R
instance (priority := 1200) TakeC.here (A F : HP) : TakeC A (A * F) F := ⟨Take.here⟩
instance (priority := 900) TakeC.there (A B H R : HP) [i : TakeC A H R] : TakeC A (B * H) (B * R) := ⟨Take.there i.t⟩
theorem Take.left {A B F R : HP} (h : Take A B R) : Take A (B * F) (R * F) :=
  ⟨(h.to.frame F).trans (Ent.of_eq (sep_assoc _ _ _)), (Ent.of_eq (sep_assoc _ _ _).symm).trans (h.back.frame F)⟩
instance (priority := 800) TakeC.left (A B F R : HP) [i : TakeC A B R] : TakeC A (B * F) (R * F) := ⟨Take.left i.t⟩
class En (H G : HP) : Prop where
  e : Ent H G
instance (priority := 1200) En.refl (H : HP) : En H H := ⟨Ent.refl H⟩
instance (priority := 1190) En.none (H : HP) : En H Sl.emp := ⟨fun h a => ⟨h, trivial, fun _ _ x => x⟩⟩
instance (priority := 1180) En.empL (H G : HP) [i : En H G] : En H (Sl.emp * G) := ⟨i.e.trans (Ent.emp G)⟩
instance (priority := 1170) En.assoc (H A B F : HP) [i : En H (A * (B * F))] : En H (A * B * F) := ⟨i.e.trans (Ent.of_eq (sep_assoc _ _ _).symm)⟩
instance (priority := 1100) En.take (H A G R : HP) [i : TakeC A H R] [j : En R G] : En H (A * G) := ⟨i.t.to.trans (j.e.framel A)⟩
instance (priority := 900) En.drop (A H G : HP) [i : En H G] : En (A * H) G := ⟨(Ent.right A H).trans i.e⟩
instance (priority := 800) En.dropR (A H G : HP) [i : En A G] : En (A * H) G := ⟨(Ent.left A H).trans i.e⟩
theorem Ent.auto {H G : HP} [i : En H G] : Ent H G := i.e
theorem own_to {el : TypeId} {m n n' : Nat} {xs xs' : List Value} (h1 : n = n') (h2 : xs = xs') : Ent (own el m v n xs) (own el m v n' xs') := by subst h1 h2; exact Ent.refl _
theorem Ent.puC {p : Prop} {H G : HP} (hp : p) [i : En H G] : Ent H (pu p * G) := i.e.trans (Ent.pure hp)
theorem Ent.resC {p : Prop} {H B F : HP} (hp : p) [i : En H (B * F)] : Ent H (pu p * B * F) := Ent.res hp i.e
theorem Ent.puOwn {p : Prop} {H F : HP} {el : TypeId} {m n n' : Nat} {xs xs' : List Value} (hp : p) (h1 : n = n') (h2 : xs = xs') [i : En H F] : Ent (own el m v n xs * H) (pu p * (own el m v n' xs' * F)) := by
  subst h1 h2; exact (i.e.framel _).trans (Ent.pure hp)
theorem Ent.empR (A : HP) : Ent A (A * Sl.emp) := by rw [sep_comm]; exact Ent.emp A
theorem Ent.unemp (A : HP) : Ent (A * Sl.emp) A := Ent.left A _
instance (priority := 700) At.left {r : Nat} {A F : HP} {o : Obj} {A' : Obj → HP} [i : At r A o A'] : At r (A * F) o (fun o' => A' o' * F) := by
  have h : At r (F * A) o (fun o' => F * A' o') := At.there' i
  rw [sep_comm]
  refine ⟨h.get, fun f o' hf => ?_⟩
  rw [sep_comm]
  exact h.upd f o' hf
instance (priority := 1195) En.assocS (A B F G : HP) [i : En (A * (B * F)) G] : En (A * B * F) G := ⟨(Ent.of_eq (sep_assoc A B F)).trans i.e⟩
instance (priority := 700) TakeC.self (A : HP) : TakeC A A Sl.emp := ⟨⟨Ent.empR A, Ent.left A _⟩⟩
theorem subS_one (v : Value) (l h m : Nat) : (subS v l h m).oneCell' = true := by
  unfold subS; split <;> rfl
theorem Vw.one {S : HP} {m n : Nat} {xs : List Value} (hw : Vw S v m n xs) : v.oneCell' = true := by
  rcases hw with ⟨rfl, _⟩ | ⟨r, o, cap, rfl, _⟩ | ⟨⟨a, rfl⟩, _⟩ <;> rfl
/-! ### more: calls that panic in regions that draw; cuts -/
section
variable {M : HP} {listed : Array Bool} {n f f' : Nat} {is : List Nat}
theorem Wm.callMP {ι : Type} {i : Nat} {rs : List Nat} {vr : ι → Value} {B : ι → HP} {g : FuncId} {xs : List Operand} {vs : List Value} {ts : Array TypeId} {ch : List PanicEntry} {Ψ : HP} {ops : Array Oper} (hi : ops[i]? = some ⟨some d, .call ⟨.value (.func g), xs.toArray, ts⟩, ty, pos, af, none⟩) (hin : Nat.blt i n = true) (hd : Nat.blt d C.n = true)
    (hx : evs e xs = some vs) (hs : CtrP C.P g vs A (fun v => Sl.ex fun x => pu (v = vr x) * B x) ch Ψ) (ht : Take A M F) (kp : Wx C (Ψ * (S * F)) [] (.panic ch) Q)
    (k : ∀ x, Wr C S (B x * F) ((d, vr x) :: e) ops n (listed.setIfInBounds i true) f Q) (ks : Wm C S M e ops n listed f Q rs) : Wm C S M e ops n listed f Q (i :: rs) :=
  wm_step (N := fun x => B x * F) hi rfl hin (fun a fi w s => by
    rw [run_callP hs.enters fi.agrees hx w]
    replace s := s.ent ((ht.to.framel S).trans (Ent.of_eq (sep_left_comm _ _ _)))
    refine (hs.calls (S * F) C.g w s).mono fun e w' hR => ?_
    rcases hR with ⟨v, he, s'⟩ | ⟨he, s'⟩
    · rw [ex_mul] at s'
      obtain ⟨x, s'⟩ := s'.exE
      rw [sep_assoc] at s'
      obtain ⟨hv, s2⟩ := s'.pure
      exact .inl ⟨x, hv ▸ he, by rw [sep_left_comm]; exact s2⟩
    · exact .inr ⟨ch, he, fun a h1 h2 => kp.run a w' ⟨h1, h2, fun t v h => by cases h⟩ s'⟩) (fun a x fi => fi.put hd _) k ks
end
theorem Wc.cut {x y : Code} (H' : HP) (e' : Env) (h1 : Wc C H e x (Exit.then (fun a w => Fits a C.n C.ds e' ∧ Sat C.g w H') Q)) (h2 : Wc C H' e' y Q) : Wc C H e (.seq x y) Q :=
  ⟨fun a w f s => wp_seq (wp_mono (h1.run a w f s) fun ex a' w' q => by
    cases ex with
    | normal => exact h2.run a' w' q.1 q.2
    | exit id => exact q
    | goto l => exact q
    | ret => exact q
    | panic ch => exact q
    | outgrown => exact q)⟩
theorem Wx.cutn (h : Ent H H') (he : sub e e') : Wx C H e .normal (Exit.then (fun a w => Fits a C.n C.ds e' ∧ Sat C.g w H') Q) := ⟨fun a w f s => ⟨f.sub (sub_spec he), s.ent h⟩⟩
theorem Ent.resC2 {p q : Prop} {H B F : HP} (hp : p) (hq : q) [i : En H (B * F)] : Ent H (pu p * (pu q * B) * F) := Ent.trans (Ent.trans (Ent.resC hq) (Ent.pure hp)) (Ent.of_eq (sep_assoc _ _ _).symm)
/-- A pure part, wherever it stands. -/
class FindPu (H : HP) (p : outParam Prop) (R : outParam HP) : Prop where
  e : Ent H (pu p * R)
instance (priority := 1200) FindPu.here (p : Prop) (F : HP) : FindPu (pu p * F) p F := ⟨Ent.refl _⟩
instance (priority := 1100) FindPu.self (p : Prop) : FindPu (pu p) p Sl.emp := ⟨Ent.empR _⟩
instance (priority := 900) FindPu.left (A B R : HP) (p : Prop) [i : FindPu A p R] : FindPu (A * B) p (R * B) := ⟨(i.e.frame B).trans (Ent.of_eq (sep_assoc _ _ _))⟩
instance (priority := 800) FindPu.right (A B R : HP) (p : Prop) [i : FindPu B p R] : FindPu (A * B) p (A * R) := ⟨(i.e.framel A).trans (Ent.of_eq (sep_left_comm _ _ _))⟩
theorem Wc.pull {p : Prop} {R : HP} [i : FindPu H p R] (k : p → Wc C R e c Q) : Wc C H e c Q := Wc.ent i.e (Wc.pu k)
theorem Wl.pull {p : Prop} {R : HP} [i : FindPu H p R] (k : p → Wl C R e ops rest Q) : Wl C H e ops rest Q := Wl.ent i.e (Wl.pu k)
theorem Wx.pull {p : Prop} {R : HP} {x : Exit} [i : FindPu H p R] (k : p → Wx C R e x Q) : Wx C H e x Q := Wx.ent i.e (Wx.pu k)
theorem Ent.pull {p : Prop} {G R : HP} [i : FindPu H p R] (k : p → Ent R G) : Ent H G := i.e.trans (Ent.puE k)
theorem own_one {el : TypeId} {m n : Nat} {xs : List Value} {g : Gh} {w : World} (s : Sat g w (own el m v n xs * F)) : v.oneCell' = true := (Vw.of_own el m v n xs g w (s.ent (Ent.left _ _))).one
theorem CtrP.mono {f : FuncId} {args : List Value} {Φ Φ' : Value → HP} {ch : List PanicEntry} {Ψ Ψ' : HP} (h : CtrP P f args A Φ ch Ψ) (h1 : ∀ v, Ent (Φ v) (Φ' v)) (h2 : Ent Ψ Ψ') : CtrP P f args A Φ' ch Ψ' where
  enters := h.enters
  calls := fun F g w s => (h.calls F g w s).mono fun e w' hR => by
    rcases hR with ⟨v, he, s'⟩ | ⟨he, s'⟩
    · exact .inl ⟨v, he, s'.ent ((h1 v).frame F)⟩
    · exact .inr ⟨he, s'.ent (h2.frame F)⟩
theorem Ctr.mono {f : FuncId} {args : List Value} {Φ Φ' : Value → HP} (h : Ctr P f args A Φ) (h1 : ∀ v, Ent (Φ v) (Φ' v)) : Ctr P f args A Φ' where
  enters := h.enters
  calls := fun F g w s => (h.calls F g w s).mono fun e w' ⟨v, he, s'⟩ => ⟨v, he, s'.ent ((h1 v).frame F)⟩
theorem Ctr.pre {f : FuncId} {args : List Value} {Φ : Value → HP} (h : Ctr P f args B Φ) (h1 : Ent A B) : Ctr P f args A Φ where
  enters := h.enters
  calls := fun F g w s => h.calls F g w (s.ent (h1.frame F))
theorem CtrP.pre {f : FuncId} {args : List Value} {Φ : Value → HP} {ch : List PanicEntry} {Ψ : HP} (h : CtrP P f args B Φ ch Ψ) (h1 : Ent A B) : CtrP P f args A Φ ch Ψ where
  enters := h.enters
  calls := fun F g w s => h.calls F g w (s.ent (h1.frame F))
section
variable {M A1 A2 G : HP} {listed : Array Bool} {n f f' : Nat} {is : List Nat}
/-- A call that turns a part of M, needs a part of S, and may panic. -/
theorem Wm.callMSP {ι : Type} {i : Nat} {rs : List Nat} {vr : ι → Value} {B : ι → HP} {g : FuncId} {xs : List Operand} {vs : List Value} {ts : Array TypeId} {ch : List PanicEntry} {Ψ : HP} {ops : Array Oper} (hi : ops[i]? = some ⟨some d, .call ⟨.value (.func g), xs.toArray, ts⟩, ty, pos, af, none⟩) (hin : Nat.blt i n = true) (hd : Nat.blt d C.n = true)
    (hx : evs e xs = some vs) (hs : CtrP C.P g vs (A1 * A2) (fun v => Sl.ex fun x => pu (v = vr x) * (B x * A2)) ch Ψ) (ht : Take A1 M F) (ht2 : Take A2 S G) (kp : Wx C (Ψ * (G * F)) [] (.panic ch) Q)
    (k : ∀ x, Wr C S (B x * F) ((d, vr x) :: e) ops n (listed.setIfInBounds i true) f Q) (ks : Wm C S M e ops n listed f Q rs) : Wm C S M e ops n listed f Q (i :: rs) :=
  wm_step (N := fun x => B x * F) hi rfl hin (fun a fi w s => by
    rw [run_callP hs.enters fi.agrees hx w]
    replace s := s.ent ((ht2.to.mul ht.to).trans (Ent.of_eq (by ac_rfl : A2 * G * (A1 * F) = A1 * A2 * (G * F))))
    refine (hs.calls (G * F) C.g w s).mono fun e w' hR => ?_
    rcases hR with ⟨v, he, s'⟩ | ⟨he, s'⟩
    · rw [ex_mul] at s'
      obtain ⟨x, s'⟩ := s'.exE
      rw [sep_assoc] at s'
      obtain ⟨hv, s2⟩ := s'.pure
      exact .inl ⟨x, hv ▸ he, s2.ent ((Ent.of_eq (by ac_rfl : B x * A2 * (G * F) = A2 * G * (B x * F))).trans (ht2.back.mul (Ent.refl _)))⟩
    · exact .inr ⟨ch, he, fun a h1 h2 => kp.run a w' ⟨h1, h2, fun t v h => by cases h⟩ s'⟩) (fun a x fi => fi.put hd _) k ks
end
end Go.Sl
/- Own layer, 13: comparisons with nil, assertions that cannot fail. -/
namespace Go.Sl
variable {C : Cx} {H H' S A B F : HP} {e e' : Env} {Q : Post} {ops : Array Oper} {rest : List Oper} {c : Code}
variable {d : Tmp} {op : Op} {ty : TypeId} {pos : String} {af : Array Edge} {v u : Value} {P : Program} {dst : Option Tmp} {gd : Option (Nat × Bool)}
theorem V.eqNilT {x : Operand} {t t' : TypeId} (hx : ev e x = some .nilIface) (ht : ∃ ms, P.underlying t = some (.interface ms)) : ValOp P H e ⟨dst, .binOp .eql t x (.const .nilIface) t', ty, pos, af, gd⟩ (.bool true) :=
  ⟨fun ρ h g w s => by
    obtain ⟨ms, ht⟩ := ht
    have h2 : ρ (.const .nilIface) = .nilIface := h _ _ rfl
    have h3 : (Op.equalIn Op.maxDepth t .nilIface .nilIface).run P w = .ok true w := by
      obtain ⟨k, hk⟩ : ∃ k, Op.maxDepth = k + 1 := ⟨9999, rfl⟩
      rw [hk]
      simp only [Op.equalIn, Sem.run_bind, run_underlying ht, Result.andThen_ok, Sem.run_pure]
    simp [execOp, h x _ hx, h2, eqGuard, binOp, Op.equal, h3]⟩
theorem V.eqNilF {x : Operand} {t t' r : TypeId} (hx : ev e x = some (.iface r v)) (ht : ∃ ms, P.underlying t = some (.interface ms)) : ValOp P H e ⟨dst, .binOp .eql t x (.const .nilIface) t', ty, pos, af, gd⟩ (.bool false) :=
  ⟨fun ρ h g w s => by
    obtain ⟨ms, ht⟩ := ht
    have h2 : ρ (.const .nilIface) = .nilIface := h _ _ rfl
    have h3 : (Op.equalIn Op.maxDepth t (.iface r v) .nilIface).run P w = .ok false w := by
      obtain ⟨k, hk⟩ : ∃ k, Op.maxDepth = k + 1 := ⟨9999, rfl⟩
      rw [hk]
      simp only [Op.equalIn, Sem.run_bind, run_underlying ht, Result.andThen_ok, Sem.run_pure]
    simp [execOp, h x _ hx, h2, eqGuard, binOp, Op.equal, h3]⟩
theorem V.isT1 {x : Operand} {t xt : TypeId} (hx : ev e x = some (.iface t v)) (ht : NotI P t) : ValOp P H e ⟨dst, .typeAssert x xt t false, ty, pos, af, gd⟩ v :=
  ⟨fun ρ h g w s => by
    obtain ⟨dT, hu, hd⟩ := ht.run
    simp only [execOp, h x _ hx, Instr.typeAssert]
    cases dT <;> first | (simp [notIfaceD] at hd; done) | simp [run_underlying hu]⟩
theorem recoverD_none {c₀ : Frame} {cs : List Frame} (h : c₀.mode = .returning) : recoverD (c₀ :: cs) = none := by simp [recoverD, h]
theorem recoverD_some {c₀ : Frame} {cs : List Frame} (h : c₀.mode = .panicking [⟨v, false, false⟩]) : recoverD (c₀ :: cs) = some (v, { c₀ with mode := .panicking [⟨v, true, false⟩] } :: cs) := by simp [recoverD, h]
/-- A deferred function's end. -/
theorem Wx.endS {fn : Func} {c₀ c₁ : Frame} {cs : List Frame} {u' : FrameMode} (hd : C.ds = []) (hr : fn.results = #[]) (h1 : c₁ = { c₀ with mode := u' }) (hp : Ent H (B * F)) :
    Wx C H e .normal (fun ex a w => bodyPostS C.P fn c₀ cs (fun e u'' w' => (∃ v, e = .returned v) ∧ u'' = u' ∧ Sat C.g w' (B * F)) ex a (c₁ :: cs) w) :=
  ⟨fun a w f s => ⟨f.defers.trans hd, u', by rw [h1], _, results_none hr _ _ _, ⟨_, rfl⟩, rfl, s.ent hp⟩⟩
theorem wpS_start {id : Nat} {t t' : Tmp} {ty ty' : TypeId} {pos pos' : String} {af af' : Array Edge} {y : Code} {m : Nat} {g : Gh} {cs cs' : List Frame} {Q : Exit → Act → List Frame → World → Prop} {a : Act} {w : World} {rv : Value} (hr : recoverD cs = some (rv, cs') ∨ (recoverD cs = none ∧ rv = .nilIface ∧ cs' = cs))
    (ht : Nat.blt t m = true) (ht' : Nat.blt t' m = true) (fi : Fits a m [] e) (s : Sat g w H) (k : Wc ⟨P, g, m, []⟩ H ((t', rv) :: (t, rv) :: e) y (fun e a' w' => Q e a' cs' w')) :
    (Code.seq (.region id #[⟨some t, .call ⟨.builtin .recover, #[], #[]⟩, ty, pos, af, none⟩, ⟨some t', .assign (.tmp t), ty', pos', af', none⟩] false) y).wpS P Q a cs w := by
  have f1 := fi.put ht rv
  have f2 := f1.put ht' rv
  have hev : (a.put (some t) rv).eval (.tmp t) = rv := f1.agrees _ _ (by simp [ev, look])
  refine wpS_seq ?_
  rcases hr with hr | ⟨hr, rfl, rfl⟩
  · refine wpS_recover (l := [_]) rfl hr (wpOpsS_assign rfl rfl ?_)
    rw [hev]
    exact wpS_rest f2 s k
  · refine wpS_recoverN (l := [_]) rfl hr (wpOpsS_assign rfl rfl ?_)
    rw [hev]
    exact wpS_rest f2 s k
theorem Vw.shape {S : HP} {m n : Nat} {xs : List Value} (hw : Vw S v m n xs) : ∃ a k cap, v = .slice a k cap := by
  rcases hw with ⟨rfl, _⟩ | ⟨r, o, cap, rfl, _⟩ | ⟨⟨a, rfl⟩, _⟩ <;> exact ⟨_, _, _, rfl⟩
theorem V.eqSliceNil {x : Operand} {t t' el : TypeId} {a : Option Addr} {n m : Nat} (hx : ev e x = some (.slice a n m)) (ht : P.underlying t = some (.slice el)) : ValOp P H e ⟨dst, .binOp .eql t x (.const (.slice none 0 0)) t', ty, pos, af, gd⟩ (.bool a.isNone) :=
  ⟨fun ρ h g w s => by
    have h2 : ρ (.const (.slice none 0 0)) = .slice none 0 0 := h _ _ rfl
    have h3 : (Op.equalIn Op.maxDepth t (.slice a n m) (.slice none 0 0)).run P w = .ok a.isNone w := by
      obtain ⟨k, hk⟩ : ∃ k, Op.maxDepth = k + 1 := ⟨9999, rfl⟩
      rw [hk]
      cases a <;> simp only [Op.equalIn, Sem.run_bind, run_underlying ht, Result.andThen_ok, Sem.run_pure] <;> rfl
    simp [execOp, h x _ hx, h2, eqGuard, binOp, Op.equal, h3]⟩
theorem V.eqPtrNil {x : Operand} {t t' el : TypeId} {a : Option Addr} (hx : ev e x = some (.pointer a)) (ht : P.underlying t = some (.pointer el)) : ValOp P H e ⟨dst, .binOp .eql t x (.const (.pointer none)) t', ty, pos, af, gd⟩ (.bool a.isNone) :=
  ⟨fun ρ h g w s => by
    have h2 : ρ (.const (.pointer none)) = .pointer none := h _ _ rfl
    have h3 : (Op.equalIn Op.maxDepth t (.pointer a) (.pointer none)).run P w = .ok a.isNone w := by
      obtain ⟨k, hk⟩ : ∃ k, Op.maxDepth = k + 1 := ⟨9999, rfl⟩
      rw [hk]
      cases a <;> simp only [Op.equalIn, Sem.run_bind, run_underlying ht, Result.andThen_ok, Sem.run_pure] <;> rfl
    simp [execOp, h x _ hx, h2, eqGuard, binOp, Op.equal, h3]⟩
theorem V.nePtrNil {x : Operand} {t t' el : TypeId} {a : Option Addr} (hx : ev e x = some (.pointer a)) (ht : P.underlying t = some (.pointer el)) : ValOp P H e ⟨dst, .binOp .neq t x (.const (.pointer none)) t', ty, pos, af, gd⟩ (.bool (!a.isNone)) :=
  ⟨fun ρ h g w s => by
    have h2 : ρ (.const (.pointer none)) = .pointer none := h _ _ rfl
    have h3 : (Op.equalIn Op.maxDepth t (.pointer a) (.pointer none)).run P w = .ok a.isNone w := by
      obtain ⟨k, hk⟩ : ∃ k, Op.maxDepth = k + 1 := ⟨9999, rfl⟩
      rw [hk]
      cases a <;> simp only [Op.equalIn, Sem.run_bind, run_underlying ht, Result.andThen_ok, Sem.run_pure] <;> rfl
    simp [execOp, h x _ hx, h2, eqGuard, binOp, Op.equal, h3]⟩
/-- A lookup of two results, whatever is there. -/
theorem V.lookE {t kt et : TypeId} {p : Nat} {k : Int} {l : List (Int × Value)} {R : HP} {b : Bool} {x y : Operand} (hx : ev e x = some (.map (some p))) (hy : ev e y = some (.int .i64 k)) (ht : KeyI P t kt et) (hz : ∀ w, (zeroValue et).run P w = .ok u w) (hH : Take (mapI p l) H R)
    (hv : (kfind l k).getD u = v) (hb : (kfind l k).isSome = b) : ValOp P H e ⟨dst, .lookup t x y true, ty, pos, af, gd⟩ (.tuple #[v, .bool b]) := by
  cases h : kfind l k with
  | none => rw [h] at hv hb; subst hv hb; exact V.lookN hx hy ht hz h hH
  | some q => rw [h] at hv hb; subst hv hb; exact V.look (z := []) hx hy ht h hH
theorem V.lookE1 {t kt et : TypeId} {p : Nat} {k : Int} {l : List (Int × Value)} {R : HP} {x y : Operand} (hx : ev e x = some (.map (some p))) (hy : ev e y = some (.int .i64 k)) (ht : KeyI P t kt et) (hz : ∀ w, (zeroValue et).run P w = .ok u w) (hH : Take (mapI p l) H R)
    (hv : (kfind l k).getD u = v) : ValOp P H e ⟨dst, .lookup t x y false, ty, pos, af, gd⟩ v := by
  cases h : kfind l k with
  | none => rw [h] at hv; subst hv; exact V.look1N hx hy ht hz h hH
  | some q => rw [h] at hv; subst hv; exact V.look1 hx hy ht h hH
/-! ### a step of a range over a map -/
def nextHP (p it : Nat) (l left : List (Int × Value)) (cur : Option (Int × Value)) : HP :=
  if left = [] then rng p it l [] cur else ex fun (y : List (Int × Value) × (Int × Value) × List (Int × Value)) => pu (left = y.1 ++ y.2.1 :: y.2.2) * rng p it l (y.1 ++ y.2.2) (some y.2.1)
theorem Wl.next {p it d2 : Nat} {ty2 : TypeId} {pos2 : String} {af2 : Array Edge} {l left : List (Int × Value)} {cur : Option (Int × Value)} {R : HP} {x : Operand} (hn : Nat.blt d C.n = true) (hn2 : Nat.blt d2 C.n = true) (hx : ev e x = some (.pointer (some ⟨it, 0, none⟩))) (hH : Take (rng p it l left cur) H R)
    (k : ∀ v, Wl C (nextHP p it l left cur * R) ((d2, .bool (!left.isEmpty)) :: (d, v) :: e) ops rest Q) : Wl C H e ops (⟨some d, .next x false, ty, pos, af, none⟩ :: ⟨some d2, .extract (.tmp d) 0, ty2, pos2, af2, none⟩ :: rest) Q := by
  have hl : ∀ v, look ((d, v) :: e) d = some v := fun v => by simp [look]
  by_cases h : left = []
  · subst h
    refine Wl.val hn (V.nextOver hx hH) ?_
    refine Wl.val hn2 (V.ext (by simp [ev]; exact hl _) rfl) ?_
    refine Wl.ent ?_ (k _)
    rw [nextHP, if_pos rfl]; exact hH.to
  · have e1 : (!left.isEmpty) = true := by cases left with
      | nil => exact absurd rfl h
      | cons => rfl
    refine Wl.exo hn (X.next hx hH h) (fun v => ?_)
    refine Wl.ex (fun y => ?_)
    refine Wl.pu (fun hy => ?_)
    obtain ⟨hy, rfl⟩ := hy
    refine Wl.val hn2 (V.ext (by simp [ev]; exact hl _) rfl) ?_
    have := k (.tuple #[.bool true, .int .i64 y.2.1.1, y.2.1.2])
    rw [e1] at this
    refine Wl.ent ?_ this
    rw [nextHP, if_neg h, ex_mul]
    exact Ent.ex y ((Ent.pure hy).trans (Ent.of_eq (sep_assoc _ _ _).symm))
theorem nextHP_nil {p it : Nat} {l : List (Int × Value)} {cur : Option (Int × Value)} : nextHP p it l [] cur = rng p it l [] cur := by rw [nextHP, if_pos rfl]
theorem nextHP_cons {p it : Nat} {l left : List (Int × Value)} {cur : Option (Int × Value)} (h : left ≠ []) : nextHP p it l left cur = ex fun (y : List (Int × Value) × (Int × Value) × List (Int × Value)) => pu (left = y.1 ++ y.2.1 :: y.2.2) * rng p it l (y.1 ++ y.2.2) (some y.2.1) := by rw [nextHP, if_neg h]
theorem mapI_nodup {p : Nat} {l : List (Int × Value)} {g : Gh} {w : World} (s : Sat g w (mapI p l * F)) : (l.map (·.1)).Nodup := by
  replace s := s.ent (Ent.left _ _)
  obtain ⟨x, s⟩ := s.exE
  exact s.pure.1.nodup
/-- An array is built. -/
theorem V.buildA {t el : TypeId} {n m : Nat} {z : List Value} {ps : List (Nat × Operand)} {vs : List (Nat × Value)} {l : List Value} (hu : P.underlying t = some (.array n el)) (hs : Size P el m) (hz : Zero P t z) (hx : evParts e ps = some vs) (hl : fillL (fun i => some (i * m, m)) z (cellParts vs) = some l) :
    ValOp P H e ⟨dst, .build t ps.toArray, ty, pos, af, gd⟩ (.agg l.toArray) :=
  ⟨fun ρ h g w s => by
    have h1 := evParts_spec h ps vs hx
    rw [cellParts_eq] at hl
    obtain ⟨v, hv, hc⟩ := hz.run w
    have h2 := fill_spec (fun i => some (i * m, m)) vs z l hl
    have h3 : (Instr.build t vs.toArray).run P w = .ok (.agg l.toArray) w := by
      simp only [Instr.build, Sem.run_bind, hv, Result.andThen_ok, run_underlying hu, hc, hs.size, List.toList_toArray, h2]
      rfl
    simp only [execOp, List.map_toArray, h1, Sem.run_bind, h3]
    rfl⟩
end Go.Sl
/- Own layer, 14: stores that come at any time. -/
namespace Go.Sl
variable {C : Cx} {H H' S A B F M N : HP} {e e' : Env} {Q : Post} {ops : Array Oper} {rest : List Oper} {c : Code}
variable {d : Tmp} {op : Op} {ty : TypeId} {pos : String} {af : Array Edge} {v u : Value} {P : Program} {dst : Option Tmp} {gd : Option (Nat × Bool)}
variable {listed : Array Bool} {n f f' : Nat} {is : List Nat}
theorem Wm.st {i : Nat} {rs : List Nat} (hi : ops[i]? = some ⟨none, op, ty, pos, af, none⟩) (hin : Nat.blt i n = true) (h : StOp C.P (S * M) e ⟨none, op, ty, pos, af, none⟩ H') (hE : H' = S * N)
    (k : Wr C S N e ops n (listed.setIfInBounds i true) f Q) (ks : Wm C S M e ops n listed f Q rs) : Wm C S M e ops n listed f Q (i :: rs) :=
  wm_step (ι := Unit) (vr := fun _ => undef) (N := fun _ => N) hi rfl hin (fun a fi w s => by
    obtain ⟨w', hr, s'⟩ := h.run _ fi.agrees _ w s
    rw [hr]
    subst hE
    exact ⟨(), rfl, s'⟩) (fun a x fi => by simpa [Act.put] using fi) (fun _ => k) ks
/-- An append to a slice of the part that turns. -/
theorem Wm.app {i : Nat} {rs : List Nat} {A : Value → HP} {M' : HP} (hi : ops[i]? = some ⟨some d, op, ty, pos, af, none⟩) (hin : Nat.blt i n = true) (hd : Nat.blt d C.n = true) (h : ExOp C.P (S * M) e ⟨some d, op, ty, pos, af, none⟩ (fun v => A v * (S * M')))
    (k : ∀ v, Wr C S (A v * M') ((d, v) :: e) ops n (listed.setIfInBounds i true) f Q) (ks : Wm C S M e ops n listed f Q rs) : Wm C S M e ops n listed f Q (i :: rs) :=
  wm_step (ι := Value) (vr := fun v => v) (N := fun v => A v * M') hi rfl hin (fun a fi w s => by
    obtain ⟨v, w', hr, s'⟩ := h.run _ fi.agrees _ w s
    rw [hr]
    exact ⟨v, rfl, by rw [sep_left_comm]; exact s'⟩) (fun a x fi => fi.put hd _) k ks
theorem Wc.scope (h : Wc C H e c (Exit.noGoto Q)) : Wc C H e (.scope c) Q := ⟨fun a w f s => wp_scope_straight (h.run a w f s)⟩
theorem Wx.ng_n (h : Wx C H e .normal Q) : Wx C H e .normal (Exit.noGoto Q) := ⟨fun a w f s => h.run a w f s⟩
theorem Wx.ng_r (h : Wx C H e .ret Q) : Wx C H e .ret (Exit.noGoto Q) := ⟨fun a w f s => h.run a w f s⟩
theorem Wx.ng_p {ch : List PanicEntry} (h : Wx C H e (.panic ch) Q) : Wx C H e (.panic ch) (Exit.noGoto Q) := ⟨fun a w f s => h.run a w f s⟩
theorem Wx.ng_x {id : Nat} (h : Wx C H e (.exit id) Q) : Wx C H e (.exit id) (Exit.noGoto Q) := ⟨fun a w f s => h.run a w f s⟩
/-- The bytes of a string, in a slice of their own. -/
def sB (el : TypeId) (r : Nat × Nat) (l : List UInt8) : HP := blk r.1 (.cells (bytesV l ++ List.replicate (r.2 - l.length) (Value.int .u8 0)).toArray el (l.length + (r.2 - l.length), l.length + (r.2 - l.length) + 1))
theorem Vw.sB {el : TypeId} {r : Nat × Nat} {l : List UInt8} (h : l.length ≤ r.2 ∧ r.2 ≤ maxLen) : Vw (sB el r l) (.slice (some ⟨r.1, 0, none⟩) l.length r.2) 1 l.length (bytesV l) := by
  refine .inr (.inl ⟨r.1, 0, r.2, rfl, h, by simp, fun g w s => ⟨_, _, _, s.get (r := r.1) (i := by unfold Go.Sl.sB; infer_instance), fun j x hj => ?_⟩⟩)
  rw [Nat.zero_add, List.getElem?_append_left (by have := (List.getElem?_eq_some_iff.1 hj).1; simpa using this)]
  exact hj
theorem M.s2bW {x : Operand} {t td el : TypeId} {l : List UInt8} (hx : ev e x = some (.string ⟨l.toArray⟩)) (ht : P.underlying t = some .string) (hd : P.underlying td = some (.slice el)) (he : P.underlying el = some (.int .u8)) (hl : l.length ≤ maxLen) :
    AlOp P H e ⟨dst, .convert t td x, ty, pos, af, gd⟩ (fun (r : Nat × Nat) => .slice (some ⟨r.1, 0, none⟩) l.length r.2)
      (fun r => sB el r l * (pu (l.length ≤ r.2 ∧ r.2 ≤ maxLen) * H)) :=
  ⟨fun ρ h g w sa => by
    have h1 := Lib.run_convert_string_bytes (P := P) w t td el ⟨l.toArray⟩ ht hd he
    have hs : (⟨l.toArray⟩ : ByteArray).size = l.length := by show l.toArray.size = _; simp
    have hsz : (Lib.bytesCells w el ⟨l.toArray⟩).size = l.length + (grownCap w l.length 0 el - l.length) := by simp [Lib.bytesCells, hs]
    have hcell : Lib.bytesCells w el ⟨l.toArray⟩ = (bytesV l ++ List.replicate (grownCap w l.length 0 el - l.length) (Value.int .u8 0)).toArray := by
      apply Array.ext'; simp [Lib.bytesCells, bytesV, hs]
    refine ⟨(w.heap.size, grownCap w l.length 0 el), Lib.bytesWorld w el ⟨l.toArray⟩, ?_, ?_⟩
    · simp [execOp, h x _ hx, h1, hs]
    · have s1 := sa.drew.new (.cells (Lib.bytesCells w el ⟨l.toArray⟩) el)
      have s2 := s1.set (r := w.heap.size) (w' := Lib.bytesWorld w el ⟨l.toArray⟩) rfl rfl (Lib.bytesWorld_at_new w el ⟨l.toArray⟩) (fun q hq => by
        simp only [Lib.bytesWorld, World.freeze, Array.getElem?_modify]
        split
        · rfl
        · simp only [Array.getElem?_modify, if_neg (Ne.symm hq)]; rfl)
      rw [hsz, hcell] at s2
      exact s2.ent ((Ent.pure ⟨grownCap_ge w l.length 0 el, grownCap_le_maxLen w l.length 0 el hl⟩).framel _)⟩
instance (priority := 600) TakeC.two (A B H R R' : HP) [i : TakeC A H R] [j : TakeC B R R'] : TakeC (A * B) H R' := ⟨Take.two i.t j.t⟩
end Go.Sl
