/- An abstract machine: values without memory, and what each pure operation of a Go text means over them. No condition. -/
import Derived.Calls
import Derived.OrdersIn
import Derived.TacticsIn
import Derived.Below
import Derived.Deep.Draws
import Derived.Laws.Sem
import Derived.Laws.Entries
import Derived.Laws.Tables
import Derived.Laws.Rows
import Derived.Laws.Cells
import Derived.Laws.Small
import Derived.Laws.Slices
import Derived.Laws.MakeOwn
import Derived.Maps.AppendAt
namespace Go.Abs

/-- No fence: an activation of a function's (none), or of a round's. -/
abbrev FW (ro : Option Nat) : Fence := { Fence.wide with round := ro }
theorem room_FW (ro : Option Nat) (n : Nat) : (FW ro).room n := fun _ h => by cases h
theorem callsIn_FW {P : Program} {f : FuncId} {args : Array Value} {w : World} {R : Ending → World → Prop} (h : Calls P f args w R) (ro : Option Nat) : CallsIn (FW ro) 0 P f args w R :=
  ⟨trivial, fun cs _ => ((callsIn_wide (n := 0)).2 h).2 cs (room_wide _)⟩

/-- What a value is, memory put aside: rows that nobody changes are told as lists, blocks that the call may change by number. -/
inductive V where
  | junk
  | at (v : Value)
  | agg (cs : List V)
  | tup (cs : List V)
  | row (sz : Nat) (es : List (List V))
  | eptr (e : List V) (off : Nat)
  | cap0
  | msl (sz b off n : Nat)
  | aptr (sz b i off : Nat)
  | bptr (b off : Nat)
  | fn (f : Fn) (first cap : List V)
  | mp (b : Nat)
  | yld (b : Nat)
  deriving Inhabited

def tget : List (Nat × V) → Nat → V
  | [], _ => .junk
  | (j, x) :: r, i => if i = j then x else tget r i
/-- A range over a function that is on: its temporaries when it began, and its text. -/
structure LoopC where
  N : Nat
  t : List (Nat × V)
  ps : Array Tmp
  asg : Code
  body : Code

/-- Values that name no block of the call's. -/
def V.cl : V → Bool
  | .junk => true
  | .at _ => true
  | .row _ _ => true
  | .eptr _ _ => true
  | .cap0 => true
  | _ => false
/-- A value that names no block but those that are lent. -/
def refOk (K : Nat → Bool) : V → Prop
  | .msl _ b _ _ => K b = true
  | .aptr _ b _ _ => K b = true
  | .bptr b _ => K b = true
  | .mp b => K b = true
  | .yld b => K b = true
  | x => x.cl = true
/-- As far as a struct's cells, and what a function has captured. -/
def refOkA (K : Nat → Bool) : V → Prop
  | .agg cs => ∀ x ∈ cs, refOk K x
  | .tup _ => False
  | .fn _ a b => (∀ x ∈ a, refOk K x) ∧ ∀ x ∈ b, refOk K x
  | x => refOk K x

inductive Blk where
  | box (ty : TypeId) (cells : List V)
  | arr (ty : TypeId) (sz : Nat) (es : List (List V))
  | map (kk : IntKind) (kvs : List (Int × Value))
  | loop (rf : List Nat) (lc : LoopC) (j : Option Code)

abbrev Mem := List (Nat × Blk)
def Mem.get : Mem → Nat → Option Blk
  | [], _ => none
  | (j, b) :: r, i => if i = j then some b else Mem.get r i
def Mem.del : Mem → Nat → Mem
  | [], _ => []
  | (j, b) :: r, i => if i = j then Mem.del r i else (j, b) :: Mem.del r i
def Mem.set (m : Mem) (i : Nat) (b : Blk) : Mem := (i, b) :: m.del i

theorem Mem.get_del (m : Mem) (i j : Nat) : (m.del i).get j = if j = i then none else m.get j := by
  induction m with
  | nil => simp [Mem.del, Mem.get]
  | cons p r ih =>
    obtain ⟨k, b⟩ := p
    simp only [Mem.del]
    by_cases h : i = k
    · subst h
      simp only [if_true, ih, Mem.get]
      by_cases h2 : j = i <;> simp [h2]
    · simp only [h, if_false, Mem.get, ih]
      by_cases h2 : j = k
      · subst h2
        have : ¬ j = i := fun e => h e.symm
        simp [this]
      · simp [h2]
theorem Mem.get_set (m : Mem) (i j : Nat) (b : Blk) : (m.set i b).get j = if j = i then some b else m.get j := by
  simp only [Mem.set, Mem.get, Mem.get_del]
  by_cases h : j = i <;> simp [h]

/-- A world, the cells that nobody changes any more, and where the blocks lie (none: gone; some none: an empty row that has no block). -/
structure Cx where
  w : World
  im : Nat → Nat → Prop
  ρ : Nat → Option (Option Nat)
  us : Nat → Prop

/-- The same, no block of the call's known. -/
def Cx.cl (c : Cx) : Cx := { w := c.w, im := c.im, ρ := fun _ => none, us := fun _ => False }

def MslOk (c : Cx) (sz b off n : Nat) (v : Value) : Prop :=
  match c.ρ b with
  | none => ∃ a l cap, v = .slice a l cap
  | some none => n = 0 ∧ off = 0 ∧ ∃ a, v = .slice a 0 0
  | some (some k) => ∃ cap C ty, c.w.heap[k]? = some (.cells C ty (0, 0)) ∧ n ≤ cap ∧ (off + cap) * sz = C.size ∧
      ∃ a, v = .slice (some a) n cap ∧ (a = ⟨k, off * sz, none⟩ ∨ cap = 0)
def PtrOk (c : Cx) (b o : Nat) (v : Value) : Prop :=
  match c.ρ b with
  | none => ∃ a, v = .pointer a
  | some none => False
  | some (some k) => v = .pointer (some ⟨k, o, none⟩)
def MapOk (c : Cx) (b : Nat) (v : Value) : Prop :=
  match c.ρ b with
  | none => ∃ a, v = .map a
  | some none => False
  | some (some k) => v = .map (some k)

def YldOk (c : Cx) (b : Nat) (v : Value) : Prop :=
  match c.ρ b with
  | none => ∃ a, v = .func (.yield a) #[] #[]
  | some none => False
  | some (some k) => v = .func (.yield k) #[] #[]

inductive Rel : Cx → V → Value → Prop where
  | junk {c : Cx} (v : Value) : Rel c .junk v
  | at {c : Cx} (v : Value) : Rel c (.at v) v
  | agg {c : Cx} (cs : List V) (vs : Array Value) : cs.length = vs.size → (∀ i (h : i < cs.length) (h' : i < vs.size), Rel c cs[i] vs[i]) → Rel c (.agg cs) (.agg vs)
  | tup {c : Cx} (cs : List V) (vs : Array Value) : cs.length = vs.size → (∀ i (h : i < cs.length) (h' : i < vs.size), Rel c cs[i] vs[i]) → Rel c (.tup cs) (.tuple vs)
  | row {c : Cx} (sz : Nat) (es : List (List V)) (a : Option Addr) (cap k o : Nat) (us : Nat → Nat → Value) :
      es.length ≤ cap → (0 < es.length → a = some ⟨k, o, none⟩) → (∀ i (h : i < es.length), es[i].length = sz) →
      (∀ i (h : i < es.length) j (h' : j < es[i].length), c.w.cell? ⟨k, o + i * sz + j, none⟩ = some (us i j) ∧ c.im k (o + i * sz + j)) →
      (∀ i (h : i < es.length) j (h' : j < es[i].length), Rel c.cl es[i][j] (us i j)) → Rel c (.row sz es) (.slice a es.length cap)
  | eptr {c : Cx} (e : List V) (off k o : Nat) (us : Nat → Value) :
      (∀ j (h : j < e.length), c.w.cell? ⟨k, o + j, none⟩ = some (us j) ∧ c.im k (o + j)) →
      (∀ j (h : j < e.length), Rel c.cl e[j] (us j)) → Rel c (.eptr e off) (.pointer (some ⟨k, o + off, none⟩))
  | cap0 {c : Cx} (a : Option Addr) : Rel c .cap0 (.slice a 0 0)
  | msl {c : Cx} (sz b off n : Nat) (v : Value) : c.us b → MslOk c sz b off n v → Rel c (.msl sz b off n) v
  | aptr {c : Cx} (sz b i off : Nat) (v : Value) : c.us b → PtrOk c b (i * sz + off) v → Rel c (.aptr sz b i off) v
  | bptr {c : Cx} (b off : Nat) (v : Value) : c.us b → PtrOk c b off v → Rel c (.bptr b off) v
  | fn {c : Cx} (f : Fn) (first cap : List V) (fs cs : Array Value) : first.length = fs.size → cap.length = cs.size →
      (∀ i (h : i < first.length) (h' : i < fs.size), Rel c first[i] fs[i]) → (∀ i (h : i < cap.length) (h' : i < cs.size), Rel c cap[i] cs[i]) →
      Rel c (.fn f first cap) (.func f fs cs)
  | mp {c : Cx} (b : Nat) (v : Value) : c.us b → MapOk c b v → Rel c (.mp b) v
  | yld {c : Cx} (b : Nat) (v : Value) : c.us b → YldOk c b v → Rel c (.yld b) v

/-- How a world goes on: the blocks that S tells may be changed, all others are as they were. -/
structure Evo (S : Nat → Prop) (c c' : Cx) : Prop where
  os : c'.w.os = c.w.os
  tape : c'.w.tape = c.w.tape
  output : c'.w.output = c.w.output
  size : c.w.heap.size ≤ c'.w.heap.size
  keep : ∀ (k : Nat) (C : Array Value) (ty : TypeId) (fr : Nat × Nat), c.w.heap[k]? = some (Obj.cells C ty fr) → ∃ C' : Array Value, c'.w.heap[k]? = some (Obj.cells C' ty fr) ∧ C'.size = C.size
  same : ∀ k, k < c.w.heap.size → ¬ S k → c'.w.heap[k]? = c.w.heap[k]?
  imm : ∀ k o, c.im k o → c'.im k o ∧ c'.w.cell? ⟨k, o, none⟩ = c.w.cell? ⟨k, o, none⟩
  imold : ∀ k o, c'.im k o → k < c.w.heap.size → ¬ S k → c.im k o
  us : ∀ b, c.us b → c'.us b
  ρ : ∀ b, c.us b → c'.ρ b = c.ρ b ∨ c'.ρ b = none

theorem Evo.refl (S : Nat → Prop) (c : Cx) : Evo S c c where
  os := rfl
  tape := rfl
  output := rfl
  size := Nat.le_refl _
  keep := fun _ C _ _ h => ⟨C, h, rfl⟩
  same := fun _ _ _ => rfl
  imm := fun _ _ h => ⟨h, rfl⟩
  imold := fun _ _ h _ _ => h
  us := fun _ h => h
  ρ := fun _ _ => .inl rfl

theorem Evo.trans {S : Nat → Prop} {c c' c'' : Cx} (h : Evo S c c') (h' : Evo (fun k => S k ∨ c.w.heap.size ≤ k) c' c'') : Evo S c c'' where
  os := h'.os.trans h.os
  tape := h'.tape.trans h.tape
  output := h'.output.trans h.output
  size := Nat.le_trans h.size h'.size
  keep := fun k C ty fr hk => by
    obtain ⟨C', h1, h2⟩ := h.keep k C ty fr hk
    obtain ⟨C'', h3, h4⟩ := h'.keep k C' ty fr h1
    exact ⟨C'', h3, h4.trans h2⟩
  same := fun k hk hS => by
    rw [h'.same k (Nat.lt_of_lt_of_le hk h.size) (by intro hh; rcases hh with hh | hh; exact hS hh; omega), h.same k hk hS]
  imm := fun k o hk => by
    obtain ⟨h1, h2⟩ := h.imm k o hk
    obtain ⟨h3, h4⟩ := h'.imm k o h1
    exact ⟨h3, h4.trans h2⟩
  imold := fun k o hk hl hS => h.imold k o (h'.imold k o hk (Nat.lt_of_lt_of_le hl h.size) (by intro hh; rcases hh with hh | hh; exact hS hh; omega)) hl hS
  us := fun b hb => h'.us b (h.us b hb)
  ρ := fun b hb => by
    rcases h'.ρ b (h.us b hb) with h1 | h1
    · rw [h1]; exact h.ρ b hb
    · exact .inr h1

theorem Evo.mono {S S' : Nat → Prop} {c c' : Cx} (h : Evo S c c') (hs : ∀ k, S k → S' k) : Evo S' c c' :=
  { h with same := fun k hk hS => h.same k hk (fun hh => hS (hs k hh)), imold := fun k o hk hl hS => h.imold k o hk hl (fun hh => hS (hs k hh)) }

theorem MslOk.shape {c : Cx} {sz b off n : Nat} {v : Value} (h : MslOk c sz b off n v) : ∃ a l cap, v = .slice a l cap := by
  unfold MslOk at h
  split at h
  · exact h
  · obtain ⟨_, _, a, rfl⟩ := h; exact ⟨_, _, _, rfl⟩
  · obtain ⟨_, _, _, _, _, _, a, rfl, _⟩ := h; exact ⟨_, _, _, rfl⟩
theorem PtrOk.shape {c : Cx} {b o : Nat} {v : Value} (h : PtrOk c b o v) : ∃ a, v = .pointer a := by
  unfold PtrOk at h
  split at h
  · exact h
  · exact h.elim
  · exact ⟨_, h⟩
theorem MapOk.shape {c : Cx} {b : Nat} {v : Value} (h : MapOk c b v) : ∃ a, v = .map a := by
  unfold MapOk at h
  split at h
  · exact h
  · exact h.elim
  · exact ⟨_, h⟩
theorem YldOk.shape {c : Cx} {b : Nat} {v : Value} (h : YldOk c b v) : ∃ a, v = .func (.yield a) #[] #[] := by
  unfold YldOk at h
  split at h
  · exact h
  · exact h.elim
  · exact ⟨_, h⟩
theorem MslOk.evo {S : Nat → Prop} {c c' : Cx} (e : Evo S c c') {sz b off n : Nat} {v : Value} (hb : c.us b) (h : MslOk c sz b off n v) : MslOk c' sz b off n v := by
  rcases e.ρ b hb with h1 | h1
  · unfold MslOk at *
    rw [h1]
    cases hr : c.ρ b with
    | none => rw [hr] at h; exact h
    | some o =>
      rw [hr] at h
      cases o with
      | none => exact h
      | some k =>
        obtain ⟨cap, C, ty, h1, h2, h3, h4⟩ := h
        obtain ⟨C', h5, h6⟩ := e.keep k C ty _ h1
        exact ⟨cap, C', ty, h5, h2, by rw [h6]; exact h3, h4⟩
  · have := h.shape
    unfold MslOk
    rw [h1]; exact this
theorem PtrOk.evo {S : Nat → Prop} {c c' : Cx} (e : Evo S c c') {b o : Nat} {v : Value} (hb : c.us b) (h : PtrOk c b o v) : PtrOk c' b o v := by
  rcases e.ρ b hb with h1 | h1
  · unfold PtrOk at *
    rw [h1]; exact h
  · have := h.shape
    unfold PtrOk
    rw [h1]; exact this
theorem MapOk.evo {S : Nat → Prop} {c c' : Cx} (e : Evo S c c') {b : Nat} {v : Value} (hb : c.us b) (h : MapOk c b v) : MapOk c' b v := by
  rcases e.ρ b hb with h1 | h1
  · unfold MapOk at *
    rw [h1]; exact h
  · have := h.shape
    unfold MapOk
    rw [h1]; exact this

theorem YldOk.evo {S : Nat → Prop} {c c' : Cx} (e : Evo S c c') {b : Nat} {v : Value} (hb : c.us b) (h : YldOk c b v) : YldOk c' b v := by
  rcases e.ρ b hb with h1 | h1
  · unfold YldOk at *
    rw [h1]; exact h
  · have := h.shape
    unfold YldOk
    rw [h1]; exact this

theorem Evo.cl {S : Nat → Prop} {c c' : Cx} (e : Evo S c c') : Evo S c.cl c'.cl :=
  { e with us := fun _ h => h, ρ := fun _ h => h.elim }
theorem Evo.open (S : Nat → Prop) (c : Cx) : Evo S c.cl c :=
  { Evo.refl S c with us := fun _ h => h.elim, ρ := fun _ h => h.elim }

theorem Rel.evo {c : Cx} {x : V} {v : Value} (h : Rel c x v) : ∀ {S : Nat → Prop} {c' : Cx}, Evo S c c' → Rel c' x v := by
  induction h with
  | junk v => exact fun _ => .junk v
  | «at» v => exact fun _ => .at v
  | agg cs vs hl _ ih => exact fun e => .agg cs vs hl fun i h h' => ih i h h' e
  | tup cs vs hl _ ih => exact fun e => .tup cs vs hl fun i h h' => ih i h h' e
  | row sz es a cap k o us h0 h1 h2 h3 _ ih =>
    intro S c' e
    refine .row sz es a cap k o us h0 h1 h2 (fun i h j h' => ?_) (fun i h j h' => ih i h j h' e.cl)
    obtain ⟨hc, hi⟩ := h3 i h j h'
    obtain ⟨hi', hc'⟩ := e.imm _ _ hi
    exact ⟨hc'.trans hc, hi'⟩
  | eptr el off k o us h3 _ ih =>
    intro S c' e
    refine .eptr el off k o us (fun j h' => ?_) (fun j h' => ih j h' e.cl)
    obtain ⟨hc, hi⟩ := h3 j h'
    obtain ⟨hi', hc'⟩ := e.imm _ _ hi
    exact ⟨hc'.trans hc, hi'⟩
  | cap0 a => exact fun _ => .cap0 a
  | msl sz b off n v hb h => exact fun e => .msl sz b off n v (e.us b hb) (h.evo e hb)
  | aptr sz b i off v hb h => exact fun e => .aptr sz b i off v (e.us b hb) (h.evo e hb)
  | bptr b off v hb h => exact fun e => .bptr b off v (e.us b hb) (h.evo e hb)
  | fn f first cap fs cs h1 h2 _ _ ih1 ih2 => exact fun e => .fn f first cap fs cs h1 h2 (fun i h h' => ih1 i h h' e) (fun i h h' => ih2 i h h' e)
  | mp b v hb h => exact fun e => .mp b v (e.us b hb) (h.evo e hb)
  | yld b v hb h => exact fun e => .yld b v (e.us b hb) (h.evo e hb)

theorem Rel.open {c : Cx} {x : V} {v : Value} (h : Rel c.cl x v) : Rel c x v := h.evo (Evo.open (fun _ => True) c)
theorem Rel.close {c : Cx} {x : V} {v : Value} (h : Rel c x v) (hc : x.cl = true) : Rel c.cl x v := by
  cases h with
  | junk => exact .junk _
  | «at» => exact .at _
  | row _ es a cap k o us h0 h1 h2 h3 h4 => exact .row _ es a cap k o us h0 h1 h2 h3 h4
  | eptr el off k o us h3 h4 => exact .eptr el off k o us h3 h4
  | cap0 => exact .cap0 _
  | _ => simp [V.cl] at hc

theorem tget_mem (t : List (Nat × V)) (i : Nat) : tget t i = .junk ∨ ∃ p ∈ t, p.1 = i ∧ tget t i = p.2 := by
  induction t with
  | nil => exact .inl rfl
  | cons p r ih =>
    obtain ⟨j, x⟩ := p
    by_cases h : i = j
    · exact .inr ⟨(j, x), by simp, h.symm, by simp [tget, h]⟩
    · simp only [tget, h, if_false]
      rcases ih with h1 | ⟨q, hq, h1, h2⟩
      · exact .inl h1
      · exact .inr ⟨q, by simp [hq], h1, h2⟩

/-- A block and the memory's. -/
def BlkRel (c : Cx) (b : Nat) : Option Blk → Prop
  | none => c.ρ b = none
  | some (.box ty cells) => ∃ k C, c.ρ b = some (some k) ∧ c.w.heap[k]? = some (.cells C ty (0, 0)) ∧ cells.length = C.size ∧
      (∀ j (h : j < cells.length) (h' : j < C.size), Rel c cells[j] C[j]) ∧ (∀ o, ¬ c.im k o)
  | some (.arr ty sz es) => (es = [] ∧ c.ρ b = some none) ∨ ∃ k C cap, c.ρ b = some (some k) ∧ c.w.heap[k]? = some (.cells C ty (0, 0)) ∧
      C.size = cap * sz ∧ cap ≤ maxLen ∧ es.length ≤ cap ∧ (∀ i (h : i < es.length), es[i].length = sz) ∧
      (∀ i (h : i < es.length) j (h' : j < es[i].length), ∃ u, C[i * sz + j]? = some u ∧ Rel c es[i][j] u) ∧ (∀ o, ¬ c.im k o)
  | some (.map kk kvs) => ∃ k es clock, c.ρ b = some (some k) ∧ c.w.heap[k]? = some (.map es clock) ∧ es.toList.map (fun e => (e.key, e.val)) = kvs.map (fun p => (Value.int kk p.1, p.2)) ∧ (∀ o, ¬ c.im k o)
  | some (.loop rf lc j) => ∃ k r, c.ρ b = some (some k) ∧ c.w.heap[k]? = some (.loop r) ∧ (r.state = (if j.isNone then LoopState.ready else LoopState.done) ∧ r.pending = j ∧ r.params = lc.ps ∧ r.assign = lc.asg ∧ r.body = lc.body ∧ r.tmps.size = lc.N) ∧
      (∀ t, Rel c (tget lc.t t) (r.tmps.getD t undef)) ∧ (∀ p ∈ lc.t, refOkA (fun b => rf.contains b) p.2) ∧ (∀ o, ¬ c.im k o)

structure MemRel (c : Cx) (m : Mem) : Prop where
  blk : ∀ b, BlkRel c b (m.get b)
  inj : ∀ b b' k, c.ρ b = some (some k) → c.ρ b' = some (some k) → b = b'
  big : ∀ b, ¬ c.us b → c.ρ b = none
  imlt : ∀ k o, c.im k o → k < c.w.heap.size

end Go.Abs
namespace Go.Abs

/-- Whole numbers' operations, as a thing that a reckoning doesn't look into. -/
structure Ar where
  add : Int → Int → Int
  sub : Int → Int → Int
  mul : Int → Int → Int
  div : Int → Int → Int
  mod : Int → Int → Int
  shl : Int → Int → Int
  shr : Int → Int → Int
  bits : BinOp → IntKind → Int → Int → Int
  lt : Int → Int → Bool
  le : Int → Int → Bool
  eq : Int → Int → Bool
  not : Bool → Bool
  pick : Bool → Bool → Bool → Bool
  beq : Bool → Bool → Bool
  max : Int → Int → Int
  min : Int → Int → Int
  nat : Nat → Int
  toNat : Int → Nat
  nadd : Nat → Nat → Nat
  nsub : Nat → Nat → Nat
  inr : IntKind → Int → Prop
  pos : Int → Int → Prop
  sh : IntKind → Int → Prop
  bnd : Int → Int → Nat → Prop
  len : List (List V) → Nat
  cut : List (List V) → Nat → Nat → List (List V)
  seg : List (List V) → Nat → Nat → List (List V)
  app : List (List V) → List (List V) → List (List V)
  upd : List (List V) → Nat → List V → List (List V)
  rep : Nat → List V → List (List V)
  mlen : List (Int × Value) → Nat
  mput : List (Int × Value) → Int → Value → List (Int × Value)
  zap : List (List V) → Nat → Nat → Nat → List (List V)
  fits : Nat → Nat → Nat → Prop
  room : Nat → Nat → Prop

def mget : List (Int × Value) → Int → Option Value
  | [], _ => none
  | (y, u) :: r, z => if y = z then some u else mget r z
def mset : List (Int × Value) → Int → Value → List (Int × Value)
  | [], z, v => [(z, v)]
  | (y, u) :: r, z, v => if y = z then (z, v) :: r else (y, u) :: mset r z v
def bitsOf (op : BinOp) (k : IntKind) (x y : Int) : Int :=
  let a := BitVec.ofInt k.bits x
  let b := BitVec.ofInt k.bits y
  match op with
  | .and => k.wrap (a &&& b).toNat
  | .or => k.wrap (a ||| b).toNat
  | .xor => k.wrap (a ^^^ b).toNat
  | _ => k.wrap (a &&& ~~~b).toNat

def Ar.std : Ar where
  add x y := x + y
  sub x y := x - y
  mul x y := x * y
  div x y := x / y
  mod x y := x % y
  shl x y := x * 2 ^ y.toNat
  shr x y := x / 2 ^ y.toNat
  bits := bitsOf
  lt x y := decide (x < y)
  le x y := decide (x ≤ y)
  eq x y := x == y
  not b := !b
  pick c x y := if c then x else y
  beq a b := a == b
  max x y := if y > x then y else x
  min x y := if y < x then y else x
  nat n := (n : Int)
  toNat n := n.toNat
  nadd x y := x + y
  nsub x y := x - y
  inr k n := k.wrap n = n
  pos a b := 0 ≤ a ∧ 0 < b
  sh k b := 0 ≤ b ∧ b < k.bits
  bnd l h n := 0 ≤ l ∧ l ≤ h ∧ h ≤ n
  len es := es.length
  cut es l h := (es.take h).drop l
  seg es off n := (es.drop off).take n
  app es fs := es ++ fs
  upd es i e := es.set i e
  rep n e := List.replicate n e
  mlen kvs := kvs.length
  mput := mset
  zap es off n sz := es.take off ++ List.replicate n (List.replicate sz .junk) ++ es.drop (off + n)
  fits off n l := off + n ≤ l
  room n b := n * b ≤ 140737488355328

inductive TK where
  | int (k : IntKind) | bool | slice (e : Nat) | struct (fs : List (Nat × Nat)) | array (n e : Nat) | map (k e : Nat) | other
  deriving Inhabited
structure TI where
  k : TK
  size : Nat
  bytes : Nat
  zero : List Value
  deriving Inhabited
abbrev Tbl := List (Nat × TI)
def Tbl.get : Tbl → Nat → Option TI
  | [], _ => none
  | (j, b) :: r, i => if i = j then some b else Tbl.get r i
def TK.ag : TK → Bool
  | .struct _ => true
  | .array _ _ => true
  | _ => false
/-- What the table says of a type is so. -/
def TkOk (P : Program) (t : Nat) : TK → Prop
  | .int k => P.underlying t = some (.int k)
  | .bool => P.underlying t = some .bool
  | .slice e => P.underlying t = some (.slice e)
  | .struct fs => ∃ f : Array Field, P.underlying t = some (.struct f) ∧ f.toList.map (fun x => (x.offset, x.type)) = fs
  | .array n e => P.underlying t = some (.array n e)
  | .map k e => P.underlying t = some (.map k e)
  | .other => ∃ d, P.underlying t = some d ∧ (match d with | .struct _ | .array _ _ => true | _ => false) = false
structure TiOk (P : Program) (t : Nat) (ti : TI) : Prop where
  info : ∃ i, P.info? t = some i ∧ i.size = ti.size ∧ i.bytes = ti.bytes ∧ ∃ z, i.zero = some z ∧ z.cells.toList = ti.zero
  len : ti.zero.length = ti.size
  one : ∀ v ∈ ti.zero, v.oneCell' = true
  k : TkOk P t ti.k
def TblOk (P : Program) (T : Tbl) : Prop := ∀ t ti, T.get t = some ti → TiOk P t ti

def constV : Value → V
  | .agg vs => .agg (vs.toList.map .at)
  | .func f a b => .fn f (a.toList.map .at) (b.toList.map .at)
  | v => .at v
def V.one : V → Bool
  | .at v => v.oneCell'
  | .junk => false
  | .agg _ => false
  | .tup _ => false
  | _ => true
/-- The cells of a value that is stored. -/
def V.cells : V → Option (List V)
  | .agg cs => if cs.all V.one then some cs else none
  | .at v => if v.oneCell' then some [.at v] else none
  | .junk => none
  | .tup _ => none
  | x => some [x]
def ldC (ag : Bool) (size off : Nat) (e : List V) : Option V :=
  if ag then (if off + size ≤ e.length then some (.agg ((e.drop off).take size)) else none) else e[off]?
def upC (e : List V) (off : Nat) (new : List V) : Option (List V) :=
  if off + new.length ≤ e.length then some (e.take off ++ new ++ e.drop (off + new.length)) else none

abbrev PR := Option (V × List Nat × Prop)
def val (x : V) : PR := some (x, [], True)

def intBin (A : Ar) (op : BinOp) (k : IntKind) (a b : Int) : PR :=
  match op with
  | .add => some (.at (.int k (A.add a b)), [], A.inr k (A.add a b))
  | .sub => some (.at (.int k (A.sub a b)), [], A.inr k (A.sub a b))
  | .mul => some (.at (.int k (A.mul a b)), [], A.inr k (A.mul a b))
  | .quo => some (.at (.int k (A.div a b)), [], A.pos a b ∧ A.inr k (A.div a b))
  | .rem => some (.at (.int k (A.mod a b)), [], A.pos a b)
  | .lss => val (.at (.bool (A.lt a b)))
  | .leq => val (.at (.bool (A.le a b)))
  | .gtr => val (.at (.bool (A.lt b a)))
  | .geq => val (.at (.bool (A.le b a)))
  | .eql => val (.at (.bool (A.eq a b)))
  | .neq => val (.at (.bool (A.not (A.eq a b))))
  | .and => val (.at (.int k (A.bits .and k a b)))
  | .or => val (.at (.int k (A.bits .or k a b)))
  | .xor => val (.at (.int k (A.bits .xor k a b)))
  | _ => none
def binP (A : Ar) (T : Tbl) (op : BinOp) (t : Nat) (x y : V) : PR :=
  match x, y with
  | .at (.int k a), .at (.int k' b) =>
    match op with
    | .shl => some (.at (.int k (A.shl a b)), [], A.sh k b ∧ A.inr k (A.shl a b))
    | .shr => some (.at (.int k (A.shr a b)), [], A.sh k b)
    | _ => if k = k' then intBin A op k a b else none
  | .at (.bool a), .at (.bool b) =>
    match (T.get t).map TI.k with
    | some .bool =>
      match op with
      | .eql => val (.at (.bool (A.beq a b)))
      | .neq => val (.at (.bool (A.not (A.beq a b))))
      | _ => none
    | _ => none
  | _, _ => none
def unP (A : Ar) (op : UnOp) (x : V) : PR :=
  match op, x with
  | .not, .at (.bool b) => val (.at (.bool (A.not b)))
  | .neg, .at (.int k n) => some (.at (.int k (A.sub 0 n)), [], A.inr k (A.sub 0 n))
  | _, _ => none
def pickP (A : Ar) (c a b : V) : PR :=
  match c with
  | .at (.bool t) =>
    match a, b with
    | .at (.bool x), .at (.bool y) => val (.at (.bool (A.pick t x y)))
    | _, _ =>
      match t with
      | true => val a
      | false => val b
  | _ => none
def loadP (T : Tbl) (m : Mem) (t : Nat) (a : V) : PR :=
  match T.get t with
  | none => none
  | some ti =>
    match a with
    | .eptr e off => (ldC ti.k.ag ti.size off e).map fun x => (x, [], True)
    | .bptr b off =>
      match m.get b with
      | some (.box _ cells) => (ldC ti.k.ag ti.size off cells).map fun x => (x, [b], True)
      | _ => none
    | _ => none
def fldP (T : Tbl) (m : Mem) (t f : Nat) (a : V) : PR :=
  match T.get t with
  | some { k := .struct fs, .. } =>
    match fs[f]? with
    | some (o, u) =>
      match T.get u with
      | some tu =>
        if tu.size = 0 then none else
        match a with
        | .eptr e off => val (.eptr e (off + o))
        | .bptr b off =>
          match m.get b with
          | some (.box _ _) => some (.bptr b (off + o), [b], True)
          | _ => none
        | .aptr sz b i off =>
          match m.get b with
          | some (.arr _ _ _) => some (.aptr sz b i (off + o), [b], True)
          | _ => none
        | _ => none
      | none => none
    | none => none
  | _ => none
def fieldP (T : Tbl) (t f : Nat) (a : V) : PR :=
  match T.get t with
  | some { k := .struct fs, .. } =>
    match fs[f]? with
    | some (o, u) =>
      match T.get u with
      | some tu =>
        match a with
        | .agg cs => (ldC tu.k.ag tu.size o cs).map fun x => (x, [], True)
        | _ => none
      | none => none
    | none => none
  | _ => none
def idxP (T : Tbl) (t : Nat) (a i : V) : PR :=
  match T.get t with
  | some { k := .array n e, .. } =>
    match T.get e with
    | some te =>
      match a, i with
      | .agg cs, .at (.int _ z) => (ldC te.k.ag te.size (z.toNat * te.size) cs).map fun x => (x, [], 0 ≤ z ∧ z < n)
      | _, _ => none
    | none => none
  | _ => none
def nilP (m : Mem) (x : V) : PR :=
  match x with
  | .eptr e o => val (.eptr e o)
  | .aptr s b i o =>
    match m.get b with
    | some (.arr _ _ _) => some (.aptr s b i o, [b], True)
    | _ => none
  | .bptr b o =>
    match m.get b with
    | some (.box _ _) => some (.bptr b o, [b], True)
    | _ => none
  | .fn (.func f) a b => val (.fn (.func f) a b)
  | _ => none
def extP (x : V) (i : Nat) : PR :=
  match x with
  | .tup cs => (cs[i]?).map fun x => (x, [], True)
  | _ => none
def cvtP (A : Ar) (T : Tbl) (s d : Nat) (x : V) : PR :=
  match T.get s, (T.get d).map TI.k, x with
  | some _, some (.int k), .at (.int _ n) => some (.at (.int k n), [], A.inr k n)
  | _, _, _ => none
def lenP (A : Ar) (T : Tbl) (m : Mem) (t : Nat) (x : V) : PR :=
  match (T.get t).map TI.k, x with
  | some (.slice _), .at (.slice _ n _) => val (.at (.int .i64 (A.nat n)))
  | some (.slice _), .row _ es => val (.at (.int .i64 (A.nat (A.len es))))
  | some (.slice _), .cap0 => val (.at (.int .i64 0))
  | some (.slice _), .msl _ b _ n =>
    match m.get b with
    | some (.arr _ _ _) => some (.at (.int .i64 (A.nat n)), [b], True)
    | _ => none
  | some (.array n _), .agg _ => val (.at (.int .i64 (A.nat n)))
  | some (.map _ _), .mp b =>
    match m.get b with
    | some (.map _ kvs) => some (.at (.int .i64 (A.nat (A.mlen kvs))), [b], True)
    | _ => none
  | some (.map _ _), .at (.map none) => val (.at (.int .i64 0))
  | _, _ => none
def mmP (A : Ar) (mx : Bool) (x y : V) : PR :=
  match x, y with
  | .at (.int k a), .at (.int _ b) => val (.at (.int k (if mx then A.max a b else A.min a b)))
  | _, _ => none
/-- The parts of a struct, laid over its zero value's cells. -/
def overC (T : Tbl) (fs : List (Nat × Nat)) : List V → List (Nat × V) → Option (List V)
  | cs, [] => some cs
  | cs, (j, x) :: ps =>
    match fs[j]? with
    | some (o, u) =>
      match T.get u, x.cells with
      | some tu, some xs =>
        if xs.length = tu.size then
          match upC cs o xs with
          | some cs' => overC T fs cs' ps
          | none => none
        else none
      | _, _ => none
    | none => none
def allIn (T : Tbl) : List (Nat × Nat) → Bool
  | [] => true
  | (_, u) :: r => (T.get u).isSome && allIn T r
def arrFs (e s : Nat) : Nat → Nat → List (Nat × Nat)
  | 0, _ => []
  | n + 1, i => (i * s, e) :: arrFs e s n (i + 1)
def buildP (T : Tbl) (t : Nat) (ps : List (Nat × V)) : PR :=
  match T.get t with
  | some { k := .array n e, zero := z, .. } =>
    match T.get e with
    | some te =>
      match overC T (arrFs e te.size n 0) (z.map .at) ps with
      | some cs => val (.agg cs)
      | none => none
    | none => none
  | some { k := .struct fs, zero := z, .. } =>
    if allIn T fs then
      match overC T fs (z.map .at) ps with
      | some cs => val (.agg cs)
      | none => none
    else none
  | _ => none

def loI : Option V → Option Int
  | none => some 0
  | some (.at (.int _ l)) => some l
  | _ => none
def hiI (A : Ar) (n : Nat) : Option V → Option Int
  | none => some (A.nat n)
  | some (.at (.int _ l)) => some l
  | _ => none
def zeroI : Option V → Bool
  | some (.at (.int _ 0)) => true
  | _ => false
def sliceP (A : Ar) (T : Tbl) (m : Mem) (t : Nat) (x : V) (lo hi mx : Option V) : PR :=
  match (T.get t).map TI.k with
  | some (.slice e) =>
    match (T.get e).map TI.size with
    | none => none
    | some se =>
    match mx with
    | some z =>
      if zeroI (some z) && zeroI hi && lo.isNone then
        match x with
        | .row _ _ => val .cap0
        | .cap0 => val .cap0
        | .at (.slice none 0 0) => val .cap0
        | .msl _ b _ _ =>
          match m.get b with
          | some (.arr _ _ _) => some (.cap0, [b], True)
          | _ => none
        | _ => none
      else none
    | none =>
      match x with
      | .row sz es =>
        match loI lo, hiI A (A.len es) hi with
        | some l, some h => if sz = se then some (.row sz (A.cut es (A.toNat l) (A.toNat h)), [], A.bnd l h (A.len es)) else none
        | _, _ => none
      | .msl sz b off n =>
        match m.get b with
        | some (.arr _ s _) =>
          match loI lo, hiI A n hi with
          | some l, some h => if sz = se ∧ s = sz then some (.msl sz b (A.nadd off (A.toNat l)) (A.nsub (A.toNat h) (A.toNat l)), [b], A.bnd l h n) else none
          | _, _ => none
        | _ => none
      | _ => none
  | _ => none
def biP (A : Ar) (T : Tbl) (m : Mem) (f : Callee) (xs : List V) (ts : List TypeId) : PR :=
  match f with
  | .builtin b =>
    match b, xs, ts with
    | .len, [x], [t] => lenP A T m t x
    | .max, [x, y], _ => mmP A true x y
    | .min, [x, y], _ => mmP A false x y
    | _, _, _ => none
  | _ => none

def pureP (A : Ar) (T : Tbl) (ev : Operand → V) (m : Mem) (op : Op) : PR :=
  match op with
  | .move x => val (ev x)
  | .assign x => val (ev x)
  | .pick c a b => pickP A (ev c) (ev a) (ev b)
  | .load t a => loadP T m t (ev a)
  | .nilCheck x => nilP m (ev x)
  | .binOp o t x y _ => binP A T o t (ev x) (ev y)
  | .unOp o _ x => unP A o (ev x)
  | .convert s d x => cvtP A T s d (ev x)
  | .makeFunc f a b => val (.fn f (a.toList.map ev) (b.toList.map ev))
  | .fieldAddr t x f => fldP T m t f (ev x)
  | .field t x f => fieldP T t f (ev x)
  | .extract x i => extP (ev x) i
  | .index t x i => idxP T t (ev x) (ev i)
  | .call c => biP A T m c.callee (c.args.toList.map ev) c.argTypes.toList
  | .slice t x lo hi mx => sliceP A T m t (ev x) (lo.map ev) (hi.map ev) (mx.map ev)
  | _ => none

end Go.Abs
namespace Go.Abs
variable {P : Program} {T : Tbl} {c : Cx} {m : Mem}

theorem Rel.at_inv {c : Cx} {u v : Value} (h : Rel c (.at u) v) : v = u := by cases h; rfl
theorem IntKind.wrap_rem (k : IntKind) (x y : Int) : True := trivial

theorem run_eqGuard_int (op : BinOp) (t : TypeId) (ox oy : Operand) (k k' : IntKind) (a b : Int) (w : World) :
    (eqGuard op t ox oy (.int k a) (.int k' b)).run P w = .ok () w := by
  cases op <;> simp [eqGuard]
theorem run_eqGuard_bool (op : BinOp) (t : TypeId) (ox oy : Operand) (a b : Bool) (w : World) :
    (eqGuard op t ox oy (.bool a) (.bool b)).run P w = .ok () w := by
  cases op <;> simp [eqGuard]

theorem intBin_sound {op : BinOp} {k : IntKind} {a b : Int} {x : V} {rd : List Nat} {p : Prop} (t : TypeId)
    (h : intBin Ar.std op k a b = some (x, rd, p)) (hp : p) (w : World) :
    ∃ v, (binOp op t (.int k a) (.int k b)).run P w = .ok v w ∧ Rel c x v := by
  cases op <;> simp only [intBin, val, Ar.std, Option.some.injEq, Prod.mk.injEq, reduceCtorEq] at h <;> (try obtain ⟨rfl, rfl, rfl⟩ := h)
  case add => exact ⟨_, by simp [binOp, Op.intArith, hp], .at _⟩
  case sub => exact ⟨_, by simp [binOp, Op.intArith, hp], .at _⟩
  case mul => exact ⟨_, by simp [binOp, Op.intArith, hp], .at _⟩
  case quo =>
    obtain ⟨⟨h1, h2⟩, h3⟩ := hp
    have h0 : b ≠ 0 := by omega
    exact ⟨_, by simp [binOp, Op.intDiv, h0, Int.tdiv_eq_ediv_of_nonneg h1, h3], .at _⟩
  case rem =>
    obtain ⟨h1, h2⟩ := hp
    have h0 : b ≠ 0 := by omega
    exact ⟨_, by simp [binOp, Op.intDiv, h0, Int.tmod_eq_emod_of_nonneg h1], .at _⟩
  all_goals first
    | exact h.elim
    | exact ⟨_, by simp only [binOp, Op.intCmp, Op.intBits, bitsOf, Sem.run_ite, ne_eq, not_true_eq_false, if_false, Sem.run_pure, Sem.run_pure']; try rfl, .at _⟩

theorem bin_sound (hT : TblOk P T) {op : BinOp} {t : TypeId} {X Y : V} {vx vy : Value} {x : V} {rd : List Nat} {p : Prop}
    (h : binP Ar.std T op t X Y = some (x, rd, p)) (hp : p) (hx : Rel c X vx) (hy : Rel c Y vy) (ox oy : Operand) (w : World) :
    ∃ v, (do eqGuard op t ox oy vx vy; binOp op t vx vy).run P w = .ok v w ∧ Rel c x v := by
  unfold binP at h
  split at h
  · rename_i k a k' b
    obtain rfl := hx.at_inv
    obtain rfl := hy.at_inv
    simp only [Sem.run_bind, run_eqGuard_int, Result.andThen_ok]
    split at h
    · simp only [Ar.std, Option.some.injEq, Prod.mk.injEq] at h
      obtain ⟨rfl, rfl, rfl⟩ := h
      obtain ⟨⟨h1, h2⟩, h3⟩ := hp
      have h4 : ¬ b < 0 := by omega
      have h5 : min b.toNat k.bits = b.toNat := by omega
      exact ⟨_, by simp [binOp, Op.shift, h4, h5, h3], .at _⟩
    · simp only [Ar.std, Option.some.injEq, Prod.mk.injEq] at h
      obtain ⟨rfl, rfl, rfl⟩ := h
      obtain ⟨h1, h2⟩ := hp
      have h4 : ¬ b < 0 := by omega
      have h5 : min b.toNat k.bits = b.toNat := by omega
      have h6 : a.fdiv (2 ^ b.toNat) = a / 2 ^ b.toNat := Int.fdiv_eq_ediv_of_nonneg _ (by exact_mod_cast Nat.zero_le (2 ^ b.toNat))
      exact ⟨_, by simp [binOp, Op.shift, h4, h5, h6], .at _⟩
    · split at h
      · rename_i hk
        subst hk
        exact intBin_sound t h hp w
      · simp at h
  · rename_i a b
    obtain rfl := hx.at_inv
    obtain rfl := hy.at_inv
    simp only [Sem.run_bind, run_eqGuard_bool, Result.andThen_ok]
    split at h
    · rename_i hb
      obtain ⟨ti, hti, hk⟩ := Option.map_eq_some_iff.1 hb
      have hu := (hT t ti hti).k
      rw [hk] at hu
      simp only [TkOk] at hu
      split at h
      · simp only [val, Ar.std, Option.some.injEq, Prod.mk.injEq] at h
        obtain ⟨rfl, rfl, rfl⟩ := h
        exact ⟨_, run_eql_bool w t a b hu, .at _⟩
      · simp only [val, Ar.std, Option.some.injEq, Prod.mk.injEq] at h
        obtain ⟨rfl, rfl, rfl⟩ := h
        exact ⟨_, by rw [run_neq_bool w t a b hu], .at _⟩
      · simp at h
    · simp at h
  · simp at h

theorem un_sound {op : UnOp} {X : V} {vx : Value} {x : V} {rd : List Nat} {p : Prop}
    (h : unP Ar.std op X = some (x, rd, p)) (hp : p) (hx : Rel c X vx) (w : World) :
    ∃ v, (Op.unary op vx).run P w = .ok v w ∧ Rel c x v := by
  unfold unP at h
  split at h
  · obtain rfl := hx.at_inv
    simp only [val, Ar.std, Option.some.injEq, Prod.mk.injEq] at h
    obtain ⟨rfl, rfl, rfl⟩ := h
    exact ⟨_, by simp [Op.unary], .at _⟩
  · obtain rfl := hx.at_inv
    simp only [Ar.std, Option.some.injEq, Prod.mk.injEq] at h
    obtain ⟨rfl, rfl, rfl⟩ := h
    exact ⟨_, by simp only [Op.unary, Op.intArith, Sem.run_pure]; rw [hp], .at _⟩
  · simp at h

theorem pick_sound {C A B : V} {vc va vb : Value} {x : V} {rd : List Nat} {p : Prop}
    (h : pickP Ar.std C A B = some (x, rd, p)) (hc : Rel c C vc) (ha : Rel c A va) (hb : Rel c B vb) (w : World) :
    ∃ v, ((do pure (Next.value (if ← asBool vc then va else vb)) : Sem Next)).run P w = .ok (.value v) w ∧ Rel c x v := by
  unfold pickP at h
  split at h
  · rename_i t
    obtain rfl := hc.at_inv
    split at h
    · obtain rfl := ha.at_inv
      obtain rfl := hb.at_inv
      rename_i y z
      simp only [val, Ar.std, Option.some.injEq, Prod.mk.injEq] at h
      obtain ⟨rfl, _, _⟩ := h
      refine ⟨.bool (if t then y else z), ?_, .at _⟩
      cases t <;> simp [asBool]
    · split at h
      · simp only [val, Option.some.injEq, Prod.mk.injEq] at h
        obtain ⟨rfl, _, _⟩ := h
        exact ⟨va, by simp [asBool], ha⟩
      · simp only [val, Option.some.injEq, Prod.mk.injEq] at h
        obtain ⟨rfl, _, _⟩ := h
        exact ⟨vb, by simp [asBool], hb⟩
  · simp at h

theorem cells_take {cs : List V} {vs : Array Value} (hl : cs.length = vs.size) (hr : ∀ i (h : i < cs.length) (h' : i < vs.size), Rel c cs[i] vs[i]) (off n : Nat) (h : off + n ≤ cs.length) :
    Rel c (.agg ((cs.drop off).take n)) (.agg (vs.extract off (off + n))) := by
  refine .agg _ _ (by simp; omega) (fun i h1 h2 => ?_)
  simp at h1 h2
  have := hr (off + i) (by omega) (by omega)
  simpa using this


theorem Addr.add_plain (k o n : Nat) : (⟨k, o, none⟩ : Addr).add n = ⟨k, o + n, none⟩ := by
  unfold Addr.add; split <;> simp_all

/-- A variable of some type is read off cells that are known. -/
theorem loadVar_sound (hT : TblOk P T) {t : TypeId} {ti : TI} (ht : T.get t = some ti) {w : World} {k o : Nat} {e : List V} {us : Nat → Value} {off : Nat} {x : V}
    (hcell : ∀ j (h : j < e.length), w.cell? ⟨k, o + j, none⟩ = some (us j)) (hrel : ∀ j (h : j < e.length), Rel c e[j] (us j))
    (hx : ldC ti.k.ag ti.size off e = some x) : ∃ v, (loadVar t ⟨k, o + off, none⟩).run P w = .ok v w ∧ Rel c x v := by
  obtain ⟨⟨i, hi, hs, _⟩, _, _, hk⟩ := hT t ti ht
  have hsz : (sizeOf t).run P w = .ok ti.size w := by simp [sizeOf, typeInfo, hi, hs]
  unfold ldC at hx
  cases hag : ti.k.ag with
  | true =>
    have hagg : (isAgg t).run P w = .ok true w := by
      unfold isAgg
      unfold TkOk at hk
      cases hkk : ti.k <;> simp only [hkk, TK.ag, Bool.false_eq_true] at hag hk
      · obtain ⟨f, hf, _⟩ := hk
        simp [Sem.run_bind, run_underlying hf w]
      · simp [Sem.run_bind, run_underlying hk w]
    simp only [hag, if_true] at hx
    split at hx
    · rename_i hle
      obtain rfl := Option.some.inj hx
      have hl := run_loadCells (P := P) w ⟨k, o + off, none⟩ ti.size (fun j => us (off + j)) (fun j hj => by
        rw [Addr.add_plain, Nat.add_assoc]
        exact hcell (off + j) (by omega))
      refine ⟨.agg (List.map (fun j => us (off + j)) (List.range ti.size)).toArray, by simp only [loadVar, Sem.run_bind, hagg, Result.andThen_ok, hsz, hl, if_true, Sem.run_pure], ?_⟩
      refine .agg _ _ (by simp; omega) (fun j h1 h2 => ?_)
      simp at h1 h2
      have := hrel (off + j) (by omega)
      simpa using this
    · simp at hx
  | false =>
    have hagg : (isAgg t).run P w = .ok false w := by
      unfold isAgg
      unfold TkOk at hk
      cases hkk : ti.k <;> simp only [hkk, TK.ag, Bool.true_eq_false, reduceCtorEq] at hag hk
      case other => obtain ⟨d, hd, hn⟩ := hk; cases d <;> simp_all [Sem.run_bind, run_underlying hd w]
      all_goals simp [Sem.run_bind, run_underlying hk w]
    simp only [hag, Bool.false_eq_true, if_false] at hx
    obtain ⟨hlt, rfl⟩ := List.getElem?_eq_some_iff.1 hx
    refine ⟨us off, ?_, hrel off hlt⟩
    have hc := hcell off hlt
    simp only [loadVar, Sem.run_bind, hagg, Result.andThen_ok, Bool.false_eq_true, if_false, run_load, hc]


theorem PtrOk.real {c : Cx} {b o k : Nat} {v : Value} (h : PtrOk c b o v) (hr : c.ρ b = some (some k)) : v = .pointer (some ⟨k, o, none⟩) := by
  unfold PtrOk at h; rw [hr] at h; exact h
theorem MapOk.real {c : Cx} {b k : Nat} {v : Value} (h : MapOk c b v) (hr : c.ρ b = some (some k)) : v = .map (some k) := by
  unfold MapOk at h; rw [hr] at h; exact h

theorem load_sound (hT : TblOk P T) (hm : MemRel c m) {t : TypeId} {X : V} {vx : Value} {x : V} {rd : List Nat} {p : Prop}
    (h : loadP T m t X = some (x, rd, p)) (hx : Rel c X vx) : ∃ v, (Instr.loadAt t vx).run P c.w = .ok v c.w ∧ Rel c x v := by
  unfold loadP at h
  split at h
  · simp at h
  rename_i ti ht
  split at h
  · rename_i e off
    obtain ⟨y, hy, he⟩ := Option.map_eq_some_iff.1 h
    simp only [Prod.mk.injEq] at he
    obtain ⟨rfl, _, _⟩ := he
    cases hx with
    | eptr _ _ k o us h1 h2 =>
      obtain ⟨v, hv, hr⟩ := loadVar_sound hT ht (w := c.w) (k := k) (o := o) (us := us) (fun j hj => (h1 j hj).1) (fun j hj => (h2 j hj).open) hy
      exact ⟨v, by simp [Instr.loadAt, Instr.sureAddr, hv], hr⟩
  · rename_i b off
    split at h
    · rename_i ty cells hb
      obtain ⟨y, hy, he⟩ := Option.map_eq_some_iff.1 h
      simp only [Prod.mk.injEq] at he
      obtain ⟨rfl, _, _⟩ := he
      have hblk := hm.blk b
      rw [hb] at hblk
      obtain ⟨k, C, h1, h2, h3, h4, _⟩ := hblk
      cases hx with
      | bptr _ _ _ hu hp =>
        have := hp.real h1
        subst this
        have hcell : ∀ j (hj : j < cells.length), c.w.cell? ⟨k, 0 + j, none⟩ = some (C.getD j undef) := fun j hj => by
          simp [World.cell?, h2, Array.getElem?_eq_getElem (show j < C.size by omega), Array.getD, show j < C.size by omega]
        obtain ⟨v, hv, hr⟩ := loadVar_sound hT ht (w := c.w) (k := k) (o := 0) (us := fun j => C.getD j undef) hcell (fun j hj => by
          have := h4 j hj (by omega)
          simpa [Array.getD, show j < C.size by omega] using this) hy
        exact ⟨v, by simpa [Instr.loadAt, Instr.sureAddr] using hv, hr⟩
    · simp at h
  · simp at h

theorem fieldPlace_sound (hT : TblOk P T) {t f : Nat} {fs : List (Nat × Nat)} {sz by_ : Nat} {z : List Value} {o u : Nat} {tu : TI} (ht : T.get t = some ⟨.struct fs, sz, by_, z⟩) (hf : fs[f]? = some (o, u))
    (hu : T.get u = some tu) (hne : tu.size ≠ 0) (w : World) (k off : Nat) : (Instr.fieldAt t (.pointer (some ⟨k, off, none⟩)) f).run P w = .ok (.pointer (some ⟨k, off + o, none⟩)) w := by
  obtain ⟨_, _, _, hk⟩ := hT t _ ht
  obtain ⟨F, hF, hmap⟩ := hk
  obtain ⟨⟨i, hi, hs, _⟩, _, _, _⟩ := hT u tu hu
  have hFf : ∃ fd, F[f]? = some fd ∧ fd.offset = o ∧ fd.type = u := by
    rw [← hmap, List.getElem?_map] at hf
    obtain ⟨fd, h1, h2⟩ := Option.map_eq_some_iff.1 hf
    simp only [Prod.mk.injEq] at h2
    exact ⟨fd, by simpa using h1, h2.1, h2.2⟩
  obtain ⟨fd, hfd, rfl, rfl⟩ := hFf
  have hsz : (sizeOf fd.type).run P w = .ok tu.size w := by simp [sizeOf, typeInfo, hi, hs]
  simp [Instr.fieldAt, run_underlying hF, hfd, Instr.sureAddr, fieldPlace, hsz, hne, Addr.add_plain]

theorem part_sound (hT : TblOk P T) {t : TypeId} {ti : TI} (ht : T.get t = some ti) {cs : List V} {vs : Array Value} {off : Nat} {x : V} (hl : cs.length = vs.size)
    (hr : ∀ i (h : i < cs.length) (h' : i < vs.size), Rel c cs[i] vs[i]) (hx : ldC ti.k.ag ti.size off cs = some x) (w : World) :
    ∃ v, (part t vs off).run P w = .ok v w ∧ Rel c x v := by
  obtain ⟨⟨i, hi, hs, _⟩, _, _, hk⟩ := hT t ti ht
  have hsz : (sizeOf t).run P w = .ok ti.size w := by simp [sizeOf, typeInfo, hi, hs]
  unfold ldC at hx
  cases hag : ti.k.ag with
  | true =>
    have hagg : (isAgg t).run P w = .ok true w := by
      unfold isAgg
      unfold TkOk at hk
      cases hkk : ti.k <;> simp only [hkk, TK.ag, Bool.false_eq_true] at hag hk
      · obtain ⟨f, hf, _⟩ := hk
        simp [Sem.run_bind, run_underlying hf w]
      · simp [Sem.run_bind, run_underlying hk w]
    simp only [hag, if_true] at hx
    split at hx
    · rename_i hle
      obtain rfl := Option.some.inj hx
      exact ⟨_, by simp only [part, Sem.run_bind, hagg, Result.andThen_ok, hsz, if_true, Sem.run_pure], cells_take hl hr off ti.size hle⟩
    · simp at hx
  | false =>
    have hagg : (isAgg t).run P w = .ok false w := by
      unfold isAgg
      unfold TkOk at hk
      cases hkk : ti.k <;> simp only [hkk, TK.ag, Bool.true_eq_false, reduceCtorEq] at hag hk
      case other => obtain ⟨d, hd, hn⟩ := hk; cases d <;> simp_all [Sem.run_bind, run_underlying hd w]
      all_goals simp [Sem.run_bind, run_underlying hk w]
    simp only [hag, Bool.false_eq_true, if_false] at hx
    obtain ⟨hlt, rfl⟩ := List.getElem?_eq_some_iff.1 hx
    have h' : off < vs.size := by omega
    refine ⟨vs[off], ?_, hr off hlt h'⟩
    simp only [part, Sem.run_bind, hagg, Result.andThen_ok, Bool.false_eq_true, if_false, Array.getElem?_eq_getElem h', Sem.run_pure]


theorem PtrOk.box {c : Cx} {m : Mem} (hm : MemRel c m) {b o : Nat} {v : Value} {ty : TypeId} {cells : List V} (hb : m.get b = some (.box ty cells)) (h : PtrOk c b o v) :
    ∃ k, c.ρ b = some (some k) ∧ v = .pointer (some ⟨k, o, none⟩) := by
  have hblk := hm.blk b
  rw [hb] at hblk
  obtain ⟨k, C, h1, _⟩ := hblk
  exact ⟨k, h1, h.real h1⟩
theorem PtrOk.arr {c : Cx} {m : Mem} (hm : MemRel c m) {b o : Nat} {v : Value} {ty : TypeId} {sz : Nat} {es : List (List V)} (hb : m.get b = some (.arr ty sz es)) (h : PtrOk c b o v) :
    ∃ k, c.ρ b = some (some k) ∧ v = .pointer (some ⟨k, o, none⟩) := by
  have hblk := hm.blk b
  rw [hb] at hblk
  rcases hblk with ⟨_, h1⟩ | ⟨k, C, cap, h1, _⟩
  · unfold PtrOk at h; rw [h1] at h; exact h.elim
  · exact ⟨k, h1, h.real h1⟩

theorem fld_sound (hT : TblOk P T) (hm : MemRel c m) {t f : Nat} {X : V} {vx : Value} {x : V} {rd : List Nat} {p : Prop}
    (h : fldP T m t f X = some (x, rd, p)) (hx : Rel c X vx) : ∃ v, (Instr.fieldAt t vx f).run P c.w = .ok v c.w ∧ Rel c x v := by
  unfold fldP at h
  split at h
  case h_2 => simp at h
  rename_i fs sz by_ z ht
  split at h
  case h_2 => simp at h
  rename_i o u hf
  split at h
  case h_2 => simp at h
  rename_i tu hu
  split at h
  · simp at h
  rename_i hne
  have key := fieldPlace_sound hT ht hf hu hne c.w
  split at h
  · rename_i e off
    simp only [val, Option.some.injEq, Prod.mk.injEq] at h
    obtain ⟨rfl, _, _⟩ := h
    cases hx with
    | eptr _ _ k q us h1 h2 =>
      exact ⟨_, key k (q + off), by rw [Nat.add_assoc]; exact .eptr e (off + o) k q us h1 h2⟩
  · rename_i b off
    split at h
    · rename_i hb
      simp only [Option.some.injEq, Prod.mk.injEq] at h
      obtain ⟨rfl, _, _⟩ := h
      cases hx with
      | bptr _ _ _ hus hp =>
        obtain ⟨k, hk, rfl⟩ := hp.box hm hb
        exact ⟨_, key k off, .bptr b _ _ hus (by unfold PtrOk; rw [hk])⟩
    · simp at h
  · rename_i sz b i off
    split at h
    · rename_i hb
      simp only [Option.some.injEq, Prod.mk.injEq] at h
      obtain ⟨rfl, _, _⟩ := h
      cases hx with
      | aptr _ _ _ _ _ hus hp =>
        obtain ⟨k, hk, rfl⟩ := hp.arr hm hb
        exact ⟨_, key k _, .aptr _ b _ _ _ hus (by unfold PtrOk; rw [hk, Nat.add_assoc])⟩
    · simp at h
  · simp at h

theorem field_sound (hT : TblOk P T) {t f : Nat} {X : V} {vx : Value} {x : V} {rd : List Nat} {p : Prop}
    (h : fieldP T t f X = some (x, rd, p)) (hx : Rel c X vx) : ∃ v, (Instr.field t vx f).run P c.w = .ok v c.w ∧ Rel c x v := by
  unfold fieldP at h
  split at h
  case h_2 => simp at h
  rename_i fs sz by_ z ht
  split at h
  case h_2 => simp at h
  rename_i o u hf
  split at h
  case h_2 => simp at h
  rename_i tu hu
  split at h
  case h_2 => simp at h
  rename_i cs
  obtain ⟨y, hy, he⟩ := Option.map_eq_some_iff.1 h
  simp only [Prod.mk.injEq] at he
  obtain ⟨rfl, _, _⟩ := he
  obtain ⟨_, _, _, hk⟩ := hT t _ ht
  obtain ⟨F, hF, hmap⟩ := hk
  have hFf : ∃ fd, F[f]? = some fd ∧ fd.offset = o ∧ fd.type = u := by
    rw [← hmap, List.getElem?_map] at hf
    obtain ⟨fd, h1, h2⟩ := Option.map_eq_some_iff.1 hf
    simp only [Prod.mk.injEq] at h2
    exact ⟨fd, by simpa using h1, h2.1, h2.2⟩
  obtain ⟨fd, hfd, rfl, rfl⟩ := hFf
  cases hx with
  | agg _ vs hl hr =>
    obtain ⟨v, hv, hrel⟩ := part_sound (P := P) hT hu hl hr hy c.w
    exact ⟨v, by simp [Instr.field, run_underlying hF, hfd, asAgg, hv], hrel⟩

theorem nil_sound (hm : MemRel c m) {X : V} {vx : Value} {x : V} {rd : List Nat} {p : Prop}
    (h : nilP m X = some (x, rd, p)) (hx : Rel c X vx) :
    Rel c x vx ∧ ((∃ a, vx = .pointer (some a)) ∨ ∃ f a b, vx = .func (.func f) a b) := by
  unfold nilP at h
  split at h
  · simp only [val, Option.some.injEq, Prod.mk.injEq] at h
    obtain ⟨rfl, _, _⟩ := h
    exact ⟨hx, by cases hx; exact .inl ⟨_, rfl⟩⟩
  · split at h
    · rename_i hb
      simp only [Option.some.injEq, Prod.mk.injEq] at h
      obtain ⟨rfl, _, _⟩ := h
      refine ⟨hx, ?_⟩
      cases hx with
      | aptr _ _ _ _ _ hus hp =>
        obtain ⟨k, hk, rfl⟩ := hp.arr hm hb
        exact .inl ⟨_, rfl⟩
    · simp at h
  · split at h
    · rename_i hb
      simp only [Option.some.injEq, Prod.mk.injEq] at h
      obtain ⟨rfl, _, _⟩ := h
      refine ⟨hx, ?_⟩
      cases hx with
      | bptr _ _ _ hus hp =>
        obtain ⟨k, hk, rfl⟩ := hp.box hm hb
        exact .inl ⟨_, rfl⟩
    · simp at h
  · simp only [val, Option.some.injEq, Prod.mk.injEq] at h
    obtain ⟨rfl, _, _⟩ := h
    exact ⟨hx, by cases hx; exact .inr ⟨_, _, _, rfl⟩⟩
  · simp at h

theorem ext_sound {X : V} {vx : Value} {i : Nat} {x : V} {rd : List Nat} {p : Prop}
    (h : extP X i = some (x, rd, p)) (hx : Rel c X vx) (w : World) : ∃ v, (Instr.extract vx i).run P w = .ok v w ∧ Rel c x v := by
  unfold extP at h
  split at h
  · obtain ⟨y, hy, he⟩ := Option.map_eq_some_iff.1 h
    simp only [Prod.mk.injEq] at he
    obtain ⟨rfl, _, _⟩ := he
    obtain ⟨hlt, rfl⟩ := List.getElem?_eq_some_iff.1 hy
    cases hx with
    | tup _ vs hl hr =>
      have h' : i < vs.size := by omega
      exact ⟨vs[i], by simp [Instr.extract, Array.getElem?_eq_getElem h'], hr i hlt h'⟩
  · simp at h

theorem cvt_sound (hT : TblOk P T) {s d : Nat} {X : V} {vx : Value} {x : V} {rd : List Nat} {p : Prop}
    (h : cvtP Ar.std T s d X = some (x, rd, p)) (hp : p) (hx : Rel c X vx) (w : World) : ∃ v, (convert s d vx).run P w = .ok v w ∧ Rel c x v := by
  unfold cvtP at h
  split at h
  · rename_i ti k _ n hs hd
    obtain ⟨td, htd, hk⟩ := Option.map_eq_some_iff.1 hd
    have hu := (hT d td htd).k
    rw [hk] at hu
    have hs' : (P.underlying s).isSome = true := by
      have := (hT s ti hs).k
      unfold TkOk at this
      split at this <;> first | (rw [this]; rfl) | (obtain ⟨_, h1, _⟩ := this; rw [h1]; rfl)
    simp only [Ar.std, Option.some.injEq, Prod.mk.injEq] at h
    obtain ⟨rfl, rfl, rfl⟩ := h
    obtain rfl := hx.at_inv
    obtain ⟨d', hd'⟩ := Option.isSome_iff_exists.mp hs'
    simp only [TkOk] at hu
    exact ⟨.int k n, by simp [convert, run_underlying hd', run_underlying hu, Conv.intToInt, hp], .at _⟩
  · simp at h


theorem Rel.slice_len {sz b off n : Nat} {v : Value} (h : Rel c (.msl sz b off n) v) (hl : ∃ q, c.ρ b = some q) : ∃ a cap, v = .slice a n cap := by
  cases h with
  | msl _ _ _ _ _ hu hm =>
    unfold MslOk at hm
    obtain ⟨q, hq⟩ := hl
    rw [hq] at hm
    cases q with
    | none => obtain ⟨rfl, _, a, rfl⟩ := hm; exact ⟨_, _, rfl⟩
    | some k => obtain ⟨_, _, _, _, _, _, a, rfl, _⟩ := hm; exact ⟨_, _, rfl⟩


theorem len_sound (hT : TblOk P T) (hm : MemRel c m) {t : Nat} {X : V} {vx : Value} {x : V} {rd : List Nat} {p : Prop}
    (h : lenP Ar.std T m t X = some (x, rd, p)) (hx : Rel c X vx) (ty : TypeId) : ∃ v, (Builtin.len_ #[t] ty #[vx]).run P c.w = .ok v c.w ∧ Rel c x v := by
  have kind : ∀ K, (T.get t).map TI.k = some K → TkOk P t K := fun K hK => by
    obtain ⟨ti, hti, hk⟩ := Option.map_eq_some_iff.1 hK
    have := (hT t ti hti).k
    rwa [hk] at this
  unfold lenP at h
  split at h
  · rename_i e a n cap hk
    have hu := kind _ hk
    simp only [TkOk] at hu
    simp only [val, Ar.std, Option.some.injEq, Prod.mk.injEq] at h
    obtain ⟨rfl, _, _⟩ := h
    obtain rfl := hx.at_inv
    exact ⟨.int .i64 n, by simp [Builtin.len_, run_underlying hu, goInt], .at _⟩
  · rename_i e sz es hk
    have hu := kind _ hk
    simp only [TkOk] at hu
    simp only [val, Ar.std, Option.some.injEq, Prod.mk.injEq] at h
    obtain ⟨rfl, _, _⟩ := h
    cases hx
    exact ⟨.int .i64 es.length, by simp [Builtin.len_, run_underlying hu, goInt], .at _⟩
  · rename_i e hk
    have hu := kind _ hk
    simp only [TkOk] at hu
    simp only [val, Ar.std, Option.some.injEq, Prod.mk.injEq] at h
    obtain ⟨rfl, _, _⟩ := h
    cases hx
    exact ⟨.int .i64 0, by simp [Builtin.len_, run_underlying hu, goInt], .at _⟩
  · rename_i e sz b off n hk
    have hu := kind _ hk
    simp only [TkOk] at hu
    split at h
    · rename_i hb
      simp only [val, Ar.std, Option.some.injEq, Prod.mk.injEq] at h
      obtain ⟨rfl, _, _⟩ := h
      have hblk := hm.blk b
      rw [hb] at hblk
      obtain ⟨a, cap, rfl⟩ := hx.slice_len (by rcases hblk with ⟨_, h1⟩ | ⟨k, C, cap, h1, _⟩ <;> exact ⟨_, h1⟩)
      exact ⟨.int .i64 n, by simp [Builtin.len_, run_underlying hu, goInt], .at _⟩
    · simp at h
  · rename_i n e cs hk
    have hu := kind _ hk
    simp only [TkOk] at hu
    simp only [val, Ar.std, Option.some.injEq, Prod.mk.injEq] at h
    obtain ⟨rfl, _, _⟩ := h
    exact ⟨.int .i64 n, by cases hx; simp [Builtin.len_, run_underlying hu, goInt], .at _⟩
  · rename_i k e b hk
    have hu := kind _ hk
    simp only [TkOk] at hu
    split at h
    · rename_i kk kvs hb
      simp only [val, Ar.std, Option.some.injEq, Prod.mk.injEq] at h
      obtain ⟨rfl, _, _⟩ := h
      have hblk := hm.blk b
      rw [hb] at hblk
      obtain ⟨k, es, clock, h1, h2, h3, _⟩ := hblk
      have hl : es.size = kvs.length := by have := congrArg List.length h3; simpa using this
      cases hx with
      | mp _ _ hus hp =>
        obtain rfl := hp.real h1
        rw [← hl]
        exact ⟨.int .i64 es.size, by simp [Builtin.len_, run_underlying hu, goInt, getObj, Sem.run, h2], .at _⟩
    · simp at h
  · rename_i k e hk
    have hu := kind _ hk
    simp only [TkOk] at hu
    simp only [val, Ar.std, Option.some.injEq, Prod.mk.injEq] at h
    obtain ⟨rfl, _, _⟩ := h
    obtain rfl := hx.at_inv
    exact ⟨.int .i64 0, by simp [Builtin.len_, run_underlying hu, goInt], .at _⟩
  · simp at h

theorem mm_sound {mx : Bool} {X Y : V} {vx vy : Value} {x : V} {rd : List Nat} {p : Prop}
    (h : mmP Ar.std mx X Y = some (x, rd, p)) (hx : Rel c X vx) (hy : Rel c Y vy) (ts : Array TypeId) (ty : TypeId) (w : World) :
    ∃ v, (if mx then Builtin.max_ ts ty #[vx, vy] else Builtin.min_ ts ty #[vx, vy]).run P w = .ok v w ∧ Rel c x v := by
  unfold mmP at h
  split at h
  · obtain rfl := hx.at_inv
    obtain rfl := hy.at_inv
    simp only [val, Ar.std, Option.some.injEq, Prod.mk.injEq] at h
    obtain ⟨rfl, _, _⟩ := h
    cases mx
    · exact ⟨_, by simp only [Bool.false_eq_true, if_false]; rw [run_min_int2], .at _⟩
    · exact ⟨_, by simp only [if_true]; rw [run_max_int2], .at _⟩
  · simp at h

end Go.Abs
namespace Go.Abs
variable {P : Program} {T : Tbl} {c : Cx} {m : Mem}

theorem Rel.one {c : Cx} {x : V} {v : Value} (h : Rel c x v) (h1 : x.one = true) : v.oneCell' = true ∧ v.cells = #[v] := by
  cases h with
  | junk => simp [V.one] at h1
  | «at» => simp only [V.one] at h1; exact ⟨h1, by cases v <;> simp_all [Value.oneCell', Value.cells]⟩
  | agg => simp [V.one] at h1
  | tup => simp [V.one] at h1
  | row => exact ⟨rfl, rfl⟩
  | eptr => exact ⟨rfl, rfl⟩
  | cap0 => exact ⟨rfl, rfl⟩
  | msl _ _ _ _ _ _ hm => obtain ⟨_, _, _, rfl⟩ := hm.shape; exact ⟨rfl, rfl⟩
  | aptr _ _ _ _ _ _ hm => obtain ⟨_, rfl⟩ := hm.shape; exact ⟨rfl, rfl⟩
  | bptr _ _ _ _ hm => obtain ⟨_, rfl⟩ := hm.shape; exact ⟨rfl, rfl⟩
  | fn => exact ⟨rfl, rfl⟩
  | mp _ _ _ hm => obtain ⟨_, rfl⟩ := hm.shape; exact ⟨rfl, rfl⟩
  | yld _ _ _ hm => obtain ⟨_, rfl⟩ := hm.shape; exact ⟨rfl, rfl⟩

theorem Rel.cells {c : Cx} {x : V} {v : Value} {cs : List V} (h : Rel c x v) (hc : x.cells = some cs) :
    cs.length = v.cells.size ∧ (∀ i (h : i < cs.length) (h' : i < v.cells.size), Rel c cs[i] v.cells[i]) ∧ (∀ u ∈ v.cells.toList, u.oneCell' = true) := by
  have single : ∀ y : V, Rel c y v → y.one = true → cs = [y] → cs.length = v.cells.size ∧ (∀ i (h : i < cs.length) (h' : i < v.cells.size), Rel c cs[i] v.cells[i]) ∧ (∀ u ∈ v.cells.toList, u.oneCell' = true) := by
    intro y hy h1 hcs
    obtain ⟨ho, hv⟩ := hy.one h1
    subst hcs
    rw [hv]
    refine ⟨rfl, fun i hi _ => ?_, by simpa using ho⟩
    obtain rfl : i = 0 := by simp at hi; exact hi
    simpa using hy
  cases x with
  | junk => simp [V.cells] at hc
  | tup => simp [V.cells] at hc
  | «at» u =>
    simp only [V.cells] at hc
    split at hc
    · rename_i h1
      exact single _ h h1 (Option.some.inj hc).symm
    · simp at hc
  | agg ds =>
    simp only [V.cells] at hc
    split at hc
    · rename_i hall
      obtain rfl := Option.some.inj hc
      cases h with
      | agg _ vs hl hr =>
        refine ⟨hl, hr, fun u hu => ?_⟩
        obtain ⟨i, hi, rfl⟩ := List.getElem_of_mem hu
        have hi2 : i < vs.size := by simpa [Value.cells] using hi
        have hi' : i < ds.length := by omega
        have := hr i hi' hi2
        have h1 : (ds[i]).one = true := List.all_eq_true.1 hall _ (List.getElem_mem hi')
        have h3 := (this.one h1).1
        show (vs.toList[i]).oneCell' = true
        rw [Array.getElem_toList]
        exact h3
    · simp at hc
  | _ => exact single _ h rfl (Option.some.inj hc).symm

def segSet (cells : Array Value) (off : Nat) (vs : Array Value) : Array Value :=
  vs.zipIdx.foldl (fun cs (x : Value × Nat) => cs.setIfInBounds (off + x.2) x.1) cells
theorem segSet_list (off : Nat) : ∀ (vs : List Value) (n : Nat) (cells : Array Value) (k : Nat),
    ((vs.zipIdx n).foldl (fun cs (x : Value × Nat) => cs.setIfInBounds (off + x.2) x.1) cells)[k]? =
      if off + n ≤ k ∧ k < off + n + vs.length ∧ k < cells.size then vs[k - (off + n)]? else cells[k]? := by
  intro vs
  induction vs with
  | nil => intro n cells k; simp; intro h1 h2; omega
  | cons v vs ih =>
    intro n cells k
    simp only [List.zipIdx_cons, List.foldl_cons]
    rw [ih (n + 1) _ k]
    simp only [Array.size_setIfInBounds, List.length_cons, Array.getElem?_setIfInBounds]
    by_cases h1 : off + (n + 1) ≤ k ∧ k < off + (n + 1) + vs.length ∧ k < cells.size
    · rw [if_pos h1, if_pos (by omega)]
      have : k - (off + n) = (k - (off + (n + 1))) + 1 := by omega
      rw [this, List.getElem?_cons_succ]
    · rw [if_neg h1]
      by_cases h2 : off + n = k
      · subst h2
        by_cases h3 : off + n < cells.size
        · simp [h3]
        · simp [h3]
      · rw [if_neg h2, if_neg (by omega)]
theorem segSet_size (cells : Array Value) (off : Nat) (vs : Array Value) : (segSet cells off vs).size = cells.size := by
  have : ∀ (l : List (Value × Nat)) (cs : Array Value), (l.foldl (fun cs (x : Value × Nat) => cs.setIfInBounds (off + x.2) x.1) cs).size = cs.size := by
    intro l
    induction l with
    | nil => intro cs; rfl
    | cons a l ih => intro cs; simp [ih]
  unfold segSet
  rw [← Array.foldl_toList]
  exact this _ _
theorem segSet_get (cells : Array Value) (off : Nat) (vs : Array Value) (k : Nat) :
    (segSet cells off vs)[k]? = if off ≤ k ∧ k < off + vs.size ∧ k < cells.size then vs[k - off]? else cells[k]? := by
  unfold segSet
  rw [← Array.foldl_toList]
  have := segSet_list off vs.toList 0 cells k
  simpa using this


theorem fill_cons (place : Nat → Option (Nat × Nat)) (cells : Array Value) (i : Nat) (v : Value) (rest : List (Nat × Value)) (off size : Nat) (hp : place i = some (off, size))
    (hs : v.cells.size = size) (hle : off + v.cells.size ≤ cells.size) : Instr.fill place cells ((i, v) :: rest) = Instr.fill place (segSet cells off v.cells) rest := by
  have h1 : ¬ (off + v.cells.size > cells.size) := by omega
  simp only [Instr.fill, hp, hs, ne_eq, not_true_eq_false, decide_false, Bool.false_or, decide_eq_true_eq]
  rw [← hs, if_neg h1]
  rfl

theorem over_fill (place : Nat → Option (Nat × Nat)) (fs : List (Nat × Nat)) (hp : ∀ k o u, fs[k]? = some (o, u) → ∀ tu, T.get u = some tu → place k = some (o, tu.size)) :
    ∀ (ps : List (Nat × V)) (vs : List (Nat × Value)) (cells : Array Value) (cs cs' : List V), cs.length = cells.size → (∀ j (h : j < cs.length) (h' : j < cells.size), Rel c cs[j] cells[j]) →
    overC T fs cs ps = some cs' → ps.length = vs.length → (∀ k (h : k < ps.length) (h' : k < vs.length), ps[k].1 = vs[k].1 ∧ Rel c ps[k].2 vs[k].2) →
    ∃ F, Instr.fill place cells vs = some F ∧ cs'.length = F.size ∧ ∀ j (h : j < cs'.length) (h' : j < F.size), Rel c cs'[j] F[j] := by
  intro ps
  induction ps with
  | nil =>
    intro vs cells cs cs' hl hrel h hlen _
    simp only [overC, Option.some.injEq] at h
    subst h
    cases vs with
    | nil => exact ⟨cells, rfl, hl, hrel⟩
    | cons => simp at hlen
  | cons p ps ih =>
    intro vs cells cs cs' hl hrel h hlen hr
    obtain ⟨j, x⟩ := p
    cases vs with
    | nil => simp at hlen
    | cons q vs =>
      obtain ⟨j', v⟩ := q
      have h0 := hr 0 (by simp) (by simp)
      simp only [List.getElem_cons_zero] at h0
      obtain ⟨hj, hx⟩ := h0
      subst hj
      simp only [overC] at h
      split at h
      case h_2 => simp at h
      rename_i o u hou
      split at h
      case h_2 => simp at h
      rename_i tu xs htu hxs
      split at h
      case isFalse => simp at h
      rename_i hsz
      split at h
      case h_2 => simp at h
      rename_i cs1 hcs1
      obtain ⟨g1, g2, _⟩ := hx.cells hxs
      unfold upC at hcs1
      split at hcs1
      case isFalse => simp at hcs1
      rename_i hle
      simp only [Option.some.injEq] at hcs1
      subst hcs1
      rw [fill_cons place cells j v vs o tu.size (hp j o u hou tu htu) (by omega) (by omega)]
      have hl1 : (cs.take o ++ xs ++ cs.drop (o + xs.length)).length = (segSet cells o v.cells).size := by
        rw [segSet_size]; simp; omega
      refine ih vs _ _ cs' hl1 (fun k hk hk' => ?_) h (by simpa using hlen) (fun k h1 h2 => by
        have := hr (k + 1) (by simpa using h1) (by simpa using h2)
        simpa using this)
      have hk2 : k < cells.size := by rw [segSet_size] at hk'; exact hk'
      have hget := segSet_get cells o v.cells k
      rw [Array.getElem?_eq_getElem hk'] at hget
      by_cases h1 : k < o
      · rw [if_neg (by omega), Array.getElem?_eq_getElem hk2] at hget
        rw [Option.some.inj hget, List.getElem_append_left (by simp; omega), List.getElem_append_left (by simp; omega), List.getElem_take]
        exact hrel k (by omega) hk2
      · by_cases h2 : k < o + xs.length
        · rw [if_pos (by omega), Array.getElem?_eq_getElem (by omega)] at hget
          have e1 : min o cs.length = o := by omega
          rw [Option.some.inj hget, List.getElem_append_left (by simp; omega), List.getElem_append_right (by simp; omega)]
          simp only [List.length_take, e1]
          exact g2 (k - o) (by omega) (by omega)
        · rw [if_neg (by omega), Array.getElem?_eq_getElem hk2] at hget
          have e1 : min o cs.length = o := by omega
          rw [Option.some.inj hget, List.getElem_append_right (by simp; omega), List.getElem_drop]
          simp only [List.length_append, List.length_take, e1]
          have e2 : o + xs.length + (k - (o + xs.length)) = k := by omega
          simp only [e2]
          exact hrel k (by omega) hk2
theorem allIn_spec {T : Tbl} : ∀ {fs : List (Nat × Nat)}, allIn T fs = true → ∀ q ∈ fs, ∃ tu, T.get q.2 = some tu := by
  intro fs
  induction fs with
  | nil => intro _ q hq; simp at hq
  | cons f fs ih =>
    obtain ⟨o, u⟩ := f
    intro h q hq
    simp only [allIn, Bool.and_eq_true] at h
    rcases List.mem_cons.1 hq with rfl | hq
    · exact Option.isSome_iff_exists.1 h.1
    · exact ih h.2 q hq

theorem arrFs_get (e s : Nat) : ∀ (n i k o u : Nat), (arrFs e s n i)[k]? = some (o, u) → o = (i + k) * s ∧ u = e := by
  intro n
  induction n with
  | zero => intro i k o u h; simp [arrFs] at h
  | succ n ih =>
    intro i k o u h
    cases k with
    | zero => simp [arrFs] at h; simp [h.1, h.2]
    | succ k =>
      simp only [arrFs, List.getElem?_cons_succ] at h
      obtain ⟨h1, h2⟩ := ih _ _ _ _ h
      exact ⟨by rw [h1]; congr 1; omega, h2⟩
theorem zero_rel {z : List Value} {cells : Array Value} (h : cells.toList = z) : (z.map V.at).length = cells.size ∧ ∀ j (h1 : j < (z.map V.at).length) (h2 : j < cells.size), Rel c (z.map V.at)[j] cells[j] := by
  subst h
  refine ⟨by simp, fun j h1 h2 => ?_⟩
  have : (cells.toList.map V.at)[j] = .at cells[j] := by simp
  rw [this]
  exact .at _
theorem build_sound (hT : TblOk P T) {t : Nat} {ps : List (Nat × V)} {vs : List (Nat × Value)} {x : V} {rd : List Nat} {p : Prop}
    (h : buildP T t ps = some (x, rd, p)) (hl : ps.length = vs.length)
    (hr : ∀ k (h : k < ps.length) (h' : k < vs.length), ps[k].1 = vs[k].1 ∧ Rel c ps[k].2 vs[k].2) (w : World) :
    ∃ v, (Instr.build t vs.toArray).run P w = .ok v w ∧ Rel c x v := by
  unfold buildP at h
  split at h
  case h_3 => simp at h
  · rename_i n e sz by_ z ht
    split at h
    case h_2 => simp at h
    rename_i te hte
    split at h
    case h_2 => simp at h
    rename_i cs hcs
    simp only [val, Option.some.injEq, Prod.mk.injEq] at h
    obtain ⟨rfl, _, _⟩ := h
    obtain ⟨⟨i, hi, hs, hb, z', hz, hzc⟩, hlen, hone, hk⟩ := hT t _ ht
    obtain ⟨⟨ie, hie, hse, _⟩, _⟩ := hT e te hte
    simp only at hzc
    have hu : P.underlying t = some (.array n e) := hk
    have hszr : (sizeOf e).run P w = .ok te.size w := by simp [sizeOf, typeInfo, hie, hse]
    have hzv : (zeroValue t).run P w = .ok z' w := by simp [zeroValue, typeInfo, hi, hz]
    obtain ⟨q1, q2⟩ := zero_rel (c := c) hzc
    obtain ⟨R, hR, hRs, hRr⟩ := over_fill (c := c) (T := T) (fun k => some (k * te.size, te.size)) (arrFs e te.size n 0) (fun k o u hk tu htu => by
        obtain ⟨h1, rfl⟩ := arrFs_get e te.size n 0 k o u hk
        rw [hte] at htu
        obtain rfl := Option.some.inj htu
        rw [h1, Nat.zero_add]) ps vs z'.cells _ cs q1 q2 hcs hl hr
    exact ⟨.agg R, by simp [Instr.build, hzv, run_underlying hu, hszr, hR], .agg cs R hRs hRr⟩
  rename_i fs n by_ z ht
  split at h
  case isFalse => simp at h
  rename_i hall
  split at h
  case h_2 => simp at h
  rename_i cs hcs
  simp only [val, Option.some.injEq, Prod.mk.injEq] at h
  obtain ⟨rfl, _, _⟩ := h
  obtain ⟨⟨i, hi, hs, hb, z', hz, hzc⟩, hlen, hone, hk⟩ := hT t _ ht
  obtain ⟨F, hF, hmap⟩ := hk
  simp only at hzc hmap
  have hplaces : ∃ places : List (Nat × Nat), F.toList.mapM (fun f => (P.info? f.type).map fun i => (f.offset, i.size)) = some places ∧
      (∀ (k o u : Nat), fs[k]? = some (o, u) → ∀ tu, T.get u = some tu → places.toArray[k]? = some (o, tu.size)) := by
    have : ∀ (F : List Field), (∀ f ∈ F, ∃ tu, T.get f.type = some tu) → ∃ places : List (Nat × Nat), F.mapM (fun f => (P.info? f.type).map fun i => (f.offset, i.size)) = some places ∧
        (∀ (k o u : Nat), (F.map fun x => (x.offset, x.type))[k]? = some (o, u) → ∀ tu, T.get u = some tu → places.toArray[k]? = some (o, tu.size)) := by
      intro F
      induction F with
      | nil => intro _; exact ⟨[], rfl, fun k o u h => by simp at h⟩
      | cons f F ih =>
        intro hF
        obtain ⟨tu, htu⟩ := hF f (by simp)
        obtain ⟨places, hp1, hp2⟩ := ih (fun g hg => hF g (by simp [hg]))
        obtain ⟨⟨i, hi, hs, _⟩, _⟩ := hT _ tu htu
        refine ⟨(f.offset, i.size) :: places, by simp [hi, hp1], fun k o u hk tu' htu' => ?_⟩
        cases k with
        | zero =>
          simp at hk
          obtain ⟨rfl, rfl⟩ := hk
          rw [htu] at htu'
          obtain rfl := Option.some.inj htu'
          simp [hs]
        | succ k =>
          have := hp2 k o u (by simpa using hk) tu' htu'
          simpa using this
    have hm := this F.toList (fun f hf => allIn_spec hall (f.offset, f.type) (by rw [← hmap]; exact List.mem_map.2 ⟨f, hf, rfl⟩))
    rwa [hmap] at hm
  obtain ⟨places, hp1, hp2⟩ := hplaces
  obtain ⟨q1, q2⟩ := zero_rel (c := c) hzc
  obtain ⟨R, hR, hRs, hRr⟩ := over_fill (c := c) (T := T) (fun k => places.toArray[k]?) fs (fun k o u hk tu htu => hp2 k o u hk tu htu) ps vs z'.cells _ cs q1 q2 hcs hl hr
  refine ⟨.agg R, run_build w t vs.toArray R ?_, .agg cs R hRs hRr⟩
  simp only [Program.built, hi, hF, hz, hp1]
  exact hR

theorem Rel.opt_int {X : Option V} {v : Option Value} (h : ∀ x, X = some x → ∃ y, v = some y ∧ Rel c x y) : ∀ k z, X = some (.at (.int k z)) → v = some (.int k z) := fun k z e => by
  obtain ⟨y, rfl, hr⟩ := h _ e
  rw [hr.at_inv]

theorem slice_run {t e : Nat} {sz : Nat} (hu : P.underlying t = some (.slice e)) (hsz : ∀ w : World, (sizeOf e).run P w = .ok sz w) {a : Option Addr} {n cap : Nat} {lo hi : Option V} {lo' hi' : Option Value}
    (hlo : ∀ x, lo = some x → ∃ y, lo' = some y ∧ Rel c x y) (hlon : lo = none → lo' = none) (hhi : ∀ x, hi = some x → ∃ y, hi' = some y ∧ Rel c x y) (hhin : hi = none → hi' = none)
    {l h : Int} (hl : loI lo = some l) (hh : hiI Ar.std n hi = some h) (h0 : 0 ≤ l) (h1 : l ≤ h) (h2 : h ≤ n) (h3 : n ≤ cap) (w : World) :
    (Instr.sliceAt t (.slice a n cap) lo' hi' none).run P w = .ok (sliced a l.toNat h.toNat cap sz) w := by
  have he : P.elem t = e := by simp [Program.elem, hu]
  have hu' : P.underlying t = some (.slice (P.elem t)) := by rw [he]; exact hu
  rw [run_sliceAt_slice w t _ _ _ _ hu']
  have lo1 : (lo' = none ∧ l = 0) ∨ ∃ k, lo' = some (.int k l) := by
    cases lo with
    | none => left; simp [loI] at hl; exact ⟨hlon rfl, hl.symm⟩
    | some x =>
      right
      obtain ⟨y, rfl, hr⟩ := hlo x rfl
      unfold loI at hl
      split at hl
      · rename_i e1; simp at e1
      · rename_i k l' e1
        obtain rfl := Option.some.inj e1
        obtain rfl := Option.some.inj hl
        exact ⟨k, by rw [hr.at_inv]⟩
      · simp at hl
  have hi1 : (hi' = none ∧ h = n) ∨ ∃ k, hi' = some (.int k h) := by
    cases hi with
    | none => left; simp [hiI, Ar.std] at hh; exact ⟨hhin rfl, hh.symm⟩
    | some x =>
      right
      obtain ⟨y, rfl, hr⟩ := hhi x rfl
      unfold hiI at hh
      split at hh
      · rename_i e1; simp at e1
      · rename_i k l' e1
        obtain rfl := Option.some.inj e1
        obtain rfl := Option.some.inj hh
        exact ⟨k, by rw [hr.at_inv]⟩
      · simp at hh
  rcases lo1 with ⟨rfl, rfl⟩ | ⟨kl, rfl⟩ <;> rcases hi1 with ⟨rfl, rfl⟩ | ⟨kh, rfl⟩
  · rw [run_slice_all w t a n cap hu']; simp [he, hsz]
  · rw [run_slice_h w t a n cap hu' kh h (by omega) (by omega)]; simp [he, hsz]
  · rw [run_slice_l w t a n cap hu' kl l h0 (by omega)]; simp [he, hsz]
  · rw [run_slice_lh w t a n cap hu' kl kh l h h0 h1 (by omega)]; simp [he, hsz]

theorem slice_sound (hT : TblOk P T) (hm : MemRel c m) {t : Nat} {X : V} {vx : Value} {lo hi mx : Option V} {lo' hi' mx' : Option Value} {x : V} {rd : List Nat} {p : Prop}
    (h : sliceP Ar.std T m t X lo hi mx = some (x, rd, p)) (hp : p) (hx : Rel c X vx)
    (hlo : ∀ x, lo = some x → ∃ y, lo' = some y ∧ Rel c x y) (hlon : lo = none → lo' = none) (hhi : ∀ x, hi = some x → ∃ y, hi' = some y ∧ Rel c x y) (hhin : hi = none → hi' = none)
    (hmx : ∀ x, mx = some x → ∃ y, mx' = some y ∧ Rel c x y) (hmxn : mx = none → mx' = none) :
    ∃ v, (Instr.sliceAt t vx lo' hi' mx').run P c.w = .ok v c.w ∧ Rel c x v := by
  unfold sliceP at h
  split at h
  case h_2 => simp at h
  rename_i e hk
  obtain ⟨ti, hti, hkk⟩ := Option.map_eq_some_iff.1 hk
  have hu := (hT t ti hti).k
  rw [hkk] at hu
  simp only [TkOk] at hu
  split at h
  case h_1 => simp at h
  rename_i se hse
  obtain ⟨te, hte, hts⟩ := Option.map_eq_some_iff.1 hse
  obtain ⟨⟨i, hi1, hs, _⟩, _⟩ := hT e te hte
  have hsz : ∀ w : World, (sizeOf e).run P w = .ok se w := fun w => by simp [sizeOf, typeInfo, hi1, hs, hts]
  have he : P.elem t = e := by simp [Program.elem, hu]
  have hu' : P.underlying t = some (.slice (P.elem t)) := by rw [he]; exact hu
  split at h
  · -- all three: the empty row without room
    rename_i z
    split at h
    case isFalse => simp at h
    rename_i hz
    simp only [Bool.and_eq_true] at hz
    obtain ⟨⟨hz1, hz2⟩, hz3⟩ := hz
    have zero : ∀ (X : Option V) (v : Option Value), (∀ x, X = some x → ∃ y, v = some y ∧ Rel c x y) → zeroI X = true → ∃ k, v = some (.int k 0) := by
      intro X v hX hz
      unfold zeroI at hz
      split at hz
      · obtain ⟨y, rfl, hr⟩ := hX _ rfl
        exact ⟨_, by rw [hr.at_inv]⟩
      · simp at hz
    obtain ⟨kh, rfl⟩ := zero hi hi' hhi hz2
    obtain ⟨km, rfl⟩ := zero (some z) mx' hmx hz1
    have hlo0 : lo' = none := hlon (by cases lo <;> simp_all)
    subst hlo0
    have fin : ∀ a n cap, vx = .slice a n cap → ∃ v, (Instr.sliceAt t vx none (some (.int kh 0)) (some (.int km 0))).run P c.w = .ok v c.w ∧ Rel c .cap0 v := by
      intro a n cap hv
      subst hv
      rw [run_sliceAt_slice c.w t _ _ _ _ hu', run_slice_hm c.w t a n cap hu' kh km 0 0 (by omega) (by omega) (by omega)]
      exact ⟨_, by simp [he, hsz]; rfl, by simp [sliced]; exact .cap0 _⟩
    split at h
    · simp only [val, Option.some.injEq, Prod.mk.injEq] at h
      obtain ⟨rfl, _, _⟩ := h
      cases hx
      exact fin _ _ _ rfl
    · simp only [val, Option.some.injEq, Prod.mk.injEq] at h
      obtain ⟨rfl, _, _⟩ := h
      cases hx
      exact fin _ _ _ rfl
    · simp only [val, Option.some.injEq, Prod.mk.injEq] at h
      obtain ⟨rfl, _, _⟩ := h
      obtain rfl := hx.at_inv
      exact fin _ _ _ rfl
    · split at h
      · simp only [Option.some.injEq, Prod.mk.injEq] at h
        obtain ⟨rfl, _, _⟩ := h
        cases hx with
        | msl _ _ _ _ _ _ hms =>
          obtain ⟨a, l, cap, rfl⟩ := hms.shape
          exact fin _ _ _ rfl
      · simp at h
    · simp at h
  · have hmx0 : mx' = none := hmxn rfl
    subst hmx0
    split at h
    · rename_i sz es
      split at h
      case h_2 => simp at h
      rename_i l hh hl hhh
      split at h
      case isFalse => simp at h
      rename_i hss
      subst hss
      simp only [Ar.std, Option.some.injEq, Prod.mk.injEq] at h
      obtain ⟨rfl, _, rfl⟩ := h
      obtain ⟨b0, b1, b2⟩ := hp
      cases hx with
      | row _ _ a cap k o us h00 g1 g2 g3 g4 =>
        have hr := slice_run (P := P) hu hsz hlo hlon hhi hhin hl hhh b0 b1 b2 h00 c.w (a := a)
        refine ⟨_, hr, ?_⟩
        have hlen : ((es.take hh.toNat).drop l.toNat).length = hh.toNat - l.toNat := by simp; omega
        unfold sliced
        rw [← hlen]
        refine .row sz _ _ _ k (o + l.toNat * sz) (fun i j => us (l.toNat + i) j) ?_ ?_ (fun i hi => ?_) (fun i hi j hj => ?_) (fun i hi j hj => ?_)
        · rw [hlen]; omega
        · intro hpos
          rw [hlen] at hpos
          rw [g1 (by omega), if_neg (by omega)]
          simp [Addr.add_plain]
        · rw [hlen] at hi
          simp only [List.getElem_drop, List.getElem_take]
          exact g2 _ (by omega)
        · rw [hlen] at hi
          simp only [List.getElem_drop, List.getElem_take] at hj
          have := g3 (l.toNat + i) (by omega) j hj
          rw [show o + l.toNat * sz + i * sz + j = o + (l.toNat + i) * sz + j by rw [Nat.add_mul]; omega]
          exact this
        · rw [hlen] at hi
          simp only [List.getElem_drop, List.getElem_take] at hj ⊢
          exact g4 (l.toNat + i) (by omega) j hj
    · rename_i sz b off n
      split at h
      case h_2 => simp at h
      rename_i ty s es hb
      split at h
      case h_2 => simp at h
      rename_i l hh hl hhh
      split at h
      case isFalse => simp at h
      rename_i hss
      obtain ⟨rfl, rfl⟩ := hss
      simp only [Ar.std, Option.some.injEq, Prod.mk.injEq] at h
      obtain ⟨rfl, _, rfl⟩ := h
      obtain ⟨b0, b1, b2⟩ := hp
      cases hx with
      | msl _ _ _ _ _ hus hms =>
        have hblk := hm.blk b
        rw [hb] at hblk
        unfold MslOk at hms
        rcases hblk with ⟨q1, q2⟩ | ⟨k, C, cap, q2, _⟩
        · rw [q2] at hms
          obtain ⟨rfl, rfl, a, rfl⟩ := hms
          have hr := slice_run (P := P) hu hsz hlo hlon hhi hhin hl hhh b0 b1 b2 (Nat.le_refl _) c.w (a := a)
          refine ⟨_, hr, .msl _ _ _ _ _ hus ?_⟩
          obtain rfl : l = 0 := by omega
          obtain rfl : hh = 0 := by omega
          unfold MslOk
          rw [q2]
          exact ⟨by simp, by simp, a, by simp [sliced]⟩
        · rw [q2] at hms
          obtain ⟨vc, C', ty', g1, g2, g3, a, rfl, g5⟩ := hms
          have hr := slice_run (P := P) hu hsz hlo hlon hhi hhin hl hhh b0 b1 b2 g2 c.w (a := some a)
          refine ⟨_, hr, .msl _ _ _ _ _ hus ?_⟩
          unfold MslOk
          rw [q2]
          refine ⟨vc - l.toNat, C', ty', g1, by omega, ?_, ?_⟩
          · rw [← g3]; congr 1; omega
          · unfold sliced
            by_cases e1 : vc = l.toNat
            · exact ⟨a, by simp [e1], .inr (by omega)⟩
            · refine ⟨a.add (l.toNat * s), by simp [e1], .inl ?_⟩
              rcases g5 with rfl | rfl
              · rw [Addr.add_plain, Nat.add_mul]
              · omega
    · simp at h

/-- What is told without memory being changed is what the machine comes to. -/
theorem idx_sound (hT : TblOk P T) {t : Nat} {X I : V} {vx vi : Value} {x : V} {rd : List Nat} {p : Prop}
    (h : idxP T t X I = some (x, rd, p)) (hp : p) (hx : Rel c X vx) (hi : Rel c I vi) : ∃ v, (Instr.index t vx vi).run P c.w = .ok v c.w ∧ Rel c x v := by
  unfold idxP at h
  split at h
  case h_2 => simp at h
  rename_i n e sz by_ z ht
  split at h
  case h_2 => simp at h
  rename_i te hte
  split at h
  case h_2 => simp at h
  rename_i cs k z
  obtain ⟨y, hy, he⟩ := Option.map_eq_some_iff.1 h
  simp only [Prod.mk.injEq] at he
  obtain ⟨rfl, _, rfl⟩ := he
  obtain ⟨_, _, _, hk⟩ := hT t _ ht
  have hu : P.underlying t = some (.array n e) := hk
  obtain rfl := hi.at_inv
  obtain ⟨⟨i, hi, hs, _⟩, _⟩ := hT e te hte
  have hsz : (sizeOf e).run P c.w = .ok te.size c.w := by simp [sizeOf, typeInfo, hi, hs]
  cases hx with
  | agg _ vs hl hr =>
    obtain ⟨v, hv, hrel⟩ := part_sound (P := P) hT hte hl hr hy c.w
    refine ⟨v, ?_, hrel⟩
    simp only [Instr.index, asIntOf, Sem.run_bind, Sem.run_pure, Result.andThen_ok, run_underlying hu, hp.1, hp.2, and_self, if_true, hsz, hv]

theorem pure_sound (hT : TblOk P T) (hm : MemRel c m) {a : Act} {ev : Operand → V} (hev : ∀ x, Rel c (ev x) (a.eval x)) {o : Oper} {x : V} {rd : List Nat} {p : Prop}
    (h : pureP Ar.std T ev m o.op = some (x, rd, p)) (hp : p) : ∃ v, (execOp a.eval o).run P c.w = .ok (.value v) c.w ∧ Rel c x v := by
  unfold pureP at h
  split at h <;> rename_i heq
  · simp only [val, Option.some.injEq, Prod.mk.injEq] at h
    obtain ⟨rfl, _, _⟩ := h
    exact ⟨_, by simp [execOp, heq], hev _⟩
  · simp only [val, Option.some.injEq, Prod.mk.injEq] at h
    obtain ⟨rfl, _, _⟩ := h
    exact ⟨_, by simp [execOp, heq], hev _⟩
  · obtain ⟨v, h1, h2⟩ := pick_sound (P := P) h (hev _) (hev _) (hev _) c.w
    exact ⟨v, by simp only [execOp, heq]; exact h1, h2⟩
  · obtain ⟨v, h1, h2⟩ := load_sound hT hm h (hev _)
    exact ⟨v, by simp [execOp, heq, h1], h2⟩
  · obtain ⟨h1, h2⟩ := nil_sound hm h (hev _)
    refine ⟨_, ?_, h1⟩
    simp only [execOp, heq]
    rcases h2 with ⟨q, hq⟩ | ⟨f, u, w, hq⟩ <;> rw [hq] <;> rfl
  · obtain ⟨v, h1, h2⟩ := bin_sound (P := P) hT h hp (hev _) (hev _) _ _ c.w
    exact ⟨v, by simp only [execOp, heq]; rw [Sem.run_bind, h1]; rfl, h2⟩
  · obtain ⟨v, h1, h2⟩ := un_sound (P := P) h hp (hev _) c.w
    exact ⟨v, by simp [execOp, heq, h1], h2⟩
  · obtain ⟨v, h1, h2⟩ := cvt_sound hT h hp (hev _) c.w
    exact ⟨v, by simp [execOp, heq, h1], h2⟩
  · rename_i f xs ys
    simp only [val, Option.some.injEq, Prod.mk.injEq] at h
    obtain ⟨rfl, _, _⟩ := h
    refine ⟨.func f (xs.map a.eval) (ys.map a.eval), by simp [execOp, heq, Instr.makeFunc], .fn f _ _ _ _ (by simp) (by simp) (fun i h1 h2 => ?_) (fun i h1 h2 => ?_)⟩
    · simpa using hev _
    · simpa using hev _
  · obtain ⟨v, h1, h2⟩ := fld_sound hT hm h (hev _)
    exact ⟨v, by simp [execOp, heq, h1], h2⟩
  · obtain ⟨v, h1, h2⟩ := field_sound hT h (hev _)
    exact ⟨v, by simp [execOp, heq, h1], h2⟩
  · obtain ⟨v, h1, h2⟩ := ext_sound (P := P) h (hev _) c.w
    exact ⟨v, by simp [execOp, heq, h1], h2⟩
  · obtain ⟨v, h1, h2⟩ := idx_sound hT h hp (hev _) (hev _)
    exact ⟨v, by simp [execOp, heq, h1], h2⟩
  · rename_i cl
    unfold biP at h
    split at h
    case h_2 => simp at h
    rename_i b hcl
    obtain ⟨callee, args, argTypes⟩ := cl
    simp only at hcl h
    subst hcl
    obtain ⟨args⟩ := args
    obtain ⟨argTypes⟩ := argTypes
    simp only at h
    split at h
    · rename_i x0 t0 hx0
      obtain ⟨X, rfl, rfl⟩ : ∃ X, args = [X] ∧ x0 = ev X := by
        match args, hx0 with
        | [X], hx0 => simp at hx0; exact ⟨X, rfl, hx0.symm⟩
      obtain ⟨v, h1, h2⟩ := len_sound hT hm h (hev X) o.type
      exact ⟨v, by simp [execOp, heq, resolve, invoke, builtin, h1], h2⟩
    · rename_i x0 y0 hx0
      obtain ⟨X, Y, rfl, rfl, rfl⟩ : ∃ X Y, args = [X, Y] ∧ x0 = ev X ∧ y0 = ev Y := by
        match args, hx0 with
        | [X, Y], hx0 => simp at hx0; exact ⟨X, Y, rfl, hx0.1.symm, hx0.2.symm⟩
      obtain ⟨v, h1, h2⟩ := mm_sound (P := P) h (hev X) (hev Y) ⟨_⟩ o.type c.w
      exact ⟨v, by simp at h1; simp [execOp, heq, resolve, invoke, builtin]; rw [h1]; rfl, h2⟩
    · rename_i x0 y0 hx0
      obtain ⟨X, Y, rfl, rfl, rfl⟩ : ∃ X Y, args = [X, Y] ∧ x0 = ev X ∧ y0 = ev Y := by
        match args, hx0 with
        | [X, Y], hx0 => simp at hx0; exact ⟨X, Y, rfl, hx0.1.symm, hx0.2.symm⟩
      obtain ⟨v, h1, h2⟩ := mm_sound (P := P) h (hev X) (hev Y) ⟨_⟩ o.type c.w
      exact ⟨v, by simp at h1; simp [execOp, heq, resolve, invoke, builtin]; rw [h1]; rfl, h2⟩
    · simp at h
  · rename_i t x lo hi mx
    have opt : ∀ o : Option Operand, (∀ y, o.map ev = some y → ∃ z, o.map a.eval = some z ∧ Rel c y z) ∧ (o.map ev = none → o.map a.eval = none) := fun o => by
      cases o with
      | none => simp
      | some q => exact ⟨fun y hy => ⟨_, rfl, by simp at hy; subst hy; exact hev q⟩, fun h => by simp at h⟩
    obtain ⟨v, h1, h2⟩ := slice_sound hT hm h hp (hev x) (opt lo).1 (opt lo).2 (opt hi).1 (opt hi).2 (opt mx).1 (opt mx).2
    exact ⟨v, by simp [execOp, heq, h1], h2⟩
  · simp at h

end Go.Abs
namespace Go.Abs
variable {P : Program} {T : Tbl} {c : Cx} {m : Mem}

/-- Blocks laid anew, or let go; of several rows on one block the first counts. -/
def Mem.app (m : Mem) : List (Nat × Option Blk) → Mem
  | [] => m
  | (i, some b) :: r => (m.app r).set i b
  | (i, none) :: r => (m.app r).del i
def dget : List (Nat × Option Blk) → Nat → Option (Option Blk)
  | [], _ => none
  | (i, o) :: r, b => if b = i then some o else dget r b
theorem Mem.get_app (m : Mem) (δ : List (Nat × Option Blk)) (b : Nat) : (m.app δ).get b = (dget δ b).getD (m.get b) := by
  induction δ with
  | nil => rfl
  | cons p r ih =>
    obtain ⟨i, o⟩ := p
    cases o with
    | none =>
      simp only [Mem.app, Mem.get_del, dget, ih]
      by_cases h : b = i <;> simp [h]
    | some blk =>
      simp only [Mem.app, Mem.get_set, dget, ih]
      by_cases h : b = i <;> simp [h]

/-- The blocks that the memory holds may be changed; new ones may come. -/
structure Nxt (c c' : Cx) (m' : Mem) (id nx nx' : Nat) : Prop where
  evo : Evo (fun k => ∃ b, c.ρ b = some (some k)) c c'
  mem : MemRel c' m'
  fresh : ∀ b k, c'.ρ b = some (some k) → (∃ b', c.ρ b' = some (some k)) ∨ c.w.heap.size ≤ k
  us : ∀ b, c'.us b → c.us b ∨ b = id ∨ (nx ≤ b ∧ b < nx')

theorem Nxt.refl {id nx nx' : Nat} (hm : MemRel c m) : Nxt c c m id nx nx' :=
  ⟨Evo.refl _ _, hm, fun b k h => .inl ⟨b, h⟩, fun b h => .inl h⟩

theorem BlkRel.evo {S : Nat → Prop} {c c' : Cx} (e : Evo S c c') {b : Nat} {blk : Option Blk} (h : BlkRel c b blk) (hρ : c'.ρ b = c.ρ b)
    (hheap : ∀ k, c.ρ b = some (some k) → c'.w.heap[k]? = c.w.heap[k]? ∧ ∀ o, c'.im k o → c.im k o) : BlkRel c' b blk := by
  cases blk with
  | none => simp only [BlkRel] at *; rw [hρ]; exact h
  | some blk =>
    cases blk with
    | box ty cells =>
      obtain ⟨k, C, h1, h2, h3, h4, h5⟩ := h
      obtain ⟨h6, h7⟩ := hheap k h1
      exact ⟨k, C, by rw [hρ]; exact h1, by rw [h6]; exact h2, h3, fun j hj hj' => (h4 j hj hj').evo e, fun o ho => h5 o (h7 o ho)⟩
    | arr ty sz es =>
      rcases h with ⟨h1, h2⟩ | ⟨k, C, cap, h1, h2, h3, h4, h5, h6, h7, h8⟩
      · exact .inl ⟨h1, by rw [hρ]; exact h2⟩
      · obtain ⟨g1, g2⟩ := hheap k h1
        refine .inr ⟨k, C, cap, by rw [hρ]; exact h1, by rw [g1]; exact h2, h3, h4, h5, h6, fun i hi j hj => ?_, fun o ho => h8 o (g2 o ho)⟩
        obtain ⟨u, hu1, hu2⟩ := h7 i hi j hj
        exact ⟨u, hu1, hu2.evo e⟩
    | map kk kvs =>
      obtain ⟨k, es, clock, h1, h2, h4, h3⟩ := h
      obtain ⟨h6, h7⟩ := hheap k h1
      exact ⟨k, es, clock, by rw [hρ]; exact h1, by rw [h6]; exact h2, h4, fun o ho => h3 o (h7 o ho)⟩
    | loop rf lc j =>
      obtain ⟨k, r, h1, h2, h4, h5, hrf, h3⟩ := h
      obtain ⟨h6, h7⟩ := hheap k h1
      exact ⟨k, r, by rw [hρ]; exact h1, by rw [h6]; exact h2, h4, fun t => (h5 t).evo e, hrf, fun o ho => h3 o (h7 o ho)⟩

theorem BlkRel.lt {b k : Nat} {blk : Option Blk} (h : BlkRel c b blk) (hk : c.ρ b = some (some k)) : k < c.w.heap.size := by
  have lt : ∀ o, c.w.heap[k]? = some o → k < c.w.heap.size := fun o ho => (Array.getElem?_eq_some_iff.1 ho).1
  cases blk with
  | none => simp only [BlkRel] at h; rw [h] at hk; simp at hk
  | some blk =>
    cases blk with
    | box ty cells =>
      obtain ⟨k', C, h1, h2, _⟩ := h
      rw [h1] at hk
      obtain rfl : k' = k := by simpa using hk
      exact lt _ h2
    | arr ty sz es =>
      rcases h with ⟨h1, h2⟩ | ⟨k', C, cap, h1, h2, _⟩
      · rw [h2] at hk; simp at hk
      · rw [h1] at hk
        obtain rfl : k' = k := by simpa using hk
        exact lt _ h2
    | map kk kvs =>
      obtain ⟨k', es, clock, h1, h2, _⟩ := h
      rw [h1] at hk
      obtain rfl : k' = k := by simpa using hk
      exact lt _ h2
    | loop rf lc j =>
      obtain ⟨k', r, h1, h2, _⟩ := h
      rw [h1] at hk
      obtain rfl : k' = k := by simpa using hk
      exact lt _ h2

/-- The context behind a new block. -/
def Cx.new (c : Cx) (id : Nat) (w' : World) (k : Nat) : Cx :=
  { w := w', im := c.im, ρ := fun b => if b = id then some (some k) else c.ρ b, us := fun b => c.us b ∨ b = id }

/-- What a world is that went on by draws and one new block. -/
structure Grew (w w' : World) (o : Obj) : Prop where
  os : w'.os = w.os
  tape : w'.tape = w.tape
  output : w'.output = w.output
  heap : w'.heap = w.heap.push o

theorem Grew.alloc (w : World) (o : Obj) : Grew w (w.alloc o) o := ⟨rfl, rfl, rfl, rfl⟩
theorem Grew.drewAlloc (w : World) (o : Obj) : Grew w (w.drew.alloc o) o := ⟨rfl, rfl, rfl, rfl⟩

theorem Cx.new_evo {id : Nat} {w' : World} {o : Obj} (S : Nat → Prop) (hm : MemRel c m) (hid : ¬ c.us id) (hg : Grew c.w w' o) : Evo S c (c.new id w' c.w.heap.size) where
  os := hg.os
  tape := hg.tape
  output := hg.output
  size := by show c.w.heap.size ≤ w'.heap.size; rw [hg.heap]; simp
  keep := fun k C ty fr h => ⟨C, by
    show w'.heap[k]? = _
    have hlt : k < c.w.heap.size := (Array.getElem?_eq_some_iff.1 h).1
    rw [hg.heap, Array.getElem?_push, if_neg (Nat.ne_of_lt hlt)]; exact h, rfl⟩
  same := fun k hk _ => by
    show w'.heap[k]? = _
    rw [hg.heap, Array.getElem?_push, if_neg (Nat.ne_of_lt hk)]
  imm := fun k o h => ⟨h, by
    have hlt := hm.imlt k o h
    show w'.cell? _ = _
    simp only [World.cell?]
    rw [hg.heap, Array.getElem?_push, if_neg (Nat.ne_of_lt hlt)]⟩
  imold := fun k o h _ _ => h
  us := fun b h => .inl h
  ρ := fun b hb => by
    have : b ≠ id := fun e => hid (e ▸ hb)
    exact .inl (by simp [Cx.new, this])

theorem new_nxt {id nx nx' : Nat} {w' : World} {o : Obj} {blk : Blk} (hm : MemRel c m) (hid : ¬ c.us id) (hg : Grew c.w w' o)
    (hb : BlkRel (c.new id w' c.w.heap.size) id (some blk)) : Nxt c (c.new id w' c.w.heap.size) (m.set id blk) id nx nx' where
  evo := Cx.new_evo _ hm hid hg
  mem := {
    blk := fun b => by
      rw [Mem.get_set]
      by_cases h : b = id
      · subst h; simp only [if_true]; exact hb
      · simp only [h, if_false]
        refine (hm.blk b).evo (Cx.new_evo (fun _ => False) hm hid hg) (by simp [Cx.new, h]) (fun k hk => ⟨?_, fun o ho => ho⟩)
        have hlt := (hm.blk b).lt hk
        show w'.heap[k]? = _
        rw [hg.heap, Array.getElem?_push, if_neg (Nat.ne_of_lt hlt)]
    inj := fun b b' k h1 h2 => by
      simp only [Cx.new] at h1 h2
      by_cases e1 : b = id <;> by_cases e2 : b' = id
      · rw [e1, e2]
      · simp only [e1, if_true, e2, if_false, Option.some.injEq] at h1 h2
        have := (hm.blk b').lt h2
        omega
      · simp only [e1, if_false, e2, if_true, Option.some.injEq] at h1 h2
        have := (hm.blk b).lt h1
        omega
      · simp only [e1, if_false, e2] at h1 h2
        exact hm.inj b b' k h1 h2
    big := fun b h => by
      have h1 : ¬ c.us b := fun e => h (.inl e)
      have h2 : b ≠ id := fun e => h (.inr e)
      simp only [Cx.new, h2, if_false]
      exact hm.big b h1
    imlt := fun k o h => by
      have := hm.imlt k o h
      show k < w'.heap.size
      rw [hg.heap]
      simp
      omega }
  fresh := fun b k h => by
    simp only [Cx.new] at h
    by_cases e : b = id
    · simp only [e, if_true, Option.some.injEq] at h
      exact .inr (by omega)
    · simp only [e, if_false] at h
      exact .inl ⟨b, h⟩
  us := fun b h => by
    rcases h with h | h
    · exact .inl h
    · exact .inr (.inl h)

theorem new_heap {id : Nat} {w' : World} {o : Obj} (hg : Grew c.w w' o) : (c.new id w' c.w.heap.size).w.heap[c.w.heap.size]? = some o := by
  show w'.heap[_]? = _
  rw [hg.heap]; simp
theorem new_ρ {id k : Nat} {w' : World} : (c.new id w' k).ρ id = some (some k) := by simp [Cx.new]
theorem new_im {id : Nat} {w' : World} (hm : MemRel c m) (o : Nat) : ¬ (c.new id w' c.w.heap.size).im c.w.heap.size o := fun h => by
  have := hm.imlt _ _ h
  omega


/-- The context when one block's cells are others. -/
def Cx.put (c : Cx) (k : Nat) (C : Array Value) : Cx := { c with w := c.w.setRow k C }
theorem Cx.put_evo {b k : Nat} {C C' : Array Value} {ty : TypeId} {S : Nat → Prop} (hS : S k) (hk : c.w.heap[k]? = some (.cells C ty (0, 0))) (hs : C'.size = C.size) (him : ∀ o, ¬ c.im k o) :
    Evo S c (c.put k C') where
  os := rfl
  tape := rfl
  output := rfl
  size := by simp [Cx.put]
  keep := fun j D t fr h => by
    by_cases e : j = k
    · subst e
      rw [hk] at h
      obtain ⟨rfl, rfl, rfl⟩ : C = D ∧ ty = t ∧ (0, 0) = fr := by simpa using h
      exact ⟨C', setRow_heap c.w j C C' ty (0, 0) hk, hs⟩
    · exact ⟨D, (setRow_other c.w k j C' e).trans h, rfl⟩
  same := fun j hj hn => setRow_other c.w k j C' (fun e => hn (e ▸ hS))
  imm := fun j o h => by
    have e : j ≠ k := fun e => him o (e ▸ h)
    exact ⟨h, cell_setRow_other c.w k C' _ e⟩
  imold := fun _ _ h _ _ => h
  us := fun _ h => h
  ρ := fun _ _ => .inl rfl

theorem put_nxt {b k id nx nx' : Nat} {C C' : Array Value} {ty : TypeId} {blk : Blk} (hm : MemRel c m) (hb : c.ρ b = some (some k)) (hk : c.w.heap[k]? = some (.cells C ty (0, 0))) (hs : C'.size = C.size)
    (him : ∀ o, ¬ c.im k o) (hblk : BlkRel (c.put k C') b (some blk)) : Nxt c (c.put k C') (m.set b blk) id nx nx' where
  evo := Cx.put_evo (b := b) ⟨b, hb⟩ hk hs him
  mem := {
    blk := fun x => by
      rw [Mem.get_set]
      by_cases h : x = b
      · subst h; simp only [if_true]; exact hblk
      · simp only [h, if_false]
        refine (hm.blk x).evo (Cx.put_evo (b := b) (S := fun _ => True) trivial hk hs him) rfl (fun j hj => ⟨?_, fun o ho => ho⟩)
        exact setRow_other c.w k j C' (fun e => h (hm.inj x b k (e ▸ hj) hb))
    inj := hm.inj
    big := hm.big
    imlt := fun j o h => by simpa [Cx.put] using hm.imlt j o h }
  fresh := fun x j h => .inl ⟨x, h⟩
  us := fun x h => .inl h

/-- The context when a block goes by another number. -/
def Cx.mv (c : Cx) (b id : Nat) : Cx := { c with ρ := fun x => if x = id then c.ρ b else if x = b then none else c.ρ x, us := fun x => c.us x ∨ x = id }
theorem Cx.mv_evo {b id : Nat} {S : Nat → Prop} (hid : ¬ c.us id) : Evo S c (c.mv b id) where
  os := rfl
  tape := rfl
  output := rfl
  size := Nat.le_refl _
  keep := fun _ C _ _ h => ⟨C, h, rfl⟩
  same := fun _ _ _ => rfl
  imm := fun _ _ h => ⟨h, rfl⟩
  imold := fun _ _ h _ _ => h
  us := fun _ h => .inl h
  ρ := fun x hx => by
    have : x ≠ id := fun e => hid (e ▸ hx)
    by_cases e : x = b
    · exact .inr (by simp only [Cx.mv, if_neg this, if_pos e])
    · exact .inl (by simp [Cx.mv, this, e])
theorem mv_nxt {b id nx nx' : Nat} {blk : Blk} (hm : MemRel c m) (hid : ¬ c.us id) (hg : m.get b = some blk) (hb : c.us b) :
    Nxt c (c.mv b id) ((m.del b).set id blk) id nx nx' where
  evo := Cx.mv_evo hid
  mem := {
    blk := fun x => by
      have hne : b ≠ id := fun e => hid (e ▸ hb)
      rw [Mem.get_set, Mem.get_del]
      by_cases h : x = id
      · subst h
        simp only [if_true]
        have h0 := hm.blk b
        rw [hg] at h0
        have hρ : (c.mv b x).ρ x = c.ρ b := by simp [Cx.mv]
        -- the same block, by another number
        cases blk with
        | box ty cells =>
          obtain ⟨k, C, h1, h2, h3, h4, h5⟩ := h0
          exact ⟨k, C, by rw [hρ]; exact h1, h2, h3, fun j hj hj' => (h4 j hj hj').evo (Cx.mv_evo (S := fun _ => True) hid), h5⟩
        | arr ty sz es =>
          rcases h0 with ⟨h1, h2⟩ | ⟨k, C, cap, h1, h2, h3, h4, h5, h6, h7, h8⟩
          · exact .inl ⟨h1, by rw [hρ]; exact h2⟩
          · refine .inr ⟨k, C, cap, by rw [hρ]; exact h1, h2, h3, h4, h5, h6, fun i hi j hj => ?_, h8⟩
            obtain ⟨u, hu1, hu2⟩ := h7 i hi j hj
            exact ⟨u, hu1, hu2.evo (Cx.mv_evo (S := fun _ => True) hid)⟩
        | map kk kvs =>
          obtain ⟨k, es, clock, h1, h2, h3⟩ := h0
          exact ⟨k, es, clock, by rw [hρ]; exact h1, h2, h3⟩
        | loop rf lc j =>
          obtain ⟨k, r, h1, h2, h3, h4, h5⟩ := h0
          exact ⟨k, r, by rw [hρ]; exact h1, h2, h3, fun t => (h4 t).evo (Cx.mv_evo (S := fun _ => True) hid), h5⟩
      · simp only [h, if_false]
        by_cases e : x = b
        · subst e
          simp only [if_true, BlkRel]
          simp [Cx.mv, h]
        · simp only [e, if_false]
          exact (hm.blk x).evo (Cx.mv_evo (S := fun _ => True) hid) (by simp [Cx.mv, h, e]) (fun k _ => ⟨rfl, fun o ho => ho⟩)
    inj := fun x y k h1 h2 => by
      have hbid : ∀ z, (c.mv b id).ρ z = some (some k) → (z = id ∧ c.ρ b = some (some k)) ∨ (z ≠ id ∧ z ≠ b ∧ c.ρ z = some (some k)) := fun z hz => by
        simp only [Cx.mv] at hz
        by_cases e : z = id
        · simp only [e, if_true] at hz; exact .inl ⟨e, hz⟩
        · simp only [e, if_false] at hz
          by_cases e2 : z = b
          · simp [e2] at hz
          · simp only [e2, if_false] at hz; exact .inr ⟨e, e2, hz⟩
      rcases hbid x h1 with ⟨ex, hx⟩ | ⟨ex, ex2, hx⟩ <;> rcases hbid y h2 with ⟨ey, hy⟩ | ⟨ey, ey2, hy⟩
      · rw [ex, ey]
      · exact absurd (hm.inj b y k hx hy).symm ey2
      · exact absurd (hm.inj x b k hx hy) ex2
      · exact hm.inj x y k hx hy
    big := fun x h => by
      have h1 : ¬ c.us x := fun e => h (.inl e)
      have h2 : x ≠ id := fun e => h (.inr e)
      simp only [Cx.mv, h2, if_false]
      by_cases e : x = b
      · simp [e]
      · simp only [e, if_false]; exact hm.big x h1
    imlt := hm.imlt }
  fresh := fun x k h => by
    simp only [Cx.mv] at h
    by_cases e : x = id
    · simp only [e, if_true] at h; exact .inl ⟨b, h⟩
    · simp only [e, if_false] at h
      by_cases e2 : x = b
      · simp [e2] at h
      · simp only [e2, if_false] at h; exact .inl ⟨x, h⟩
  us := fun x h => by
    rcases h with h | h
    · exact .inl h
    · exact .inr (.inl h)

theorem Nxt.trans {c c' c'' : Cx} {m' m'' : Mem} {id nx nx' nx'' : Nat} (h : Nxt c c' m' id nx nx') (h' : Nxt c' c'' m'' id nx nx'') (hle : nx' ≤ nx'') : Nxt c c'' m'' id nx nx'' where
  evo := h.evo.trans (h'.evo.mono fun k ⟨b, hb⟩ => h.fresh b k hb)
  mem := h'.mem
  fresh := fun b k hb => by
    rcases h'.fresh b k hb with ⟨b', hb'⟩ | hk
    · exact h.fresh b' k hb'
    · exact .inr (Nat.le_trans h.evo.size hk)
  us := fun b hb => by
    rcases h'.us b hb with hb | hb | hb
    · rcases h.us b hb with hb | hb | hb
      · exact .inl hb
      · exact .inr (.inl hb)
      · exact .inr (.inr ⟨hb.1, by omega⟩)
    · exact .inr (.inl hb)
    · exact .inr (.inr hb)

/-- A block is let go. -/
def Cx.kill (c : Cx) (b : Nat) : Cx := { c with ρ := fun x => if x = b then none else c.ρ x }
theorem kill_evo {b : Nat} {S : Nat → Prop} : Evo S c (c.kill b) :=
  ⟨rfl, rfl, rfl, Nat.le_refl _, fun _ C _ _ h => ⟨C, h, rfl⟩, fun _ _ _ => rfl, fun _ _ h => ⟨h, rfl⟩, fun _ _ h _ _ => h, fun _ h => h, fun x _ => by
    by_cases e : x = b
    · exact .inr (by simp [Cx.kill, e])
    · exact .inl (by simp [Cx.kill, e])⟩
theorem kill_nxt {b id nx nx' : Nat} (hm : MemRel c m) : Nxt c (c.kill b) (m.del b) id nx nx' where
  evo := kill_evo
  mem := {
    blk := fun x => by
      rw [Mem.get_del]
      by_cases e : x = b
      · simp only [e, if_true, BlkRel]; simp [Cx.kill]
      · simp only [e, if_false]
        exact (hm.blk x).evo (kill_evo (S := fun _ => True)) (by simp [Cx.kill, e]) (fun k _ => ⟨rfl, fun o ho => ho⟩)
    inj := fun x y k h1 h2 => by
      have : ∀ z, (c.kill b).ρ z = some (some k) → c.ρ z = some (some k) := fun z hz => by
        simp only [Cx.kill] at hz
        by_cases e : z = b
        · simp [e] at hz
        · simpa only [e, if_false] using hz
      exact hm.inj x y k (this x h1) (this y h2)
    big := fun x h => by
      simp only [Cx.kill]
      by_cases e : x = b
      · simp [e]
      · simp only [e, if_false]; exact hm.big x h
    imlt := hm.imlt }
  fresh := fun x k h => by
    simp only [Cx.kill] at h
    by_cases e : x = b
    · simp [e] at h
    · simp only [e, if_false] at h; exact .inl ⟨x, h⟩
  us := fun x h => .inl h

end Go.Abs
namespace Go.Abs
variable {P : Program} {T : Tbl} {c : Cx} {m : Mem}

/-- The machine's operation comes to what is told. -/
def Good (P : Program) (o : Oper) (a : Act) (c : Cx) (m' : Mem) (id nx nx' : Nat) (x : V) : Prop :=
  ∀ (ro : Option Nat) (next : Act → World → Prop) (Q : Exit → Act → World → Prop), (∀ v c', Nxt c c' m' id nx nx' → Rel c' x v → next (a.put o.dst v) c'.w) → o.wpIn (FW ro) 0 P a c.w next Q
theorem no_defer {o : Oper} {ρ : Operand → Value} {w w' : World} {r : Next} (h : (execOp ρ o).run P w = .ok r w') (hr : ∀ d, r ≠ .defer d) : ∀ c, o.op ≠ .defer c := fun c ho => by
  simp only [execOp, ho, Sem.run_bind] at h
  cases hq : (resolve ρ c o.type).run P w with
  | ok d w1 =>
    rw [hq] at h
    simp only [Result.andThen_ok, Sem.run_pure, Result.ok.injEq] at h
    exact hr d h.1.symm
  | halt x w1 =>
    rw [hq] at h
    simp [Result.andThen] at h
theorem semAt_of {o : Oper} {ρ : Operand → Value} {w w' : World} {r : Next} (ro : Option Nat) (h : (execOp ρ o).run P w = .ok r w') (hr : ∀ d, r ≠ .defer d) : (o.semAt (FW ro).round ρ).run P w = .ok r w' := by
  rw [Oper.semAt_eq _ _ _ (no_defer h hr)]
  exact h

theorem Good.value {o : Oper} {a : Act} {m' : Mem} {id nx nx' : Nat} {x : V} {v : Value} {c' : Cx} (h : (execOp a.eval o).run P c.w = .ok (.value v) c'.w)
    (hn : Nxt c c' m' id nx nx') (hr : Rel c' x v) : Good P o a c m' id nx nx' x := by
  intro ro next Q hnext
  refine ⟨fun _ _ => trivial, ?_⟩
  rw [semAt_of ro h (fun d e => by cases e)]
  exact hnext v c' hn hr
theorem Good.skip {o : Oper} {a : Act} {m' : Mem} {id nx nx' : Nat} {c' : Cx} (h : (execOp a.eval o).run P c.w = .ok .skip c'.w)
    (hn : Nxt c c' m' id nx nx') : Good P o a c m' id nx nx' (.at undef) := by
  intro ro next Q hnext
  refine ⟨fun _ _ => trivial, ?_⟩
  rw [semAt_of ro h (fun d e => by cases e)]
  exact hnext undef c' hn (.at _)

theorem run_newVar (elem : TypeId) (v : Value) (w : World) : (newVar elem v).run P w = .ok ⟨w.heap.size, 0, none⟩ (w.alloc (.cells v.cells elem)) := by
  simp [newVar, newRow]

theorem box_good {o : Oper} {a : Act} {id nx nx' : Nat} {t : TypeId} {X : Operand} {Y : V} {cs : List V} (hm : MemRel c m) (hid : ¬ c.us id) (ho : o.op = .box t X)
    (hx : Rel c Y (a.eval X)) (hc : Y.cells = some cs) : Good P o a c (m.set id (.box t cs)) id nx nx' (.bptr id 0) := by
  obtain ⟨h1, h2, h3⟩ := hx.cells hc
  have hg := Grew.alloc c.w (.cells (a.eval X).cells t)
  have hevo := Cx.new_evo (fun _ => False) hm hid hg
  refine Good.value (v := .pointer (some ⟨c.w.heap.size, 0, none⟩)) (c' := c.new id _ c.w.heap.size) ?_ (new_nxt hm hid hg ?_) (.bptr id 0 _ (.inr rfl) (by unfold PtrOk; rw [new_ρ]))
  · simp [execOp, ho, Instr.box, run_newVar]; rfl
  · exact ⟨c.w.heap.size, (a.eval X).cells, new_ρ, new_heap hg, h1, fun j hj hj' => (h2 j hj hj').evo hevo, new_im hm⟩

theorem alloc_good {o : Oper} {a : Act} {id nx nx' : Nat} {t : TypeId} {ti : TI} (hT : TblOk P T) (hm : MemRel c m) (hid : ¬ c.us id) (ho : o.op = .alloc t)
    (ht : T.get t = some ti) : Good P o a c (m.set id (.box t (ti.zero.map .at))) id nx nx' (.bptr id 0) := by
  obtain ⟨⟨i, hi, hs, hb, z, hz, hzc⟩, hlen, hone, hk⟩ := hT t _ ht
  have hg := Grew.alloc c.w (.cells z.cells t)
  have hevo := Cx.new_evo (fun _ => False) hm hid hg
  refine Good.value (v := .pointer (some ⟨c.w.heap.size, 0, none⟩)) (c' := c.new id _ c.w.heap.size) ?_ (new_nxt hm hid hg ?_) (.bptr id 0 _ (.inr rfl) (by unfold PtrOk; rw [new_ρ]))
  · simp [execOp, ho, Instr.alloc, zeroValue, typeInfo, hi, hz, run_newVar]; rfl
  · refine ⟨c.w.heap.size, z.cells, new_ρ, new_heap hg, ?_, fun j hj hj' => ?_, new_im hm⟩
    · rw [← hzc]; simp
    · have : (ti.zero.map V.at)[j] = .at (z.cells[j]) := by simp [← hzc]
      rw [this]
      exact .at _

theorem mkmap_good {o : Oper} {a : Act} {id nx nx' : Nat} {t : TypeId} (kk : IntKind) (hm : MemRel c m) (hid : ¬ c.us id) (ho : o.op = .makeMap t none) :
    Good P o a c (m.set id (.map kk [])) id nx nx' (.mp id) := by
  have hg := Grew.alloc c.w (.map #[] 0)
  refine Good.value (v := .map (some c.w.heap.size)) (c' := c.new id _ c.w.heap.size) ?_ (new_nxt hm hid hg ?_) (.mp id _ (.inr rfl) (by unfold MapOk; rw [new_ρ]))
  · simp [execOp, ho, Instr.makeMap]; rfl
  · exact ⟨c.w.heap.size, #[], 0, new_ρ, new_heap hg, rfl, new_im hm⟩

theorem pure_good {o : Oper} {a : Act} {id nx nx' : Nat} (hT : TblOk P T) (hm : MemRel c m) {ev : Operand → V} (hev : ∀ x, Rel c (ev x) (a.eval x)) {x : V} {rd : List Nat} {p : Prop}
    (h : pureP Ar.std T ev m o.op = some (x, rd, p)) (hp : p) : Good P o a c m id nx nx' x := by
  obtain ⟨v, h1, h2⟩ := pure_sound hT hm hev h hp
  exact Good.value h1 (Nxt.refl hm) h2

theorem elem_eq {t e : TypeId} (hu : P.underlying t = some (.slice e)) : P.elem t = e := by
  simp [Program.elem, hu]

theorem idxRow_good {o : Oper} {a : Act} {id nx nx' : Nat} {t e : TypeId} {te : TI} {X I : Operand} {sz : Nat} {es : List (List V)} {k : IntKind} {z : Int} {el : List V} (hT : TblOk P T) (hm : MemRel c m)
    (ho : o.op = .indexAddr t X I) (hX : Rel c (.row sz es) (a.eval X)) (hI : a.eval I = .int k z) (ht : (T.get t).map TI.k = some (.slice e)) (hte : T.get e = some te) (hsz : te.size = sz)
    (h0 : 0 ≤ z) (hel : es[z.toNat]? = some el) : Good P o a c m id nx nx' (.eptr el 0) := by
  obtain ⟨ti, hti, hk⟩ := Option.map_eq_some_iff.1 ht
  have hu := (hT t ti hti).k
  rw [hk] at hu
  simp only [TkOk] at hu
  obtain ⟨⟨i, hi, hs, _⟩, _⟩ := hT e te hte
  have hs2 : (sizeOf e).run P c.w = .ok sz c.w := by simp [sizeOf, typeInfo, hi, hs, hsz]
  obtain ⟨hlt, rfl⟩ := List.getElem?_eq_some_iff.1 hel
  generalize hv : a.eval X = vx at hX
  cases hX with
  | row _ _ A cap kk oo us h00 h1 h2 h3 h4 =>
    obtain rfl := h1 (by omega)
    have hz : z < (es.length : Int) := by omega
    refine Good.value (v := .pointer (some ⟨kk, oo + z.toNat * sz, none⟩)) (c' := c) ?_ (Nxt.refl hm) ?_
    · simp [execOp, ho, Instr.indexAt, hv, hI, asIntOf, run_underlying hu, h0, hz, hs2, Addr.add_plain]
    · have := Rel.eptr (c := c) es[z.toNat] 0 kk (oo + z.toNat * sz) (us z.toNat) (fun j hj => h3 _ hlt j hj) (fun j hj => h4 _ hlt j hj)
      exact this

theorem MslOk.live {sz b off n : Nat} {v : Value} {ty : TypeId} {es : List (List V)} (hm : MemRel c m) (hb : m.get b = some (.arr ty sz es)) (h : MslOk c sz b off n v) :
    (n = 0 ∧ off = 0 ∧ es = [] ∧ c.ρ b = some none ∧ ∃ a, v = .slice a 0 0) ∨
    ∃ k C cap vc a, c.ρ b = some (some k) ∧ c.w.heap[k]? = some (.cells C ty (0, 0)) ∧ C.size = cap * sz ∧ cap ≤ maxLen ∧ es.length ≤ cap ∧
      (∀ i (h : i < es.length), es[i].length = sz) ∧ (∀ i (h : i < es.length) j (h' : j < es[i].length), ∃ u, C[i * sz + j]? = some u ∧ Rel c es[i][j] u) ∧ (∀ o, ¬ c.im k o) ∧
      n ≤ vc ∧ (off + vc) * sz = C.size ∧ v = .slice (some a) n vc ∧ (a = ⟨k, off * sz, none⟩ ∨ vc = 0) := by
  have hblk := hm.blk b
  rw [hb] at hblk
  unfold MslOk at h
  rcases hblk with ⟨h1, h2⟩ | ⟨k, C, cap, h1, h2, h3, h4, h5, h6, h7, h8⟩
  · rw [h2] at h
    obtain ⟨rfl, rfl, a, rfl⟩ := h
    exact .inl ⟨rfl, rfl, h1, h2, a, rfl⟩
  · rw [h1] at h
    obtain ⟨vc, C', ty', g1, g2, g3, a, g4, g5⟩ := h
    rw [h2] at g1
    obtain ⟨rfl, rfl⟩ : C = C' ∧ ty = ty' := by simpa using g1
    exact .inr ⟨k, C, cap, vc, a, h1, h2, h3, h4, h5, h6, h7, h8, g2, g3, g4, g5⟩

theorem idxMsl_good {o : Oper} {a : Act} {id nx nx' : Nat} {t e ty : TypeId} {te : TI} {X I : Operand} {sz b off n : Nat} {es : List (List V)} {k : IntKind} {z : Int} (hT : TblOk P T) (hm : MemRel c m)
    (ho : o.op = .indexAddr t X I) (hX : Rel c (.msl sz b off n) (a.eval X)) (hb : m.get b = some (.arr ty sz es)) (hI : a.eval I = .int k z) (ht : (T.get t).map TI.k = some (.slice e)) (hte : T.get e = some te) (hsz : te.size = sz)
    (h0 : 0 ≤ z) (hn : z < n) : Good P o a c m id nx nx' (.aptr sz b (off + z.toNat) 0) := by
  obtain ⟨ti, hti, hk⟩ := Option.map_eq_some_iff.1 ht
  have hu := (hT t ti hti).k
  rw [hk] at hu
  simp only [TkOk] at hu
  obtain ⟨⟨i, hi, hs, _⟩, _⟩ := hT e te hte
  have hs2 : (sizeOf e).run P c.w = .ok sz c.w := by simp [sizeOf, typeInfo, hi, hs, hsz]
  generalize hv : a.eval X = vx at hX
  cases hX with
  | msl _ _ _ _ _ hus hok =>
    rcases hok.live hm hb with ⟨rfl, _⟩ | ⟨kk, C, cap, vc, aa, g1, g2, g3, g4, g5, g6, g7, g8, g9, g10, rfl, g11⟩
    · omega
    · rcases g11 with rfl | rfl
      · refine Good.value (v := .pointer (some ⟨kk, off * sz + z.toNat * sz, none⟩)) (c' := c) ?_ (Nxt.refl hm) (.aptr _ _ _ _ _ hus ?_)
        · simp [execOp, ho, Instr.indexAt, hv, hI, asIntOf, run_underlying hu, h0, hn, hs2, Addr.add_plain]
        · unfold PtrOk; rw [g1, Nat.add_mul]; rfl
      · omega

theorem ldArr_good {o : Oper} {a : Act} {id nx nx' : Nat} {t ty : TypeId} {ti : TI} {X : Operand} {sz b i off : Nat} {es : List (List V)} {el : List V} {x : V} (hT : TblOk P T) (hm : MemRel c m)
    (ho : o.op = .load t X) (hX : Rel c (.aptr sz b i off) (a.eval X)) (hb : m.get b = some (.arr ty sz es)) (ht : T.get t = some ti) (hel : es[i]? = some el) (hx : ldC ti.k.ag ti.size off el = some x) :
    Good P o a c m id nx nx' x := by
  obtain ⟨hlt, rfl⟩ := List.getElem?_eq_some_iff.1 hel
  generalize hv : a.eval X = vx at hX
  cases hX with
  | aptr _ _ _ _ _ hus hok =>
    obtain ⟨k, hk, rfl⟩ := hok.arr hm hb
    have hblk := hm.blk b
    rw [hb] at hblk
    rcases hblk with ⟨h1, h2⟩ | ⟨k', C, cap, h1, h2, h3, h4, h5, h6, h7, h8⟩
    · rw [h2] at hk; simp at hk
    · rw [hk] at h1
      obtain rfl : k = k' := by simpa using h1
      have hcell : ∀ j (hj : j < es[i].length), c.w.cell? ⟨k, i * sz + j, none⟩ = some (C.getD (i * sz + j) undef) := fun j hj => by
        obtain ⟨u, hu, _⟩ := h7 i hlt j hj
        simp only [World.cell?, h2]
        simp [Array.getD_eq_getD_getElem?, hu]
      obtain ⟨v, hv', hr⟩ := loadVar_sound hT ht (w := c.w) (k := k) (o := i * sz) (us := fun j => C.getD (i * sz + j) undef) hcell (fun j hj => by
        obtain ⟨u, hu, hr⟩ := h7 i hlt j hj
        simpa [Array.getD_eq_getD_getElem?, hu] using hr) hx
      exact Good.value (v := v) (c' := c) (by simp [execOp, ho, hv, Instr.loadAt, Instr.sureAddr, hv']) (Nxt.refl hm) hr


theorem up_get {α : Type} (e xs : List α) (off : Nat) (h : off + xs.length ≤ e.length) (j : Nat) :
    (e.take off ++ xs ++ e.drop (off + xs.length))[j]? = if off ≤ j ∧ j < off + xs.length then xs[j - off]? else e[j]? := by
  by_cases h1 : j < off
  · rw [if_neg (by omega), List.append_assoc, List.getElem?_append_left (by simp; omega), List.getElem?_take_of_lt h1]
  · by_cases h2 : j < off + xs.length
    · rw [if_pos (by omega), List.append_assoc, List.getElem?_append_right (by simp; omega), List.getElem?_append_left (by simp; omega)]
      congr 1
      simp; omega
    · rw [if_neg (by omega), List.getElem?_append_right (by simp; omega), List.getElem?_drop]
      congr 1
      simp; omega

theorem up_rel {cells xs : List V} {C : Array Value} {vs : List Value} {off o : Nat} {cells' : List V} (hup : upC cells off xs = some cells')
    (hr : ∀ j (h : j < cells.length), ∃ u, C[o + j]? = some u ∧ Rel c cells[j] u) (hx : xs.length = vs.length) (hv : ∀ j (h : j < xs.length) (h' : j < vs.length), Rel c xs[j] vs[j]) :
    cells'.length = cells.length ∧ ∀ j (h : j < cells'.length), ∃ u, (C.toList.take (o + off) ++ vs ++ C.toList.drop (o + off + vs.length))[o + j]? = some u ∧ Rel c cells'[j] u := by
  unfold upC at hup
  split at hup
  case isFalse => simp at hup
  rename_i hle
  obtain rfl := Option.some.inj hup
  have hlen : (cells.take off ++ xs ++ cells.drop (off + xs.length)).length = cells.length := by simp; omega
  refine ⟨hlen, fun j hj => ?_⟩
  have hj' : j < cells.length := by omega
  have hcj : ∀ j, j < cells.length → o + j < C.size := fun j hj => by
    obtain ⟨u, hu, _⟩ := hr j hj
    exact (Array.getElem?_eq_some_iff.1 hu).1
  have hCle : o + off + vs.length ≤ C.toList.length := by
    rcases Nat.eq_zero_or_pos cells.length with h0 | h0
    · omega
    · have := hcj (cells.length - 1) (by omega)
      simp; omega
  rw [up_get C.toList vs (o + off) hCle]
  have e1 : (cells.take off ++ xs ++ cells.drop (off + xs.length))[j]? = some (cells.take off ++ xs ++ cells.drop (off + xs.length))[j] := List.getElem?_eq_getElem hj
  rw [up_get cells xs off hle] at e1
  by_cases hc : off ≤ j ∧ j < off + xs.length
  · rw [if_pos hc] at e1
    rw [if_pos (by omega)]
    have h1 : j - off < vs.length := by omega
    have h2 : o + j - (o + off) = j - off := by omega
    rw [h2, List.getElem?_eq_getElem h1]
    refine ⟨_, rfl, ?_⟩
    rw [List.getElem?_eq_getElem (show j - off < xs.length by omega)] at e1
    rw [← Option.some.inj e1]
    exact hv (j - off) (by omega) h1
  · rw [if_neg hc] at e1
    rw [if_neg (by omega)]
    obtain ⟨u, hu, hur⟩ := hr j hj'
    rw [List.getElem?_eq_getElem hj'] at e1
    rw [← Option.some.inj e1]
    exact ⟨u, by simpa using hu, hur⟩

theorem store_run {t : TypeId} {ti : TI} (hT : TblOk P T) (ht : T.get t = some ti) {w : World} {k o : Nat} {v : Value} {C : Array Value} {ty : TypeId} (hk : w.heap[k]? = some (.cells C ty (0, 0)))
    (hs : v.cells.size = ti.size) (hle : o + v.cells.size ≤ C.size) (hone : ∀ u ∈ v.cells.toList, u.oneCell' = true) :
    (Instr.storeAt t (.pointer (some ⟨k, o, none⟩)) v).run P w = .ok () (w.setRow k (C.toList.take o ++ v.cells.toList ++ C.toList.drop (o + v.cells.toList.length)).toArray) := by
  obtain ⟨⟨i, hi, hs', _⟩, _⟩ := hT t _ ht
  have hsz : (sizeOf t).run P w = .ok ti.size w := by simp [sizeOf, typeInfo, hi, hs']
  have := run_storeCells_at P k o ty v.cells.toList 0 C w hk (by simpa using hle) hone
  simp only [Nat.add_zero] at this
  simp only [Instr.storeAt, Instr.sureAddr, storeVar, Sem.run_bind, Sem.run_pure, Result.andThen_ok, hsz, hs, ne_eq, not_true_eq_false, if_false]
  exact this

theorem stBox_good {o : Oper} {a : Act} {id nx nx' : Nat} {t ty : TypeId} {ti : TI} {A X : Operand} {b off : Nat} {cells cells' xs : List V} {Y : V} (hT : TblOk P T) (hm : MemRel c m)
    (ho : o.op = .store t A X) (hA : Rel c (.bptr b off) (a.eval A)) (hX : Rel c Y (a.eval X)) (hb : m.get b = some (.box ty cells)) (hc : Y.cells = some xs) (ht : T.get t = some ti)
    (hsz : ti.size = xs.length) (hup : upC cells off xs = some cells') : Good P o a c (m.set b (.box ty cells')) id nx nx' (.at undef) := by
  obtain ⟨h1, h2, h3⟩ := hX.cells hc
  have hblk := hm.blk b
  rw [hb] at hblk
  obtain ⟨k, C, g1, g2, g3, g4, g5⟩ := hblk
  generalize hv : a.eval A = vx at hA
  cases hA with
  | bptr _ _ _ hus hok =>
    obtain rfl := hok.real g1
    have hle : off + xs.length ≤ cells.length := by
      unfold upC at hup
      split at hup
      · assumption
      · simp at hup
    have hrun := store_run hT ht (w := c.w) (k := k) (o := off) (v := a.eval X) g2 (by omega) (by omega) h3
    obtain ⟨hl, hrel⟩ := up_rel (c := c) (C := C) (vs := (a.eval X).cells.toList) (o := 0) hup (fun j hj => ⟨C[j]'(by omega), by rw [Nat.zero_add]; exact Array.getElem?_eq_getElem (by omega), g4 j hj (by omega)⟩) (by simpa using h1) (fun j hj hj' => by simpa using h2 j hj (by simpa using hj'))
    simp only [Nat.zero_add] at hrel
    have hsize : (C.toList.take off ++ (a.eval X).cells.toList ++ C.toList.drop (off + (a.eval X).cells.toList.length)).toArray.size = C.size := by simp; omega
    have hevo := Cx.put_evo (c := c) (b := b) (S := fun _ => True) trivial g2 hsize g5
    refine Good.skip (c' := c.put k _) ?_ (put_nxt hm g1 g2 hsize g5 ?_)
    · simp only [execOp, ho, hv, Sem.run_bind, hrun, Result.andThen_ok, Sem.run_pure]; rfl
    · refine ⟨k, _, g1, setRow_heap c.w k C _ ty (0, 0) g2, by rw [hsize]; omega, fun j hj hj' => ?_, g5⟩
      obtain ⟨u, hu, hur⟩ := hrel j hj
      rw [← List.getElem?_toArray, Array.getElem?_eq_getElem hj'] at hu
      obtain rfl := Option.some.inj hu
      exact hur.evo hevo

theorem stArr_good {o : Oper} {a : Act} {id nx nx' : Nat} {t ty : TypeId} {ti : TI} {A X : Operand} {sz b i off : Nat} {es : List (List V)} {el el' xs : List V} {Y : V} (hT : TblOk P T) (hm : MemRel c m)
    (ho : o.op = .store t A X) (hA : Rel c (.aptr sz b i off) (a.eval A)) (hX : Rel c Y (a.eval X)) (hb : m.get b = some (.arr ty sz es)) (hc : Y.cells = some xs) (ht : T.get t = some ti)
    (hsz : ti.size = xs.length) (hel : es[i]? = some el) (hup : upC el off xs = some el') : Good P o a c (m.set b (.arr ty sz (es.set i el'))) id nx nx' (.at undef) := by
  obtain ⟨h1, h2, h3⟩ := hX.cells hc
  obtain ⟨hlt, rfl⟩ := List.getElem?_eq_some_iff.1 hel
  generalize hv : a.eval A = vx at hA
  cases hA with
  | aptr _ _ _ _ _ hus hok =>
    obtain ⟨k, hk, rfl⟩ := hok.arr hm hb
    have hblk := hm.blk b
    rw [hb] at hblk
    rcases hblk with ⟨_, g2⟩ | ⟨k', C, cap, g1, g2, g3, g4, g5, g6, g7, g8⟩
    · rw [g2] at hk; simp at hk
    · rw [hk] at g1
      obtain rfl : k = k' := by simpa using g1
      have hil : es[i].length = sz := g6 i hlt
      have hle : off + xs.length ≤ es[i].length := by
        unfold upC at hup
        split at hup
        · assumption
        · simp at hup
      have hin : i * sz + sz ≤ C.size := by
        rw [g3]
        have : (i + 1) * sz ≤ cap * sz := Nat.mul_le_mul_right _ (by omega)
        rwa [Nat.add_mul, Nat.one_mul] at this
      have hrun := store_run hT ht (w := c.w) (k := k) (o := i * sz + off) (v := a.eval X) g2 (by omega) (by omega) h3
      obtain ⟨hl, hrel⟩ := up_rel (c := c) (C := C) (vs := (a.eval X).cells.toList) (o := i * sz) hup (fun j hj => g7 i hlt j hj) (by simpa using h1) (fun j hj hj' => by simpa using h2 j hj (by simpa using hj'))
      have hsize : (C.toList.take (i * sz + off) ++ (a.eval X).cells.toList ++ C.toList.drop (i * sz + off + (a.eval X).cells.toList.length)).toArray.size = C.size := by simp; omega
      have hevo := Cx.put_evo (c := c) (b := b) (S := fun _ => True) trivial g2 hsize g8
      refine Good.skip (c' := c.put k _) ?_ (put_nxt hm hk g2 hsize g8 ?_)
      · simp only [execOp, ho, hv, Sem.run_bind, hrun, Result.andThen_ok, Sem.run_pure]; rfl
      · refine .inr ⟨k, _, cap, hk, setRow_heap c.w k C _ ty (0, 0) g2, by rw [hsize, g3], g4, by simpa using g5, fun j hj => ?_, fun j hj q hq => ?_, g8⟩
        · rw [List.getElem_set]
          split
          · omega
          · exact g6 j (by simpa using hj)
        · simp only [List.length_set] at hj
          by_cases e : i = j
          · subst e
            simp only [List.getElem_set_self] at hq ⊢
            obtain ⟨u, hu, hur⟩ := hrel q hq
            exact ⟨u, by simpa using hu, hur.evo hevo⟩
          · simp only [List.getElem_set, e, if_false] at hq ⊢
            obtain ⟨u, hu, hur⟩ := g7 j hj q hq
            refine ⟨u, ?_, hur.evo hevo⟩
            rw [List.getElem?_toArray, up_get C.toList _ _ (by simp; omega)]
            have hq' : q < sz := by rw [g6 j hj] at hq; exact hq
            have hne : ¬ (i * sz + off ≤ j * sz + q ∧ j * sz + q < i * sz + off + (a.eval X).cells.toList.length) := by
              simp only [Array.length_toList]
              intro ⟨q1, q2⟩
              rcases Nat.lt_or_gt_of_ne e with h | h
              · have : (i + 1) * sz ≤ j * sz := Nat.mul_le_mul_right _ h
                rw [Nat.add_mul] at this
                omega
              · have : (j + 1) * sz ≤ i * sz := Nat.mul_le_mul_right _ h
                rw [Nat.add_mul] at this
                omega
            rw [if_neg hne]
            simpa using hu

end Go.Abs
