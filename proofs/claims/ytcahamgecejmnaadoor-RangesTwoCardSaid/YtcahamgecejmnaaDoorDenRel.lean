/-
  How the functional reading's values lie in the machine's memory, and that they stay as memory goes on. Its conditions: none.
-/
import Derived.Test.YtcahamgecejmnaaDoorDen
namespace Go.Den
open Go

/-- One cell's value. -/
def one (v : Value) : Prop := v.oneCell' = true

/-- A value that leads to no block of the call's own, as it lies in memory; N: the blocks that may yet turn. -/
inductive VD (N : Nat → Prop) (w : World) : AV → Value → Prop
  | bool (b : Bool) : VD N w (.bool b) (.bool b)
  | int (k : IntKind) (n : Int) : VD N w (.int k n) (.int k n)
  | str (s : List UInt8) : VD N w (.str s) (.string ⟨s.toArray⟩)
  | nilp : VD N w .nilp (.pointer none)
  | nilfn : VD N w .nilfn .nilFunc
  | nilmap : VD N w .nilmap (.map none)
  | nilif : VD N w .nilif .nilIface
  | zs (nl : Bool) (a : Option Addr) (h : nl = true → a = none) : VD N w (.zs nl) (.slice a 0 0)
  | sl0 (a : Option Addr) (c : Nat) (h : a = none → c = 0) : VD N w (.sl []) (.slice a 0 c)
  | junk (v : Value) : VD N w .junk v
  | agg (cs : List AV) (vs : List Value) (hl : cs.length = vs.length) (h1 : ∀ v ∈ vs, one v)
      (h : ∀ (i : Nat) (c : AV) (v : Value), cs[i]? = some c → vs[i]? = some v → VD N w c v) : VD N w (.agg cs) (.agg vs.toArray)
  | tup (cs : List AV) (vs : List Value) (hl : cs.length = vs.length)
      (h : ∀ (i : Nat) (c : AV) (v : Value), cs[i]? = some c → vs[i]? = some v → VD N w c v) : VD N w (.tup cs) (.tuple vs.toArray)
  | fn (f : Nat) (cs : List AV) (vs : List Value) (hl : cs.length = vs.length)
      (h : ∀ (i : Nat) (c : AV) (v : Value), cs[i]? = some c → vs[i]? = some v → VD N w c v) : VD N w (.fn f cs) (.func (.func f) #[] vs.toArray)
  | iface (t : Nat) (x : AV) (v : Value) (h : VD N w x v) : VD N w (.iface t x) (.iface t v)
  | sl (sz : Nat) (l : List AV) (b o cap : Nat) (vf : Nat → Nat → Value) (hc : l.length ≤ cap) (hsz : ∀ e ∈ l, e.cells.length = sz)
      (hw : ∀ (i : Nat) (e : AV) (j : Nat) (c : AV), l[i]? = some e → e.cells[j]? = some c → ¬ N b ∧ w.cell? ⟨b, o + i * sz + j, none⟩ = some (vf i j) ∧ one (vf i j))
      (h : ∀ (i : Nat) (e : AV) (j : Nat) (c : AV), l[i]? = some e → e.cells[j]? = some c → VD N w c (vf i j)) : VD N w (.sl l) (.slice (some ⟨b, o, none⟩) l.length cap)
  | rp (e : AV) (j : Nat) (b o : Nat) (vf : Nat → Value)
      (hw : ∀ (i : Nat) (c : AV), e.cells[i]? = some c → ¬ N b ∧ w.cell? ⟨b, o + i, none⟩ = some (vf i) ∧ one (vf i))
      (h : ∀ (i : Nat) (c : AV), e.cells[i]? = some c → VD N w c (vf i)) : VD N w (.rp e j) (.pointer (some ⟨b, o + j, none⟩))

theorem cell_of {w w' : World} {b o : Nat} (h : w'.heap[b]? = w.heap[b]?) : w'.cell? ⟨b, o, none⟩ = w.cell? ⟨b, o, none⟩ := World.cell?_of_block (w := w) (a := ⟨b, o, none⟩) h

theorem lt_of_cell {w : World} {b o : Nat} {v : Value} (h : w.cell? ⟨b, o, none⟩ = some v) : b < w.heap.size := World.block_lt_of_cell? w (a := ⟨b, o, none⟩) h

/-- From one world to a later one: what may yet turn has not grown among the blocks that there were, and the others are as they were. -/
def Later (N : Nat → Prop) (w : World) (N' : Nat → Prop) (w' : World) : Prop := ∀ b, b < w.heap.size → ¬ N b → ¬ N' b ∧ w'.heap[b]? = w.heap[b]?

theorem VD.mono {N N' : Nat → Prop} {w w' : World} (hA : Later N w N' w') {x : AV} {v : Value} (h : VD N w x v) : VD N' w' x v := by
  induction h with
  | bool b => exact .bool b
  | int k n => exact .int k n
  | str s => exact .str s
  | nilp => exact .nilp
  | nilfn => exact .nilfn
  | nilmap => exact .nilmap
  | nilif => exact .nilif
  | zs nl a h => exact .zs nl a h
  | sl0 a c h => exact .sl0 a c h
  | junk v => exact .junk v
  | agg cs vs hl h1 _ ih => exact .agg cs vs hl h1 ih
  | tup cs vs hl _ ih => exact .tup cs vs hl ih
  | fn f cs vs hl _ ih => exact .fn f cs vs hl ih
  | iface t x v _ ih => exact .iface t x v ih
  | sl sz l b o cap vf hc hsz hw _ ih =>
    refine .sl sz l b o cap vf hc hsz (fun i e j c h1 h2 => ?_) ih
    obtain ⟨hn, hcell, ho⟩ := hw i e j c h1 h2
    obtain ⟨hn', hb⟩ := hA b (lt_of_cell hcell) hn
    exact ⟨hn', (cell_of hb).trans hcell, ho⟩
  | rp e j b o vf hw _ ih =>
    refine .rp e j b o vf (fun i c h1 => ?_) ih
    obtain ⟨hn, hcell, ho⟩ := hw i c h1
    obtain ⟨hn', hb⟩ := hA b (lt_of_cell hcell) hn
    exact ⟨hn', (cell_of hb).trans hcell, ho⟩

/-- Where the call's own blocks lie: block, cells. -/
abbrev Pos := Key → Nat × Nat

def isOwn (ι : Pos) (H : Heap) (b : Nat) : Prop := ∃ k bl, (H k).2 = some bl ∧ bl.frz = false ∧ (ι k).1 = b
def bad (F : Nat → Prop) (ι : Pos) (H : Heap) (b : Nat) : Prop := F b ∨ isOwn ι H b

inductive Rel (N : Nat → Prop) (ι : Pos) (H : Heap) (w : World) : AV → Value → Prop
  | still (x : AV) (v : Value) (h : VD N w x v) : Rel N ι H w x v
  | agg (cs : List AV) (vs : List Value) (hl : cs.length = vs.length) (h1 : ∀ v ∈ vs, one v)
      (h : ∀ (i : Nat) (c : AV) (v : Value), cs[i]? = some c → vs[i]? = some v → Rel N ι H w c v) : Rel N ι H w (.agg cs) (.agg vs.toArray)
  | tup (cs : List AV) (vs : List Value) (hl : cs.length = vs.length)
      (h : ∀ (i : Nat) (c : AV) (v : Value), cs[i]? = some c → vs[i]? = some v → Rel N ι H w c v) : Rel N ι H w (.tup cs) (.tuple vs.toArray)
  | fn (f : Nat) (cs : List AV) (vs : List Value) (hl : cs.length = vs.length)
      (h : ∀ (i : Nat) (c : AV) (v : Value), cs[i]? = some c → vs[i]? = some v → Rel N ι H w c v) : Rel N ι H w (.fn f cs) (.func (.func f) #[] vs.toArray)
  | iface (t : Nat) (x : AV) (v : Value) (h : Rel N ι H w x v) : Rel N ι H w (.iface t x) (.iface t v)
  | own (k : Key) (ver off len c : Nat) (b : Blk) (hb : H.live k ver = some b) (h0 : b.sz ≠ 0) (h1 : off + len ≤ b.es.length) (h2 : len ≤ c) (h4 : b.es.length ≤ off + c)
      (h3 : (off + c) * b.sz ≤ (ι k).2) : Rel N ι H w (.own k ver off len) (.slice (some ⟨(ι k).1, off * b.sz, none⟩) len c)
  | ownDead (k : Key) (ver off len b o c : Nat) (h : ver ≤ (H k).1) (h' : H.live k ver = none) :
      Rel N ι H w (.own k ver off len) (.slice (some ⟨b, o, none⟩) len c)
  | ptr (k : Key) (ver i j : Nat) (b : Blk) (e : AV) (hb : H.live k ver = some b) (h0 : b.sz ≠ 0) (he : b.es[i]? = some e) :
      Rel N ι H w (.ptr k ver i j) (.pointer (some ⟨(ι k).1, i * b.sz + j, none⟩))
  | ptrDead (k : Key) (ver i j b o : Nat) (h : ver ≤ (H k).1) (h' : H.live k ver = none) :
      Rel N ι H w (.ptr k ver i j) (.pointer (some ⟨b, o, none⟩))
  | iter (k : Key) (ver i j : Nat) (b : Blk) (hb : H.live k ver = some b) (h0 : b.sz = 0) (hi : b.es.length ≤ i) :
      Rel N ι H w (.ptr k ver i j) (.pointer (some ⟨(ι k).1, j, none⟩))
  | map (k : Key) (ver : Nat) (b : Blk) (hb : H.live k ver = some b) (h0 : b.sz = 0) : Rel N ι H w (.map k ver) (.map (some (ι k).1))
  | mapDead (k : Key) (ver m : Nat) (h : ver ≤ (H k).1) (h' : H.live k ver = none) : Rel N ι H w (.map k ver) (.map (some m))
  | junk (v : Value) : Rel N ι H w .junk v

/-- What a step may do: to the call's own blocks as it likes, new ones, and nothing else. -/
structure Adv (ι : Pos) (H : Heap) (w : World) (ι' : Pos) (H' : Heap) (w' : World) : Prop where
  os : w'.os = w.os
  tape : w'.tape = w.tape
  output : w'.output = w.output
  size : w.heap.size ≤ w'.heap.size
  keep : ∀ b, b < w.heap.size → ¬ isOwn ι H b → w'.heap[b]? = w.heap[b]?
  new : ∀ k bl, (H' k).2 = some bl → bl.frz = false → isOwn ι H (ι' k).1 ∨ w.heap.size ≤ (ι' k).1
  ver : ∀ k, (H k).1 ≤ (H' k).1
  same : ∀ k b', (H' k).1 = (H k).1 → (H' k).2 = some b' → ∃ b, (H k).2 = some b ∧ ι' k = ι k ∧ b'.sz = b.sz ∧ b'.es.length = b.es.length

theorem Adv.refl (ι : Pos) (H : Heap) (w : World) : Adv ι H w ι H w :=
  ⟨rfl, rfl, rfl, Nat.le_refl _, fun _ _ _ => rfl, fun k bl h1 h2 => .inl ⟨k, bl, h1, h2, rfl⟩, fun _ => Nat.le_refl _, fun _ b' _ h => ⟨b', h, rfl, rfl, rfl⟩⟩

theorem Adv.own_back {ι : Pos} {H : Heap} {w : World} {ι' : Pos} {H' : Heap} {w' : World} (h : Adv ι H w ι' H' w') {b : Nat} (hb : b < w.heap.size) (hn : ¬ isOwn ι H b) : ¬ isOwn ι' H' b := by
  rintro ⟨k, bl, hk, hf, rfl⟩
  rcases h.new k bl hk hf with h1 | h1
  · exact hn h1
  · omega

theorem Adv.trans {ι : Pos} {H : Heap} {w : World} {ι1 : Pos} {H1 : Heap} {w1 : World} {ι2 : Pos} {H2 : Heap} {w2 : World} (h : Adv ι H w ι1 H1 w1) (g : Adv ι1 H1 w1 ι2 H2 w2) : Adv ι H w ι2 H2 w2 where
  os := g.os.trans h.os
  tape := g.tape.trans h.tape
  output := g.output.trans h.output
  size := Nat.le_trans h.size g.size
  keep b hb hn := (g.keep b (Nat.lt_of_lt_of_le hb h.size) (h.own_back hb hn)).trans (h.keep b hb hn)
  new k bl hk hf := by
    rcases g.new k bl hk hf with ⟨k1, b1, hk1, hf1, e⟩ | h1
    · rw [← e]; exact h.new k1 b1 hk1 hf1
    · exact .inr (Nat.le_trans h.size h1)
  ver k := Nat.le_trans (h.ver k) (g.ver k)
  same k b' e hb := by
    have h1 := h.ver k
    have h2 := g.ver k
    obtain ⟨b1, hb1, i1, s1, l1⟩ := g.same k b' (by omega) hb
    obtain ⟨b0, hb0, i0, s0, l0⟩ := h.same k b1 (by omega) hb1
    exact ⟨b0, hb0, i1.trans i0, s1.trans s0, l1.trans l0⟩

theorem Adv.later {F : Nat → Prop} {ι : Pos} {H : Heap} {w : World} {ι' : Pos} {H' : Heap} {w' : World} (h : Adv ι H w ι' H' w') : Later (bad F ι H) w (bad F ι' H') w' := by
  intro b hb hn
  have hF : ¬ F b := fun e => hn (.inl e)
  have hO : ¬ isOwn ι H b := fun e => hn (.inr e)
  exact ⟨fun e => e.elim hF (h.own_back hb hO), h.keep b hb hO⟩

theorem live_some {H : Heap} {k : Key} {ver : Nat} {b : Blk} (h : H.live k ver = some b) : (H k).1 = ver ∧ (H k).2 = some b := by
  unfold Heap.live at h
  split at h
  · exact ⟨by assumption, h⟩
  · cases h

theorem live_of {H : Heap} {k : Key} {ver : Nat} {b : Blk} (h : (H k).1 = ver) (h' : (H k).2 = some b) : H.live k ver = some b := by
  unfold Heap.live; rw [if_pos h, h']

theorem live_none {H : Heap} {k : Key} {ver : Nat} (h : H.live k ver = none) : (H k).1 ≠ ver ∨ (H k).2 = none := by
  unfold Heap.live at h
  split at h
  · exact .inr h
  · exact .inl (by assumption)

theorem Adv.dead {ι : Pos} {H : Heap} {w : World} {ι' : Pos} {H' : Heap} {w' : World} (h : Adv ι H w ι' H' w') {k : Key} {ver : Nat} (h1 : ver ≤ (H k).1) (h2 : H.live k ver = none) :
    ver ≤ (H' k).1 ∧ H'.live k ver = none := by
  have hv := h.ver k
  refine ⟨Nat.le_trans h1 hv, ?_⟩
  unfold Heap.live
  split
  · rename_i e
    cases hb : (H' k).2 with
    | none => rfl
    | some b' =>
      obtain ⟨b, hb0, _⟩ := h.same k b' (by omega) hb
      have : (H k).1 = ver := by omega
      rw [live_of this hb0] at h2; cases h2
  · rfl

theorem Rel.adv {F : Nat → Prop} {ι : Pos} {H : Heap} {w : World} {ι' : Pos} {H' : Heap} {w' : World} (h : Adv ι H w ι' H' w') {x : AV} {v : Value}
    (hx : Rel (bad F ι H) ι H w x v) : Rel (bad F ι' H') ι' H' w' x v := by
  induction hx with
  | still x v h1 => exact .still x v (h1.mono h.later)
  | agg cs vs hl h1 _ ih => exact .agg cs vs hl h1 ih
  | tup cs vs hl _ ih => exact .tup cs vs hl ih
  | fn f cs vs hl _ ih => exact .fn f cs vs hl ih
  | iface t x v _ ih => exact .iface t x v ih
  | own k ver off len c b hb h0 h1 h2 h4 h3 =>
    obtain ⟨e, e2⟩ := live_some hb
    by_cases hv : (H' k).1 = ver
    · cases hb' : (H' k).2 with
      | none => exact .ownDead _ _ _ _ _ _ _ (Nat.le_of_eq hv.symm) (by unfold Heap.live; rw [if_pos hv, hb'])
      | some b' =>
        obtain ⟨b0, hb0, hi, hs, hl⟩ := h.same k b' (by omega) hb'
        have : b0 = b := Option.some.inj (hb0.symm.trans e2)
        subst this
        rw [← hi, ← hs]
        exact .own k ver off len c b' (live_of hv hb') (by omega) (by omega) h2 (by omega) (by rw [hi, hs]; exact h3)
    · have := h.ver k
      exact .ownDead _ _ _ _ _ _ _ (by omega) (by unfold Heap.live; rw [if_neg hv])
  | ownDead k ver off len b o c h1 h2 => exact .ownDead _ _ _ _ _ _ _ (h.dead h1 h2).1 (h.dead h1 h2).2
  | ptr k ver i j b e hb h0 he =>
    obtain ⟨e1, e2⟩ := live_some hb
    by_cases hv : (H' k).1 = ver
    · cases hb' : (H' k).2 with
      | none => exact .ptrDead _ _ _ _ _ _ (Nat.le_of_eq hv.symm) (by unfold Heap.live; rw [if_pos hv, hb'])
      | some b' =>
        obtain ⟨b0, hb0, hi, hs, hl⟩ := h.same k b' (by omega) hb'
        have : b0 = b := Option.some.inj (hb0.symm.trans e2)
        subst this
        rw [← hi, ← hs]
        have hlt : i < b'.es.length := by
          rw [hl]; exact (List.getElem?_eq_some_iff.1 he).1
        exact .ptr k ver i j b' _ (live_of hv hb') (by omega) (List.getElem?_eq_getElem hlt)
    · have := h.ver k
      exact .ptrDead _ _ _ _ _ _ (by omega) (by unfold Heap.live; rw [if_neg hv])
  | ptrDead k ver i j b o h1 h2 => exact .ptrDead _ _ _ _ _ _ (h.dead h1 h2).1 (h.dead h1 h2).2
  | iter k ver i j b hb h0 hi =>
    obtain ⟨e1, e2⟩ := live_some hb
    by_cases hv : (H' k).1 = ver
    · cases hb' : (H' k).2 with
      | none => exact .ptrDead _ _ _ _ _ _ (Nat.le_of_eq hv.symm) (by unfold Heap.live; rw [if_pos hv, hb'])
      | some b' =>
        obtain ⟨b0, hb0, hi', hs, hl⟩ := h.same k b' (by omega) hb'
        have : b0 = b := Option.some.inj (hb0.symm.trans e2)
        subst this
        rw [← hi']
        exact .iter k ver i j b' (live_of hv hb') (by omega) (by omega)
    · have := h.ver k
      exact .ptrDead _ _ _ _ _ _ (by omega) (by unfold Heap.live; rw [if_neg hv])
  | map k ver b hb h0 =>
    obtain ⟨e1, e2⟩ := live_some hb
    by_cases hv : (H' k).1 = ver
    · cases hb' : (H' k).2 with
      | none => exact .mapDead _ _ _ (Nat.le_of_eq hv.symm) (by unfold Heap.live; rw [if_pos hv, hb'])
      | some b' =>
        obtain ⟨b0, hb0, hi', hs, hl⟩ := h.same k b' (by omega) hb'
        have : b0 = b := Option.some.inj (hb0.symm.trans e2)
        subst this
        rw [← hi']
        exact .map k ver b' (live_of hv hb') (by omega)
    · have := h.ver k
      exact .mapDead _ _ _ (by omega) (by unfold Heap.live; rw [if_neg hv])
  | mapDead k ver m h1 h2 => exact .mapDead _ _ _ (h.dead h1 h2).1 (h.dead h1 h2).2
  | junk v => exact .junk v

/-- A block of the call's own, in memory. -/
structure BlkOK (N : Nat → Prop) (ι : Pos) (H : Heap) (w : World) (p : Nat × Nat) (b : Blk) (cs : Array Value) (T : TypeId) : Prop where
  row : w.heap[p.1]? = some (.cells cs T (0, 0))
  size : cs.size = p.2
  room : b.es.length * b.sz ≤ p.2
  es : ∀ e ∈ b.es, e.cells.length = b.sz
  cell : ∀ (i : Nat) (e : AV) (j : Nat) (c : AV), b.es[i]? = some e → e.cells[j]? = some c → ∃ v, cs[i * b.sz + j]? = some v ∧ one v ∧ Rel N ι H w c v ∧ (b.still = true → VD N w c v)

/-- Two lists, element by element. -/
inductive All2 {α β : Type} (R : α → β → Prop) : List α → List β → Prop
  | nil : All2 R [] []
  | cons {x : α} {y : β} {xs : List α} {ys : List β} (h : R x y) (t : All2 R xs ys) : All2 R (x :: xs) (y :: ys)

/-- An entry of a map. -/
def EntOK (x : AV) (e : MapEntry) : Prop := ∃ k v, x = .agg [k, v] ∧ (∀ N w, VD N w k e.key) ∧ (∀ N w, VD N w v e.val)
/-- Objects that are no rows of cells: a walk along a text; a map. -/
def ObjOK (w : World) (p : Nat) (b : Blk) : Prop :=
  (b.still = true ∧ ∃ (s : List UInt8) (pos : Nat), b.es = [.tup [.str s, .int .i64 pos]] ∧ w.heap[p]? = some (.stringIter ⟨s.toArray⟩ pos)) ∨
  (b.still = false ∧ ∃ (l : List AV) (es : Array MapEntry) (clock : Nat), b.es = [.tup l] ∧ w.heap[p]? = some (.map es clock) ∧ All2 EntOK l es.toList)
theorem ObjOK.keep {w w' : World} {p : Nat} {b : Blk} (h : ObjOK w p b) (hp : w'.heap[p]? = w.heap[p]?) : ObjOK w' p b := by
  rcases h with ⟨h1, s, pos, h2, h3⟩ | ⟨h1, l, es, clock, h2, h3, h4⟩
  · exact .inl ⟨h1, s, pos, h2, hp.trans h3⟩
  · exact .inr ⟨h1, l, es, clock, h2, hp.trans h3, h4⟩
theorem ObjOK.lt {w : World} {p : Nat} {b : Blk} (h : ObjOK w p b) : p < w.heap.size := by
  rcases h with ⟨_, s, pos, _, h3⟩ | ⟨_, l, es, clock, _, h3, _⟩
  · exact (Array.getElem?_eq_some_iff.1 h3).1
  · exact (Array.getElem?_eq_some_iff.1 h3).1
theorem ObjOK.frz {w : World} {p : Nat} {b : Blk} {q : Bool} (h : ObjOK w p b) : ObjOK w p { b with frz := q } := h

/-- A state of the reading and a world. F: blocks that may turn and aren't the call's own; B: the first block that may be the call's own. -/
structure SR (X : Ctx) (F : Nat → Prop) (B : Nat) (ι : Pos) (H : Heap) (w : World) : Prop where
  inj : ∀ k k', (H k).2.isSome = true → (H k').2.isSome = true → (ι k).1 = (ι k').1 → k = k'
  base : ∀ k, (H k).2.isSome = true → B ≤ (ι k).1
  fb : ∀ b, F b → b < B
  szB : B ≤ w.heap.size
  blk : ∀ k b, (H k).2 = some b → b.sz ≠ 0 → ∃ cs T, BlkOK (bad F ι H) ι H w (ι k) b cs T
  obj : ∀ k b, (H k).2 = some b → b.sz = 0 → ObjOK w (ι k).1 b
  glob : ∀ n v, X.glob n = some v → VD (bad F ι H) w (.rp v 0) (.pointer (some ⟨n, 0, none⟩))

theorem SR.lt {X : Ctx} {F : Nat → Prop} {B : Nat} {ι : Pos} {H : Heap} {w : World} (h : SR X F B ι H w) {k : Key} (hk : (H k).2.isSome = true) : (ι k).1 < w.heap.size := by
  obtain ⟨b, hb⟩ := Option.isSome_iff_exists.1 hk
  by_cases h0 : b.sz = 0
  · exact (h.obj k b hb h0).lt
  · obtain ⟨cs, T, hB⟩ := h.blk k b hb h0
    exact (Array.getElem?_eq_some_iff.1 hB.row).1

/-- The blocks that a step leaves alone are as they were. -/
theorem BlkOK.adv {F : Nat → Prop} {ι : Pos} {H : Heap} {w : World} {ι' : Pos} {H' : Heap} {w' : World} (h : Adv ι H w ι' H' w') {p : Nat × Nat} {b : Blk} {cs : Array Value} {T : TypeId}
    (hb : BlkOK (bad F ι H) ι H w p b cs T) (hp : w'.heap[p.1]? = w.heap[p.1]?) : BlkOK (bad F ι' H') ι' H' w' p b cs T where
  row := hp.trans hb.row
  size := hb.size
  room := hb.room
  es := hb.es
  cell i e j c h1 h2 := by
    obtain ⟨v, hv, ho, hr, hs⟩ := hb.cell i e j c h1 h2
    exact ⟨v, hv, ho, hr.adv h, fun e => (hs e).mono h.later⟩

end Go.Den
