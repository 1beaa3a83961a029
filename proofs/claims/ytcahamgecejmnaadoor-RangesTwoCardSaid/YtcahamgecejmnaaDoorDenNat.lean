/-
  Plain lists beside the functional reading's: elements, cuts, and slices that grow. Its conditions: none.
-/
import Derived.Test.YtcahamgecejmnaaDoorDenLim
namespace Go.Den
open Go

/-- A plain list's elements as values. -/
def encL {α : Type} (f : α → AV) (l : List α) : List AV := l.map f
theorem encL_nil {α : Type} (f : α → AV) : encL f [] = [] := rfl
theorem encL_cons {α : Type} (f : α → AV) (a : α) (l : List α) : encL f (a :: l) = f a :: encL f l := rfl
theorem encL_length {α : Type} (f : α → AV) (l : List α) : (encL f l).length = l.length := by simp [encL]
theorem encL_get {α : Type} (f : α → AV) (l : List α) (n : Nat) : (encL f l)[n]? = l[n]?.map f := by simp [encL]
theorem encL_take {α : Type} (f : α → AV) (l : List α) (n : Nat) : (encL f l).take n = encL f (l.take n) := by simp [encL]
theorem encL_drop {α : Type} (f : α → AV) (l : List α) (n : Nat) : (encL f l).drop n = encL f (l.drop n) := by simp [encL]
theorem encL_append {α : Type} (f : α → AV) (l m : List α) : encL f l ++ encL f m = encL f (l ++ m) := by simp [encL]
theorem encL_set {α : Type} (f : α → AV) (l : List α) (n : Nat) (a : α) : (encL f l).set n (f a) = encL f (l.set n a) := by simp [encL]
theorem encL_sized {α : Type} {f : α → AV} {sz : Nat} (h : ∀ a, (f a).cells.length = sz) (l : List α) : AV.sized sz (encL f l) = true := by
  simp only [AV.sized, List.all_eq_true, beq_iff_eq, encL, List.mem_map]
  rintro e ⟨a, _, rfl⟩
  exact h a
theorem encL_norm {α : Type} (f : α → AV) (l : List α) : (AV.sl (encL f l)).norm = .sl (encL f l) := by simp only [AV.norm]

/-- The element at a place. -/
def idx {α : Type} (l : List α) (i : Int) : Option α := if 0 ≤ i then l[i.toNat]? else none
/-- What lies between two places. -/
def cut {α : Type} (l : List α) (lo hi : Int) : Option (List α) := if 0 ≤ lo ∧ lo ≤ hi ∧ hi ≤ l.length then some ((l.take hi.toNat).drop lo.toNat) else none

theorem idx_some {α : Type} {l : List α} {i : Int} {a : α} (h : idx l i = some a) : 0 ≤ i ∧ i < l.length ∧ l[i.toNat]? = some a := by
  unfold idx at h
  split at h
  · rename_i h0
    have := (List.getElem?_eq_some_iff.1 h).1
    exact ⟨h0, by omega, h⟩
  · cases h
theorem idx_of {α : Type} {l : List α} {n : Nat} {a : α} (h : l[n]? = some a) : idx l (n : Int) = some a := by
  unfold idx; rw [if_pos (by omega)]; simpa using h

theorem at_enc {α : Type} {f : α → AV} {sz : Nat} (hf : ∀ a, (f a).cells.length = sz) {H : Heap} {k : IntKind} {l : List α} {i : Int} :
    indexAddrA H sz (.sl (encL f l)) (.int k i) = (idx l i).map fun a => .rp (f a) 0 := by
  rw [at_sl]
  unfold idx
  simp only [nat?, encL_get]
  split
  · rename_i n hn
    split at hn
    · rename_i h0
      obtain rfl := Option.some.inj hn
      rw [if_pos h0]
      cases l[i.toNat]? with
      | none => rfl
      | some a => simp [hf]
    · cases hn
  · rename_i hn
    split at hn
    · cases hn
    · rename_i h0; rw [if_neg h0]; rfl

theorem str_at {s : List UInt8} {k : IntKind} {i : Int} : indexStrA (.str s) (.int k i) = (idx s i).map fun b => .int .u8 b.toNat := by
  unfold idx indexStrA
  simp only [nat?]
  split
  · rename_i n hn
    split at hn
    · rename_i h0
      obtain rfl := Option.some.inj hn
      rw [if_pos h0]
      cases s[i.toNat]? <;> rfl
    · cases hn
  · rename_i hn
    split at hn
    · cases hn
    · rename_i h0; rw [if_neg h0]; rfl

theorem bounds_cut {n : Nat} {k k' : IntKind} {lo hi : Int} : slBounds n (some (.int k lo)) (some (.int k' hi)) = if 0 ≤ lo ∧ lo ≤ hi ∧ hi ≤ n then some (lo.toNat, hi.toNat) else none := by
  unfold slBounds
  simp only [nat?]
  by_cases h1 : 0 ≤ hi
  · simp only [if_pos h1]
    by_cases h2 : 0 ≤ lo
    · simp only [if_pos h2]
      by_cases h3 : lo ≤ hi ∧ hi ≤ n
      · rw [if_pos (by omega), if_pos ⟨h2, h3⟩]
      · rw [if_neg (by omega), if_neg (by omega)]
    · simp only [if_neg h2]
      rw [if_neg (by omega)]
  · simp only [if_neg h1]
    rw [if_neg (by omega)]
theorem bounds_lo {n : Nat} {k : IntKind} {lo : Int} : slBounds n (some (.int k lo)) none = if 0 ≤ lo ∧ lo ≤ n then some (lo.toNat, n) else none := by
  unfold slBounds
  simp only [nat?]
  by_cases h2 : 0 ≤ lo
  · simp only [if_pos h2]
    by_cases h3 : lo ≤ n
    · rw [if_pos (by omega), if_pos ⟨h2, h3⟩]
    · rw [if_neg (by omega), if_neg (by omega)]
  · simp only [if_neg h2]
    rw [if_neg (by omega)]
theorem bounds_hi {n : Nat} {k : IntKind} {hi : Int} : slBounds n none (some (.int k hi)) = if 0 ≤ hi ∧ hi ≤ n then some (0, hi.toNat) else none := by
  unfold slBounds
  simp only [nat?]
  by_cases h1 : 0 ≤ hi
  · simp only [if_pos h1]
    by_cases h3 : hi ≤ n
    · rw [if_pos (by omega), if_pos ⟨h1, h3⟩]
    · rw [if_neg (by omega), if_neg (by omega)]
  · simp only [if_neg h1]
    rw [if_neg (by omega)]

theorem str_cut {s : List UInt8} {k k' : IntKind} {lo hi : Int} : slstrA (.str s) (some (.int k lo)) (some (.int k' hi)) = (cut s lo hi).map .str := by
  simp only [slstrA, bounds_cut, cut]
  split
  · rename_i h; split at h <;> simp_all
  · rename_i h; split at h <;> simp_all
theorem str_cut_lo {s : List UInt8} {k : IntKind} {lo : Int} : slstrA (.str s) (some (.int k lo)) none = (cut s lo s.length).map .str := by
  simp only [slstrA, bounds_lo, cut]
  split
  · rename_i h
    split at h
    · rename_i h1
      obtain ⟨rfl, rfl⟩ := Prod.mk.inj (Option.some.inj h)
      rw [if_pos (by omega)]; simp
    · cases h
  · rename_i h
    split at h
    · cases h
    · rename_i h1; rw [if_neg (by omega)]; rfl
theorem str_cut_hi {s : List UInt8} {k : IntKind} {hi : Int} : slstrA (.str s) none (some (.int k hi)) = (cut s 0 hi).map .str := by
  simp only [slstrA, bounds_hi, cut]
  split
  · rename_i h
    split at h
    · rename_i h1
      obtain ⟨rfl, rfl⟩ := Prod.mk.inj (Option.some.inj h)
      rw [if_pos (by omega)]; simp
    · cases h
  · rename_i h
    split at h
    · cases h
    · rename_i h1; rw [if_neg (by omega)]; rfl
theorem str_cut_no {s : List UInt8} : slstrA (.str s) none none = some (.str s) := by
  simp [slstrA, slBounds]

section
variable {α : Type} {f : α → AV} {sz : Nat} (hf : ∀ a, (f a).cells.length = sz) {H : Heap} {l : List α} {k k' : IntKind} {lo hi : Int}
include hf
theorem sl_cut : sliceA H sz (.sl (encL f l)) (some (.int k lo)) (some (.int k' hi)) = (cut l lo hi).map fun m => .sl (encL f m) := by
  simp only [sliceA, encL_length, bounds_cut, cut, encL_sized hf, if_true]
  split
  · rename_i h; split at h <;> simp_all [encL_take, encL_drop]
  · rename_i h; split at h <;> simp_all
theorem sl_cut_lo : sliceA H sz (.sl (encL f l)) (some (.int k lo)) none = (cut l lo l.length).map fun m => .sl (encL f m) := by
  simp only [sliceA, encL_length, bounds_lo, cut, encL_sized hf, if_true]
  split
  · rename_i h
    split at h
    · rename_i h1
      obtain ⟨rfl, rfl⟩ := Prod.mk.inj (Option.some.inj h)
      rw [if_pos (by omega)]; simp [encL_take, encL_drop]
    · cases h
  · rename_i h
    split at h
    · cases h
    · rename_i h1; rw [if_neg (by omega)]; rfl
theorem sl_cut_hi : sliceA H sz (.sl (encL f l)) none (some (.int k hi)) = (cut l 0 hi).map fun m => .sl (encL f m) := by
  simp only [sliceA, encL_length, bounds_hi, cut, encL_sized hf, if_true]
  split
  · rename_i h
    split at h
    · rename_i h1
      obtain ⟨rfl, rfl⟩ := Prod.mk.inj (Option.some.inj h)
      rw [if_pos (by omega)]; simp [encL_take]
    · cases h
  · rename_i h
    split at h
    · cases h
    · rename_i h1; rw [if_neg (by omega)]; rfl
end

/-! ### a slice that grows -/
/-- It holds these elements, and lies in a block of the call's own at one of some places, or nowhere yet. -/
def Buf (ks : List Key) (sz : Nat) (y : AV) (H : Heap) (es : List AV) : Prop :=
  (∃ nl, y = .zs nl ∧ es = []) ∨ ∃ k ver, k ∈ ks ∧ y = .own k ver 0 es.length ∧ H k = (ver, some ⟨false, true, sz, es⟩)

section
variable {ks : List Key} {sz : Nat} {y : AV} {H H' : Heap} {es : List AV}

theorem Buf.zs (nl : Bool) : Buf ks sz (.zs nl) H [] := .inl ⟨nl, rfl, rfl⟩
theorem Buf.own {k : Key} {ver n : Nat} (hk : k ∈ ks) (hn : n = es.length) (h : H k = (ver, some ⟨false, true, sz, es⟩)) : Buf ks sz (.own k ver 0 n) H es := .inr ⟨k, ver, hk, by rw [hn], h⟩
theorem Buf.frame (h : Buf ks sz y H es) (hk : ∀ k, k ∈ ks → H' k = H k) : Buf ks sz y H' es := by
  rcases h with h | ⟨k, ver, h1, h2, h3⟩
  · exact .inl h
  · exact .inr ⟨k, ver, h1, h2, (hk k h1).trans h3⟩
theorem Buf.more {ks' : List Key} (h : Buf ks sz y H es) (hk : ∀ k, k ∈ ks → k ∈ ks') : Buf ks' sz y H es := by
  rcases h with h | ⟨k, ver, h1, h2, h3⟩
  · exact .inl h
  · exact .inr ⟨k, ver, hk k h1, h2, h3⟩
theorem Buf.len (h : Buf ks sz y H es) : lenA false y = some es.length := by
  rcases h with ⟨nl, rfl, rfl⟩ | ⟨k, ver, h1, rfl, h3⟩ <;> rfl
theorem Buf.cells (h : Buf ks sz y H es) : y.cells = [y] := by
  rcases h with ⟨nl, rfl, rfl⟩ | ⟨k, ver, h1, rfl, h3⟩ <;> rfl
theorem Buf.solid (h : Buf ks sz y H es) : y.solid = true := by
  rcases h with ⟨nl, rfl, rfl⟩ | ⟨k, ver, h1, rfl, h3⟩ <;> rfl
theorem Buf.like (h : Buf ks sz y H es) : ∀ cs, Den.like y cs = cs.headD .undef := by
  rcases h with ⟨nl, rfl, rfl⟩ | ⟨k, ver, h1, rfl, h3⟩ <;> intro cs <;> rfl
theorem Buf.fs (h : Buf ks sz y H es) : lenA false y = some es.length ∧ y.cells = [y] ∧ y.solid = true ∧ ∀ cs, Den.like y cs = cs.headD .undef := ⟨h.len, h.cells, h.solid, h.like⟩
theorem Buf.elems (h : Buf ks sz y H es) : elems H sz y = some es := by
  rcases h with ⟨nl, rfl, rfl⟩ | ⟨k, ver, h1, rfl, h3⟩
  · rfl
  · simp [Den.elems, Heap.live, h3]
theorem Buf.snap (h : Buf ks sz y H es) : snap H y = some (.sl es) := by
  rcases h with ⟨nl, rfl, rfl⟩ | ⟨k, ver, h1, rfl, h3⟩
  · rfl
  · simp [Den.snap, frozen1, Heap.live, h3]

/-- The slice behind an append, and the blocks. -/
def apY (π : Key) (d : Nat) (H : Heap) (y : AV) (n : Nat) : AV := match y with
  | .own k ver _ len => .own k (ver + 1) 0 (len + n)
  | _ => .own (d :: π) ((H (d :: π)).1 + 1) 0 n
def apH (π : Key) (d : Nat) (sz : Nat) (H : Heap) (y : AV) (es ys : List AV) : Heap := match y with
  | .own k ver _ _ => H.set k (ver + 1, some ⟨false, true, sz, es ++ ys⟩)
  | _ => fresh H (d :: π) ⟨false, true, sz, ys⟩

theorem Buf.append {π : Key} {d bytes : Nat} {z : AV} {ys : List AV} (h : Buf ks sz y H es) (hz : Den.elems H sz z = some ys) (hne : ys.length ≠ 0) (hroom : (es.length + ys.length) * bytes ≤ room) :
    appendA π d sz bytes H y z = some (apY π d H y ys.length, apH π d sz H y es ys) := by
  rcases h with ⟨nl, rfl, rfl⟩ | ⟨k, ver, h1, rfl, h3⟩
  · simp only [List.length_nil, Nat.zero_add] at hroom
    simp only [appendA, hz, if_neg hne, if_pos hroom, apY, apH]
  · have hl : H.live k ver = some ⟨false, true, sz, es⟩ := by simp [Heap.live, h3]
    simp only [appendA, hz, hl, apY, apH]
    rw [if_pos (by simp; exact hroom)]
theorem Buf.append_no {π : Key} {d bytes : Nat} {z : AV} {ys : List AV} (h : Buf ks sz y H es) (hz : Den.elems H sz z = some ys) (hne : ys.length ≠ 0) (hroom : ¬ (es.length + ys.length) * bytes ≤ room) :
    appendA π d sz bytes H y z = none := by
  rcases h with ⟨nl, rfl, rfl⟩ | ⟨k, ver, h1, rfl, h3⟩
  · simp only [List.length_nil, Nat.zero_add] at hroom
    simp only [appendA, hz, if_neg hne, if_neg hroom]
  · have hl : H.live k ver = some ⟨false, true, sz, es⟩ := by simp [Heap.live, h3]
    simp only [appendA, hz, hl]
    rw [if_neg (by simp; omega)]
theorem Buf.grown {π : Key} {d : Nat} {ys : List AV} (h : Buf ks sz y H es) (hd : (d :: π) ∈ ks) : Buf ks sz (apY π d H y ys.length) (apH π d sz H y es ys) (es ++ ys) := by
  rcases h with ⟨nl, rfl, rfl⟩ | ⟨k, ver, h1, rfl, h3⟩
  · exact .inr ⟨d :: π, (H (d :: π)).1 + 1, hd, by simp only [apY, List.nil_append], by simp [apH, fresh, Heap.set]⟩
  · exact .inr ⟨k, ver + 1, h1, by simp only [apY, List.length_append], by simp [apH, Heap.set]⟩
theorem Buf.other {π : Key} {d : Nat} {ys : List AV} (h : Buf ks sz y H es) (hd : (d :: π) ∈ ks) {k' : Key} (hk : k' ∉ ks) : (apH π d sz H y es ys) k' = H k' := by
  rcases h with ⟨nl, rfl, rfl⟩ | ⟨k, ver, h1, rfl, h3⟩
  · simp only [apH, fresh, Heap.set]; rw [if_neg (by rintro rfl; exact hk hd)]
  · simp only [apH, Heap.set]; rw [if_neg (by rintro rfl; exact hk h1)]
/-- An element of it. -/
theorem Buf.at {i : Nat} {a : AV} {kk : IntKind} (h : Buf ks sz y H es) (ha : es[i]? = some a) : ∃ k ver, k ∈ ks ∧ y = .own k ver 0 es.length ∧ H k = (ver, some ⟨false, true, sz, es⟩) ∧ indexAddrA H sz y (.int kk i) = some (.ptr k ver i 0) := by
  rcases h with ⟨nl, rfl, rfl⟩ | ⟨k, ver, h1, rfl, h3⟩
  · simp at ha
  · refine ⟨k, ver, h1, rfl, h3, ?_⟩
    have hlt := (List.getElem?_eq_some_iff.1 ha).1
    have hl : H.live k ver = some ⟨false, true, sz, es⟩ := by simp [Heap.live, h3]
    have h0 : (0 : Int) ≤ (i : Int) := by omega
    simp [at_own, nat?, hl, hlt, h0]
theorem Buf.at_no {i : Int} {kk : IntKind} (h : Buf ks sz y H es) (ha : idx es i = none) : indexAddrA H sz y (.int kk i) = none := by
  unfold idx at ha
  rcases h with ⟨nl, rfl, rfl⟩ | ⟨k, ver, h1, rfl, h3⟩
  · unfold indexAddrA; cases nat? (.int kk i) <;> rfl
  · have hl : H.live k ver = some ⟨false, true, sz, es⟩ := by simp [Heap.live, h3]
    rw [at_own]
    simp only [nat?]
    by_cases h0 : 0 ≤ i
    · rw [if_pos h0] at ha ⊢
      rw [List.getElem?_eq_none_iff] at ha
      simp only [hl]
      rw [if_neg (by omega)]
    · rw [if_neg h0]
end
/-! ### maps -/
/-- A plain map: keys and what they lead to, in the order they came. -/
def mget {α β : Type} [BEq α] (l : List (α × β)) (x : α) : Option β := l.lookup x
def mput {α β : Type} [BEq α] : List (α × β) → α → β → List (α × β)
  | [], x, v => [(x, v)]
  | (k, u) :: r, x, v => if (x == k) = true then (x, v) :: r else (k, u) :: mput r x v
def encM {α β : Type} (f : α → AV) (g : β → AV) (l : List (α × β)) : List AV := l.map fun p => .agg [f p.1, g p.2]
theorem encM_nil {α β : Type} (f : α → AV) (g : β → AV) : encM f g [] = [] := rfl
theorem find_enc {α β : Type} [BEq α] {f : α → AV} {g : β → AV} (hf : ∀ a b, keyEq (f a) (f b) = some (a == b)) (x : α) : ∀ (l : List (α × β)) (i : Nat),
    findKeyA (f x) (encM f g l) i = some (match mget l x with | some v => some (i + (l.takeWhile fun p => !(x == p.1)).length, g v) | none => none)
  | [], i => rfl
  | (k, u) :: r, i => by
    simp only [encM, List.map_cons, findKeyA, hf, mget, List.lookup_cons, List.takeWhile_cons]
    cases h : x == k with
    | true => simp
    | false =>
      have := find_enc (g := g) hf x r (i + 1)
      simp only [encM, mget] at this
      simp only [this, Bool.not_false, if_true, List.length_cons]
      cases r.lookup x with
      | none => rfl
      | some v => simp; omega
theorem mput_enc {α β : Type} [BEq α] {f : α → AV} {g : β → AV} (x : α) (v : β) : ∀ (l : List (α × β)),
    (mget l x = none → encM f g l ++ [.agg [f x, g v]] = encM f g (mput l x v)) ∧
    ((mget l x).isSome = true → (encM f g l).set (l.takeWhile fun p => !(x == p.1)).length (.agg [f x, g v]) = encM f g (mput l x v))
  | [] => by simp [mget, mput, encM]
  | (k, u) :: r => by
    have ih := mput_enc (f := f) (g := g) x v r
    simp only [encM, mget] at ih
    simp only [mget, List.lookup_cons, mput, encM, List.map_cons, List.takeWhile_cons]
    cases h : x == k with
    | true => simp
    | false =>
      simp only [Bool.not_false, if_true, List.length_cons, List.set_cons_succ, List.map_cons, List.cons_append, Bool.false_eq_true, if_false]
      exact ⟨fun h => by rw [ih.1 h], fun h => by rw [ih.2 h]⟩
theorem lookup_enc {α β : Type} [BEq α] {f : α → AV} {g : β → AV} {q : MK} {zero : AV} {ok : Bool} {H : Heap} {k : Key} {ver : Nat} {fz : Bool} {l : List (α × β)} {x : α} (hf : ∀ a b, keyEq (f a) (f b) = some (a == b)) (hq : ∀ a, isKeyA q (f a) = true)
    (h : H k = (ver, some ⟨fz, false, 0, [.tup (encM f g l)]⟩)) :
    lookupA H q zero ok (.map k ver) (f x) = some (match mget l x with | some v => (if ok then .tup [g v, .bool true] else g v) | none => (if ok then .tup [zero, .bool false] else zero)) := by
  simp only [lookupA, hq, if_true, entriesA, Heap.live, h, find_enc hf]
  cases mget l x <;> rfl
theorem lookup_get {α β : Type} [BEq α] {f : α → AV} {g : β → AV} {q : MK} {z : β} {ok : Bool} {H : Heap} {k : Key} {ver : Nat} {fz : Bool} {l : List (α × β)} {x : α} (hf : ∀ a b, keyEq (f a) (f b) = some (a == b)) (hq : ∀ a, isKeyA q (f a) = true)
    (h : H k = (ver, some ⟨fz, false, 0, [.tup (encM f g l)]⟩)) :
    lookupA H q (g z) ok (.map k ver) (f x) = some (if ok then .tup [g ((mget l x).getD z), .bool (mget l x).isSome] else g ((mget l x).getD z)) := by
  rw [lookup_enc hf hq h]
  cases mget l x <;> rfl
theorem mapSet_enc {α β : Type} [BEq α] {f : α → AV} {g : β → AV} {q : MK} {H : Heap} {k : Key} {ver : Nat} {l : List (α × β)} {x : α} {v : β} (hf : ∀ a b, keyEq (f a) (f b) = some (a == b)) (hq : ∀ a, isKeyA q (f a) = true) (hg : ∀ b, (g b).flat = true ∧ (g b).solid = true)
    (h : H k = (ver, some ⟨false, false, 0, [.tup (encM f g l)]⟩)) :
    mapSetA H q (.map k ver) (f x) (g v) = some (H.set k (ver, some ⟨false, false, 0, [.tup (encM f g (mput l x v))]⟩)) := by
  have e := mput_enc (f := f) (g := g) x v l
  simp only [mapSetA, hq, (hg v).1, (hg v).2, Bool.and_self, if_true, Heap.live, h, find_enc hf]
  cases hm : mget l x with
  | none => simp only []; rw [e.1 hm]
  | some u => simp only [Nat.zero_add]; rw [e.2 (by rw [hm]; rfl)]
theorem key_str (a b : List UInt8) : keyEq (.str a) (.str b) = some (a == b) := rfl
theorem key_int (k : IntKind) (a b : Int) : keyEq (.int k a) (.int k b) = some (a == b) := by simp [keyEq]

/-! ### a slice that is only read, whichever way it is empty -/
def Ro (y : AV) (es : List AV) : Prop := y = .sl es ∨ ∃ nl, y = .zs nl ∧ es = []
section
variable {y : AV} {es : List AV}
theorem Ro.zs (nl : Bool) : Ro (.zs nl) [] := .inr ⟨nl, rfl, rfl⟩
theorem Ro.sl (es : List AV) : Ro (.sl es) es := .inl rfl
theorem Ro.len (h : Ro y es) : lenA false y = some es.length := by rcases h with rfl | ⟨nl, rfl, rfl⟩ <;> rfl
theorem Ro.cells (h : Ro y es) : y.cells = [y] := by rcases h with rfl | ⟨nl, rfl, rfl⟩ <;> rfl
theorem Ro.solid (h : Ro y es) : y.solid = true := by rcases h with rfl | ⟨nl, rfl, rfl⟩ <;> rfl
theorem Ro.pure (h : Ro y es) : y.pure = true := by rcases h with rfl | ⟨nl, rfl, rfl⟩ <;> simp [AV.pure]
theorem Ro.flat (h : Ro y es) : y.flat = false := by rcases h with rfl | ⟨nl, rfl, rfl⟩ <;> simp [AV.flat]
theorem Ro.keys (h : Ro y es) : y.keys = [] := by rcases h with rfl | ⟨nl, rfl, rfl⟩ <;> simp [AV.keys]
theorem Ro.norm (h : Ro y es) : y.norm = .sl es := by rcases h with rfl | ⟨nl, rfl, rfl⟩ <;> simp [AV.norm]
theorem Ro.snap (h : Ro y es) : ∀ H, Den.snap H y = some (.sl es) := by intro H; rcases h with rfl | ⟨nl, rfl, rfl⟩ <;> simp [Den.snap]
theorem Ro.kill (h : Ro y es) : ∀ H, Den.kill H y = H := by intro H; rcases h with rfl | ⟨nl, rfl, rfl⟩ <;> simp [Den.kill]
theorem Ro.fs (h : Ro y es) : lenA false y = some es.length ∧ y.cells = [y] ∧ y.solid = true ∧ y.pure = true ∧ y.flat = false ∧ y.keys = [] ∧ y.norm = .sl es ∧ (∀ H, Den.snap H y = some (.sl es)) ∧ ∀ H, Den.kill H y = H := ⟨h.len, h.cells, h.solid, h.pure, h.flat, h.keys, h.norm, h.snap, h.kill⟩
theorem Ro.elems {β : Type} {f : β → AV} {out : List β} {sz : Nat} {H : Heap} (hs : ∀ a, (f a).cells.length = sz) (h : Ro y (encL f out)) : Den.elems H sz y = some (encL f out) := by
  rcases h with rfl | ⟨nl, rfl, h2⟩
  · simp only [Den.elems]
    rw [if_pos]
    simp [AV.sized, encL, hs]
  · simp [Den.elems, h2]
theorem Ro.at {β : Type} {f : β → AV} {out : List β} {sz : Nat} {H : Heap} {kk : IntKind} {i : Int} (hs : ∀ a, (f a).cells.length = sz) (h : Ro y (encL f out)) : indexAddrA H sz y (.int kk i) = (idx out i).map fun a => .rp (f a) 0 := by
  rcases h with rfl | ⟨nl, rfl, h2⟩
  · exact at_enc hs
  · have : out = [] := by cases out with | nil => rfl | cons a r => simp [encL] at h2
    subst this
    unfold indexAddrA idx
    split <;> (split <;> simp_all)
end
end Go.Den
