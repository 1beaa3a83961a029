/-
  A walk along a text, and maps. Its conditions: none.
-/
import Derived.Test.YtcahamgecejmnaaDoorDenCall
import Derived.MapKept
namespace Go.Den
open Go
open Go.RowKit (Below)
open Go.MapKept (IsKey bytes_beq run_checkKey run_findKey)

variable {P : Program} {X : Ctx} {F : Nat → Prop} {B : Nat} {ι : Pos} {H : Heap} {w : World} {N : Nat → Prop}

theorem heap_set_same (w : World) (r : Nat) (o : Obj) (h : r < w.heap.size) : (w.heap.setIfInBounds r o)[r]? = some o := by simp [h]
theorem heap_set_other (w : World) (r b : Nat) (o : Obj) (h : b ≠ r) : (w.heap.setIfInBounds r o)[b]? = w.heap[b]? := by
  simp only [Array.getElem?_setIfInBounds]; rw [if_neg (fun e => h e.symm)]

/-! ### texts -/
theorem rng_says {π : Key} {dst : Option Nat} {t : TypeId} {x r : AV} {v : Value} {H' : Heap} (hu : P.underlying t = some .string) (hS : SR X F B ι H w) (hx : Rel (bad F ι H) ι H w x v) (h : rngA π dst H x = some (r, H')) :
    ∃ u w' ι', (Instr.range t v).run P w = .ok u w' ∧ SR X F B ι' H' w' ∧ Adv ι H w ι' H' w' ∧ Rel (bad F ι' H') ι' H' w' r u := by
  cases x with
  | str s =>
    obtain rfl := rel_str hx
    simp only [rngA] at h
    split at h
    · rename_i d
      obtain ⟨rfl, rfl⟩ := Prod.mk.inj (Option.some.inj h)
      obtain ⟨hS', hA'⟩ := hS.putObj (d :: π) ((H (d :: π)).1 + 1) ⟨false, true, 0, [.tup [.str s, .int .i64 0]]⟩ (w.heap.size, 0) (w.alloc (.stringIter ⟨s.toArray⟩ 0)) (.inl (Nat.lt_succ_self _)) (.inr (Nat.le_refl _)) rfl rfl rfl
        (by simp) rfl (fun b hb _ => heap_alloc_old w _ b hb) (.inl ⟨rfl, s, 0, rfl, heap_alloc_new w _⟩)
      refine ⟨.pointer (some ⟨w.heap.size, 0, none⟩), _, _, ?_, hS', hA', ?_⟩
      · simp only [Instr.range, Sem.run_bind, run_underlying hu, Result.andThen_ok, Sem.run_pure, run_newObj, World.alloc_eq]
      · have hlive : (fresh H (d :: π) ⟨false, true, 0, [.tup [.str s, .int .i64 0]]⟩).live (d :: π) ((H (d :: π)).1 + 1) = some ⟨false, true, 0, [.tup [.str s, .int .i64 0]]⟩ := by simp [fresh, Heap.live, Heap.set]
        have := Rel.iter (N := bad F (ι.set (d :: π) (w.heap.size, 0)) (fresh H (d :: π) ⟨false, true, 0, [.tup [.str s, .int .i64 0]]⟩)) (ι := ι.set (d :: π) (w.heap.size, 0)) (w := w.alloc (.stringIter ⟨s.toArray⟩ 0)) (d :: π) ((H (d :: π)).1 + 1) 1 0 _ hlive rfl (by simp)
        simpa [Pos.set] using this
    · cases h
  | _ => cases h

theorem next_says {t : TypeId} {x r : AV} {v : Value} {H' : Heap} (hS : SR X F B ι H w) (hx : Rel (bad F ι H) ι H w x v) (h : nextA H x = some (r, H')) :
    ∃ u w' ι', (Instr.next v true t).run P w = .ok u w' ∧ SR X F B ι' H' w' ∧ Adv ι H w ι' H' w' ∧ Rel (bad F ι' H') ι' H' w' r u := by
  unfold nextA at h
  split at h
  · rename_i k ver
    split at h
    · rename_i b hb
      unfold nextB at h
      split at h
      rotate_left
      · cases h
      rename_i s n
      cases hx with
      | still _ _ hv => cases hv
      | ptrDead _ _ _ _ _ _ _ h2 => rw [h2] at hb; cases hb
      | ptr _ _ _ _ b' e' hb' h0 he' => obtain rfl := Option.some.inj (hb'.symm.trans hb); exact absurd rfl h0
      | iter _ _ _ _ b' hb' h0 hi =>
        obtain ⟨hver, hb2⟩ := live_some hb
        rcases hS.obj k _ hb2 rfl with ⟨_, s', pos, he, hrow⟩ | ⟨hst, _⟩
        · simp only [List.cons.injEq, AV.tup.injEq, AV.str.injEq, AV.int.injEq, true_and, and_true] at he
          obtain ⟨rfl, rfl⟩ := he
          have hr : (ι k).1 < w.heap.size := (Array.getElem?_eq_some_iff.1 hrow).1
          have hget : (getObj (ι k).1).run P w = .ok (.stringIter ⟨s.toArray⟩ pos) w := by simp [getObj, Sem.run, hrow]
          have hsz : (⟨s.toArray⟩ : ByteArray).size = s.length := by simp [ByteArray.size]
          split at h
          · rename_i hlt
            obtain ⟨rfl, rfl⟩ := Prod.mk.inj (Option.some.inj h)
            have hlt' : pos < s.length := by simpa using hlt
            obtain ⟨hS', hA'⟩ := hS.putObj k ver ⟨false, true, 0, [.tup [.str s, .int .i64 ((pos : Int) + (runeAt s (pos : Int).toNat).2)]]⟩ (ι k) { w with heap := w.heap.setIfInBounds (ι k).1 (.stringIter ⟨s.toArray⟩ (pos + (runeAt s pos).2)) }
              (.inr ⟨hver, _, hb2, rfl, rfl, rfl⟩) (.inl ⟨_, hb2, rfl, rfl⟩) rfl rfl rfl (by simp) rfl (fun b _ hne => heap_set_other w _ b _ hne)
              (.inl ⟨rfl, s, pos + (runeAt s pos).2, by simp, heap_set_same w _ _ hr⟩)
            refine ⟨.tuple #[.bool true, goInt pos, .int .i32 (runeAt s pos).1], _, _, ?_, hS', hA', ?_⟩
            · simp only [Instr.next, Sem.run_bind, hget, Result.andThen_ok, hsz, if_pos hlt']
              have hset : ∀ o, (setObj (ι k).1 o).run P w = .ok () { w with heap := w.heap.setIfInBounds (ι k).1 o } := fun o => by simp [setObj, Sem.run, hrow]
              simp only [hset, Result.andThen_ok, Sem.run_pure]
              rfl
            · refine .still _ _ (VD.tup [_, _, _] [_, _, _] rfl (fun i c v h1 h2 => ?_))
              match i, h1, h2 with
              | 0, h1, h2 => simp at h1 h2; subst h1 h2; exact .bool _
              | 1, h1, h2 => simp at h1 h2; subst h1 h2; exact .int _ _
              | 2, h1, h2 => simp at h1 h2; subst h1 h2; exact .int _ _
              | i + 3, h1, _ => simp at h1
          · rename_i hlt
            obtain ⟨rfl, rfl⟩ := Prod.mk.inj (Option.some.inj h)
            have hlt' : ¬ pos < s.length := by simpa using hlt
            refine ⟨.tuple #[.bool false], w, ι, ?_, hS, .refl _ _ _, ?_⟩
            · simp only [Instr.next, Sem.run_bind, hget, Result.andThen_ok, hsz, if_neg hlt', Sem.run_pure]
            · refine .still _ _ (VD.tup [_] [_] rfl (fun i c v h1 h2 => ?_))
              match i, h1, h2 with
              | 0, h1, h2 => simp at h1 h2; subst h1 h2; exact .bool _
              | i + 1, h1, _ => simp at h1
        · cases hst
    · cases h
  · cases h

/-! ### maps -/
theorem get_map {r : Nat} {es : Array MapEntry} {clock : Nat} (hb : w.heap[r]? = some (.map es clock)) : (getObj r).run P w = .ok (.map es clock) w := by
  simp [getObj, Sem.run, hb]
theorem set_map {r : Nat} {es : Array MapEntry} {clock : Nat} (o : Obj) (hb : w.heap[r]? = some (.map es clock)) : (setObj r o).run P w = .ok () { w with heap := w.heap.setIfInBounds r o } := by
  simp [setObj, Sem.run, hb]
mutual
theorem flat_pure : ∀ {x : AV}, x.flat = true → x.pure = true
  | .bool _, _ | .int _ _, _ | .str _, _ | .nilp, _ | .nilfn, _ | .nilmap, _ | .nilif, _ | .junk, _ => rfl
  | .agg cs, h => by simp only [AV.flat] at h; simp only [AV.pure]; exact flatL_pure h
  | .tup cs, h => by simp only [AV.flat] at h; simp only [AV.pure]; exact flatL_pure h
  | .iface _ v, h => by simp only [AV.flat] at h; simp only [AV.pure]; exact flat_pure h
  | .sl _, h | .zs _, h | .own _ _ _ _, h | .rp _ _, h | .ptr _ _ _ _, h | .fn _ _, h | .map _ _, h => by simp [AV.flat] at h
theorem flatL_pure : ∀ {x : List AV}, AV.flatL x = true → AV.pureL x = true
  | [], _ => rfl
  | v :: r, h => by
    simp only [AV.flatL, Bool.and_eq_true] at h
    simp only [AV.pureL, Bool.and_eq_true]
    exact ⟨flat_pure h.1, flatL_pure h.2⟩
end
theorem mkmap_says {π : Key} {dst : Option Nat} {t : TypeId} {r : AV} {H' : Heap} (hS : SR X F B ι H w) (h : mkmapA π dst H = some (r, H')) :
    ∃ u w' ι', (Instr.makeMap t none).run P w = .ok u w' ∧ SR X F B ι' H' w' ∧ Adv ι H w ι' H' w' ∧ Rel (bad F ι' H') ι' H' w' r u := by
  unfold mkmapA at h
  split at h
  · rename_i d
    obtain ⟨rfl, rfl⟩ := Prod.mk.inj (Option.some.inj h)
    obtain ⟨hS', hA'⟩ := hS.putObj (d :: π) ((H (d :: π)).1 + 1) ⟨false, false, 0, [.tup []]⟩ (w.heap.size, 0) (w.alloc (.map #[] 0)) (.inl (Nat.lt_succ_self _)) (.inr (Nat.le_refl _)) rfl rfl rfl
      (by simp) rfl (fun b hb _ => heap_alloc_old w _ b hb) (.inr ⟨rfl, [], #[], 0, rfl, heap_alloc_new w _, .nil⟩)
    refine ⟨.map (some w.heap.size), _, _, ?_, hS', hA', ?_⟩
    · simp only [Instr.makeMap, Sem.run_bind, Sem.run_pure, Result.andThen_ok, run_newObj, World.alloc_eq]
    · have hlive : (fresh H (d :: π) ⟨false, false, 0, [.tup []]⟩).live (d :: π) ((H (d :: π)).1 + 1) = some ⟨false, false, 0, [.tup []]⟩ := by simp [fresh, Heap.live, Heap.set]
      have := Rel.map (N := bad F (ι.set (d :: π) (w.heap.size, 0)) (fresh H (d :: π) ⟨false, false, 0, [.tup []]⟩)) (ι := ι.set (d :: π) (w.heap.size, 0)) (w := w.alloc (.map #[] 0)) (d :: π) ((H (d :: π)).1 + 1) _ hlive rfl
      simpa [Pos.set] using this
  · cases h

/-- A key's kind. -/
def kindOK : MK → TypeDesc → Prop
  | .bool, .bool => True
  | .int k, .int k' => k = k'
  | .str, .string => True
  | _, _ => False
theorem keyK_kind {t : TypeId} {q : MK} (h : keyK P t = some q) : ∃ d, P.underlying t = some d ∧ kindOK q d := by
  unfold keyK at h
  split at h
  · rename_i hu; obtain rfl := Option.some.inj h; exact ⟨_, hu, trivial⟩
  · rename_i hu; obtain rfl := Option.some.inj h; exact ⟨_, hu, rfl⟩
  · rename_i hu; obtain rfl := Option.some.inj h; exact ⟨_, hu, trivial⟩
  · cases h
theorem bytes_beq_list (s t : List UInt8) : ((⟨s.toArray⟩ : ByteArray) == ⟨t.toArray⟩) = (s == t) := by
  have h : (⟨s.toArray⟩ : ByteArray) = ⟨t.toArray⟩ ↔ s = t := by
    constructor
    · intro h; injection h with h; simpa using h
    · rintro rfl; rfl
  rw [Bool.eq_iff_iff, bytes_beq, beq_iff_eq]; exact h

theorem same_now {d : TypeDesc} {x y : AV} {v u : Value} {b : Bool} (hk : IsKey d v) (hx : VD N w x v) (hy : VD N w y u) (h : keyEq x y = some b) : Instr.sameNow d v u = some b := by
  unfold keyEq at h
  split at h
  · cases hx; cases hy
    split at h
    · rename_i e; subst e
      obtain rfl := Option.some.inj h
      cases d <;> simp_all [IsKey, Instr.sameNow]
    · cases h
  · cases hx; cases hy
    obtain rfl := Option.some.inj h
    cases d <;> simp_all [IsKey, Instr.sameNow]
    rw [← bytes_beq_list]
  · cases hx; cases hy
    obtain rfl := Option.some.inj h
    cases d <;> simp_all [IsKey, Instr.sameNow]
  · cases h

theorem find_now {d : TypeDesc} {x : AV} {v : Value} (hk : IsKey d v) (hx : ∀ N w, VD N w x v) : ∀ {l : List AV} {es : List MapEntry} (i : Nat) {a : Option (Nat × AV)}, All2 EntOK l es → findKeyA x l i = some a →
    match a with
    | none => Instr.findNow d v es i = some none
    | some (j, z) => i ≤ j ∧ ∃ e, es[j - i]? = some e ∧ Instr.findNow d v es i = some (some (j, e.val)) ∧ (∀ N w, VD N w z e.val) ∧ Instr.sameNow d v e.key = some true
  | [], _, i, a, .nil, h => by obtain rfl := Option.some.inj h; rfl
  | _ :: l, _ :: es, i, a, .cons (y := e) h1 t, h => by
    obtain ⟨k, z, rfl, hkk, hz⟩ := h1
    simp only [findKeyA] at h
    split at h
    · rename_i hq
      obtain rfl := Option.some.inj h
      have := same_now hk (hx (fun _ => False) ⟨#[], fun _ _ => 0, 0, default, #[]⟩) (hkk _ _) hq
      exact ⟨Nat.le_refl _, e, by simp, by simp only [Instr.findNow, this], hz, this⟩
    · rename_i hq
      have := same_now hk (hx (fun _ => False) ⟨#[], fun _ _ => 0, 0, default, #[]⟩) (hkk _ _) hq
      have ih := find_now hk hx (i + 1) t h
      simp only [Instr.findNow, this]
      cases a with
      | none => exact ih
      | some p =>
        obtain ⟨j, z'⟩ := p
        obtain ⟨h1, e', h2, h3, h4, h5⟩ := ih
        refine ⟨by omega, e', ?_, h3, h4, h5⟩
        rw [show j - i = (j - (i + 1)) + 1 by omega]; simpa using h2
    · cases h

theorem key_is {q : MK} {d : TypeDesc} {x : AV} {v : Value} (h : isKeyA q x = true) (hq : kindOK q d) (hx : Rel N ι H w x v) : IsKey d v ∧ ∀ N w, VD N w x v := by
  unfold isKeyA at h
  split at h
  · obtain rfl := rel_int hx
    obtain rfl := of_decide_eq_true h
    cases d <;> simp [kindOK] at hq
    subst hq
    exact ⟨rfl, fun _ _ => .int _ _⟩
  · obtain rfl := rel_str hx
    cases d <;> simp [kindOK] at hq
    exact ⟨trivial, fun _ _ => .str _⟩
  · obtain rfl := rel_bool hx
    cases d <;> simp [kindOK] at hq
    exact ⟨trivial, fun _ _ => .bool _⟩
  · cases h

/-- What is in a map. -/
theorem entries_of {m : AV} {v : Value} {l : List AV} (hS : SR X F B ι H w) (hm : Rel (bad F ι H) ι H w m v) (h : entriesA H m = some l) :
    ∃ es : List MapEntry, All2 EntOK l es ∧ ((v = .map none ∧ es = []) ∨ ∃ r clock, v = .map (some r) ∧ w.heap[r]? = some (.map es.toArray clock)) := by
  unfold entriesA at h
  split at h
  · obtain rfl := rel_nilmap hm
    obtain rfl := Option.some.inj h
    exact ⟨[], .nil, .inl ⟨rfl, rfl⟩⟩
  · rename_i k ver
    split at h
    · rename_i fz l' hb
      obtain rfl := Option.some.inj h
      cases hm with
      | still _ _ hv => cases hv
      | mapDead _ _ _ _ h2 => rw [h2] at hb; cases hb
      | map _ _ b' hb' h0 =>
        obtain ⟨hver, hb2⟩ := live_some hb
        rcases hS.obj k _ hb2 rfl with ⟨hst, _⟩ | ⟨_, l2, es, clock, he, hrow, hall⟩
        · cases hst
        · simp only [List.cons.injEq, AV.tup.injEq, and_true] at he
          subst he
          exact ⟨es.toList, hall, .inr ⟨(ι k).1, clock, rfl, by simpa using hrow⟩⟩
    · cases h
  · cases h

theorem lookup_says {t kt et : TypeId} {q : MK} {z : AV} {ok : Bool} {m x r : AV} {v u : Value} (hu : P.underlying t = some (.map kt et)) (hq : keyK P kt = some q) (hz : zeroT P et = some z)
    (hS : SR X F B ι H w) (hm : Rel (bad F ι H) ι H w m v) (hx : Rel (bad F ι H) ι H w x u) (h : lookupA H q z ok m x = some r) :
    ∃ y, (Instr.lookup t v u ok).run P w = .ok y w ∧ Rel (bad F ι H) ι H w r y := by
  obtain ⟨d, hd, hkd⟩ := keyK_kind hq
  unfold lookupA at h
  split at h
  · rename_i hkey
    obtain ⟨hk, hxv⟩ := key_is hkey hkd hx
    split at h
    · rename_i l hl
      obtain ⟨es, hall, hv⟩ := entries_of hS hm hl
      have hrun : ∀ {a : Option (Nat × Value)} {y : Value} {b : Bool}, Instr.findNow d u es 0 = some a → (match a with | some (_, v) => v = y ∧ b = true | none => (zeroValue et).run P w = .ok y w ∧ b = false) → (Instr.lookup t v u ok).run P w =
          .ok (if ok then .tuple #[y, .bool b] else y) w := by
        intro a y b ha hy
        have hfk := run_findKey (w := w) (kt := kt) hd ha
        rcases hv with ⟨rfl, rfl⟩ | ⟨rr, clock, rfl, hrow⟩
        · simp only [Instr.lookup, Sem.run_bind, run_underlying hu, Result.andThen_ok, Sem.run_pure, run_checkKey hd hk, hfk]
          cases a with
          | none => obtain ⟨h1, rfl⟩ := hy; simp only [Sem.run_bind, h1, Result.andThen_ok, Sem.run_pure]
          | some p => obtain ⟨rfl, rfl⟩ := hy; simp only [Sem.run_bind, Result.andThen_ok, Sem.run_pure]
        · simp only [Instr.lookup, Sem.run_bind, run_underlying hu, Result.andThen_ok, get_map hrow, Sem.run_pure, run_checkKey hd hk, hfk]
          cases a with
          | none => obtain ⟨h1, rfl⟩ := hy; simp only [Sem.run_bind, h1, Result.andThen_ok, Sem.run_pure]
          | some p => obtain ⟨rfl, rfl⟩ := hy; simp only [Sem.run_bind, Result.andThen_ok, Sem.run_pure]
      have tup2 : ∀ {a : AV} {b : Bool} {va : Value}, VD (bad F ι H) w a va → Rel (bad F ι H) ι H w (if ok then .tup [a, .bool b] else a) (if ok then .tuple #[va, .bool b] else va) := by
        intro a b va ha
        cases ok
        · exact .still _ _ ha
        · refine .still _ _ (VD.tup [a, .bool b] [va, .bool b] rfl (fun i c v h1 h2 => ?_))
          match i, h1, h2 with
          | 0, h1, h2 => simp at h1 h2; subst h1 h2; exact ha
          | 1, h1, h2 => simp at h1 h2; subst h1 h2; exact .bool _
          | i + 2, h1, _ => simp at h1
      split at h
      · rename_i j val hf
        obtain rfl := Option.some.inj h
        obtain ⟨_, e, _, h3, h4, _⟩ := find_now hk hxv 0 hall hf
        exact ⟨_, hrun h3 ⟨rfl, rfl⟩, tup2 (h4 _ _)⟩
      · rename_i hf
        obtain rfl := Option.some.inj h
        have h3 := find_now hk hxv 0 hall hf
        obtain ⟨zv, hzv, hzr⟩ := run_zeroT (N := bad F ι H) (w := w) hz w
        exact ⟨_, hrun h3 ⟨hzr, rfl⟩, tup2 hzv⟩
      · cases h
    · cases h
  · cases h

theorem all2_set {R : AV → MapEntry → Prop} : ∀ {l : List AV} {es : List MapEntry} (i : Nat) {x : AV} {f : MapEntry → MapEntry}, All2 R l es → (∀ e, es[i]? = some e → R x (f e)) → All2 R (l.set i x) (es.modify i f)
  | _, _, i, x, f, .nil, _ => by simp; exact .nil
  | _, _, 0, x, f, .cons h t, g => by simpa [List.modify_zero_cons] using All2.cons (g _ rfl) t
  | _, _, i + 1, x, f, .cons h t, g => by
    simpa [List.modify_succ_cons] using All2.cons h (all2_set i t (fun e he => g e (by simpa using he)))
theorem all2_snoc {R : AV → MapEntry → Prop} : ∀ {l : List AV} {es : List MapEntry} {x : AV} {e : MapEntry}, All2 R l es → R x e → All2 R (l ++ [x]) (es ++ [e])
  | _, _, _, _, .nil, h => .cons h .nil
  | _, _, _, _, .cons h t, g => .cons h (all2_snoc t g)

theorem same_bits {d : TypeDesc} {v u : Value} (hk : IsKey d v) (h : Instr.sameNow d v u = some true) : u = v := by
  cases d <;> cases v <;> simp [IsKey] at hk <;> cases u <;> simp [Instr.sameNow, bytes_beq] at h
  · rw [h]
  · obtain ⟨rfl, rfl⟩ := h; rfl
  · rw [h]
theorem keyThatStays_same {d : TypeDesc} {v : Value} (hk : IsKey d v) (w : World) : (Instr.keyThatStays v v).run P w = .ok v w := by
  have : Instr.sameBits 10000 v v = true := by
    cases d <;> cases v <;> simp [IsKey] at hk <;> simp [Instr.sameBits, bytes_beq]
  simp [Instr.keyThatStays, this]

theorem mapSet_says {t kt et : TypeId} {q : MK} {m x y : AV} {v u z : Value} {H' : Heap} (hu : P.underlying t = some (.map kt et)) (hq : keyK P kt = some q)
    (hS : SR X F B ι H w) (hm : Rel (bad F ι H) ι H w m v) (hx : Rel (bad F ι H) ι H w x u) (hy : Rel (bad F ι H) ι H w y z) (h : mapSetA H q m x y = some H') :
    ∃ w' ι', (Instr.mapUpdate t v u z).run P w = .ok () w' ∧ SR X F B ι' H' w' ∧ Adv ι H w ι' H' w' := by
  obtain ⟨d, hd, hkd⟩ := keyK_kind hq
  unfold mapSetA at h
  split at h
  · rename_i hc
    simp only [Bool.and_eq_true] at hc
    obtain ⟨⟨hkey, hfl⟩, hsol⟩ := hc
    obtain ⟨hk, hxv⟩ := key_is hkey hkd hx
    have hyv : ∀ N w, VD N w y z := fun N' w' => vd_flat (rel_pure hy (flat_pure hfl)) hfl
    split at h
    · rename_i k ver
      split at h
      · rename_i l hb
        cases hm with
        | still _ _ hv => cases hv
        | mapDead _ _ _ _ h2 => rw [h2] at hb; cases hb
        | map _ _ b' hb' h0 =>
          obtain ⟨hver, hb2⟩ := live_some hb
          rcases hS.obj k _ hb2 rfl with ⟨hst, _⟩ | ⟨_, l2, es, clock, he, hrow, hall⟩
          · cases hst
          · simp only [List.cons.injEq, AV.tup.injEq, and_true] at he
            subst he
            have hr : (ι k).1 < w.heap.size := (Array.getElem?_eq_some_iff.1 hrow).1
            have put : ∀ (l' : List AV) (es' : Array MapEntry) (clock' : Nat), All2 EntOK l' es'.toList →
                SR X F B ((ι.set k (ι k))) (H.set k (ver, some ⟨false, false, 0, [.tup l']⟩)) { w with heap := w.heap.setIfInBounds (ι k).1 (.map es' clock') } ∧
                Adv ι H w (ι.set k (ι k)) (H.set k (ver, some ⟨false, false, 0, [.tup l']⟩)) { w with heap := w.heap.setIfInBounds (ι k).1 (.map es' clock') } := fun l' es' clock' hall' =>
              hS.putObj k ver ⟨false, false, 0, [.tup l']⟩ (ι k) _ (.inr ⟨hver, _, hb2, rfl, rfl, rfl⟩) (.inl ⟨_, hb2, rfl, rfl⟩) rfl rfl rfl (by simp) rfl (fun b _ hne => heap_set_other w _ b _ hne)
                (.inr ⟨rfl, l', es', clock', rfl, heap_set_same w _ _ hr, hall'⟩)
            split at h
            · rename_i j val hf
              obtain rfl := Option.some.inj h
              obtain ⟨_, e, he, h3, h4, h5⟩ := find_now hk hxv 0 hall hf
              have he' : es[j]? = some e := by simpa using he
              obtain rfl : e.key = u := same_bits hk h5
              obtain ⟨hS', hA'⟩ := put (l.set j (.agg [x, y])) (es.modify j fun e' => { e' with key := e.key, val := z }) clock (by
                rw [Array.toList_modify]
                exact all2_set j hall (fun e0 _ => ⟨x, y, rfl, hxv, hyv⟩))
              refine ⟨_, _, ?_, hS', hA'⟩
              simp only [Instr.mapUpdate, Sem.run_bind, run_underlying hu, Result.andThen_ok, get_map hrow, run_checkKey hd hk, run_findKey (w := w) (kt := kt) hd h3, he', Option.map_some, Option.getD_some, keyThatStays_same hk, set_map _ hrow]
            · rename_i hf
              obtain rfl := Option.some.inj h
              have h3 := find_now hk hxv 0 hall hf
              obtain ⟨hS', hA'⟩ := put (l ++ [.agg [x, y]]) (es.push { key := u, val := z, born := clock }) (clock + 1) (by
                rw [Array.toList_push]
                exact all2_snoc hall ⟨x, y, rfl, hxv, hyv⟩)
              refine ⟨_, _, ?_, hS', hA'⟩
              simp only [Instr.mapUpdate, Sem.run_bind, run_underlying hu, Result.andThen_ok, get_map hrow, run_checkKey hd hk, run_findKey (w := w) (kt := kt) hd h3, set_map _ hrow]
            · cases h
      · cases h
    · cases h
  · cases h

end Go.Den
