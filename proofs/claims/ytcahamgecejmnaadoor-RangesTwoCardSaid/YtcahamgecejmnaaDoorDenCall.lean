/-
  Calls: what is handed over and what comes back. Its conditions: none.
-/
import Derived.Test.YtcahamgecejmnaaDoorDenMem5
namespace Go.Den
open Go

variable {P : Program} {X : Ctx} {F : Nat → Prop} {B : Nat} {ι : Pos} {H : Heap} {w : World} {N : Nat → Prop}

mutual
def allOwn (p : Key → Nat → Prop) : AV → Prop
  | .own k ver _ _ => p k ver
  | .agg cs => allOwnL p cs
  | .tup cs => allOwnL p cs
  | .fn _ cs => allOwnL p cs
  | .iface _ v => allOwn p v
  | _ => True
def allOwnL (p : Key → Nat → Prop) : List AV → Prop
  | [] => True
  | v :: r => allOwn p v ∧ allOwnL p r
end

mutual
theorem allOwn_imp {p q : Key → Nat → Prop} (h : ∀ k ver, p k ver → q k ver) : ∀ x : AV, allOwn p x → allOwn q x
  | .own k ver _ _, hx => by simp only [allOwn] at hx ⊢; exact h k ver hx
  | .agg cs, hx => by simp only [allOwn] at hx ⊢; exact allOwnL_imp h cs hx
  | .tup cs, hx => by simp only [allOwn] at hx ⊢; exact allOwnL_imp h cs hx
  | .fn _ cs, hx => by simp only [allOwn] at hx ⊢; exact allOwnL_imp h cs hx
  | .iface _ v, hx => by simp only [allOwn] at hx ⊢; exact allOwn_imp h v hx
  | .bool _, _ | .int _ _, _ | .str _, _ | .sl _, _ | .zs _, _ | .rp _ _, _ | .ptr _ _ _ _, _ | .nilp, _ | .nilfn, _ | .map _ _, _ | .nilmap, _ | .nilif, _ | .junk, _ => by simp [allOwn]
theorem allOwnL_imp {p q : Key → Nat → Prop} (h : ∀ k ver, p k ver → q k ver) : ∀ l : List AV, allOwnL p l → allOwnL q l
  | [], _ => by simp [allOwnL]
  | v :: r, hx => by simp only [allOwnL] at hx ⊢; exact ⟨allOwn_imp h v hx.1, allOwnL_imp h r hx.2⟩
end

/-- A block whose cells lead to no block of the call's own. -/
def StillAt (H : Heap) (k : Key) (ver : Nat) : Prop := ∃ b, H.live k ver = some b ∧ b.still = true
/-- A block that is only read. -/
def Frozen (H : Heap) (k : Key) (_ : Nat) : Prop := ∃ b, (H k).2 = some b ∧ b.frz = true

mutual
theorem snap_own : ∀ (x y : AV), snap H x = some y → allOwn (StillAt H) x
  | .own k ver off len, y, h => by
    simp only [snap, frozen1] at h
    simp only [allOwn]
    split at h
    · rename_i b hb
      split at h
      · rename_i hst; exact ⟨b, hb, hst⟩
      · cases h
    · cases h
  | .agg cs, y, h => by
    simp only [snap] at h
    simp only [allOwn]
    split at h
    · rename_i l hl; exact snapL_own cs l hl
    · cases h
  | .tup cs, y, h => by
    simp only [snap] at h
    simp only [allOwn]
    split at h
    · rename_i l hl; exact snapL_own cs l hl
    · cases h
  | .fn _ cs, y, h => by
    simp only [snap] at h
    simp only [allOwn]
    split at h
    · rename_i l hl; exact snapL_own cs l hl
    · cases h
  | .iface _ v, y, h => by
    simp only [snap] at h
    simp only [allOwn]
    split at h
    · rename_i l hl; exact snap_own v l hl
    · cases h
  | .bool _, _, _ | .int _ _, _, _ | .str _, _, _ | .sl _, _, _ | .zs _, _, _ | .rp _ _, _, _ | .ptr _ _ _ _, _, _ | .nilp, _, _ | .nilfn, _, _ | .map _ _, _, _ | .nilmap, _, _ | .nilif, _, _ | .junk, _, _ => by simp [allOwn]
theorem snapL_own : ∀ (l m : List AV), snapL H l = some m → allOwnL (StillAt H) l
  | [], _, _ => by simp [allOwnL]
  | v :: r, m, h => by
    simp only [snapL] at h
    simp only [allOwnL]
    split at h
    · rename_i a b h1 h2; exact ⟨snap_own v a h1, snapL_own r b h2⟩
    · cases h
end

/-- K is H, some of whose blocks are only read from now on. -/
def Less (H K : Heap) : Prop := ∀ k, (K k).1 = (H k).1 ∧ ((K k).2 = (H k).2 ∨ ∃ b, (H k).2 = some b ∧ (K k).2 = some { b with frz := true })
theorem Less.refl (H : Heap) : Less H H := fun _ => ⟨rfl, .inl rfl⟩
theorem Less.trans {H K L : Heap} (h : Less H K) (g : Less K L) : Less H L := fun k => ⟨(g k).1.trans (h k).1, by
  rcases (g k).2 with e | ⟨b, e1, e2⟩
  · rw [e]; exact (h k).2
  · rcases (h k).2 with e | ⟨b', e3, e4⟩
    · exact .inr ⟨b, e ▸ e1, e2⟩
    · rw [e4] at e1
      obtain rfl := Option.some.inj e1
      exact .inr ⟨b', e3, e2⟩⟩

theorem freeze_some {H : Heap} {k : Key} {ver : Nat} {b : Blk} (h : H.live k ver = some b) : freeze H k ver = H.set k ((H k).1, some { b with frz := true }) := by
  unfold freeze; rw [h, (live_some h).1]
theorem freeze_none {H : Heap} {k : Key} {ver : Nat} (h : H.live k ver = none) : freeze H k ver = H := by
  unfold freeze; rw [h]

theorem freeze_less (H : Heap) (k : Key) (ver : Nat) : Less H (freeze H k ver) := by
  cases h : H.live k ver with
  | none => rw [freeze_none h]; exact .refl H
  | some b =>
    rw [freeze_some h]
    intro k'
    unfold Heap.set
    by_cases e : k' = k
    · rw [if_pos e]; exact ⟨by rw [e], .inr ⟨b, by rw [e]; exact (live_some h).2, rfl⟩⟩
    · rw [if_neg e]; exact ⟨rfl, .inl rfl⟩

theorem Less.still {H K : Heap} (h : Less H K) {k : Key} {ver : Nat} (g : StillAt H k ver) : StillAt K k ver := by
  obtain ⟨b, hb, hs⟩ := g
  obtain ⟨e1, e2⟩ := live_some hb
  rcases (h k).2 with e | ⟨b', e3, e4⟩
  · exact ⟨b, live_of ((h k).1.trans e1) (e.trans e2), hs⟩
  · obtain rfl := Option.some.inj (e2.symm.trans e3)
    exact ⟨_, live_of ((h k).1.trans e1) e4, hs⟩
theorem Less.frozen {H K : Heap} (h : Less H K) {k : Key} {ver : Nat} (g : Frozen H k ver) : Frozen K k ver := by
  obtain ⟨b, hb, hs⟩ := g
  rcases (h k).2 with e | ⟨b', e3, e4⟩
  · exact ⟨b, e.trans hb, hs⟩
  · exact ⟨_, e4, rfl⟩

mutual
theorem kill_less : ∀ (H : Heap) (x : AV), Less H (kill H x)
  | H, .own k ver _ _ => by simp only [kill]; exact freeze_less H k ver
  | H, .agg cs => by simp only [kill]; exact killL_less H cs
  | H, .tup cs => by simp only [kill]; exact killL_less H cs
  | H, .fn _ cs => by simp only [kill]; exact killL_less H cs
  | H, .iface _ v => by simp only [kill]; exact kill_less H v
  | H, .bool _ | H, .int _ _ | H, .str _ | H, .sl _ | H, .zs _ | H, .rp _ _ | H, .ptr _ _ _ _ | H, .nilp | H, .nilfn | H, .map _ _ | H, .nilmap | H, .nilif | H, .junk => by simp only [kill]; exact .refl H
theorem killL_less : ∀ (H : Heap) (l : List AV), Less H (killL H l)
  | H, [] => by simp only [killL]; exact .refl H
  | H, v :: r => by simp only [killL]; exact (kill_less H v).trans (killL_less _ r)
end

mutual
theorem kill_frz : ∀ (H : Heap) (x : AV), allOwn (StillAt H) x → allOwn (Frozen (kill H x)) x
  | H, .own k ver _ _, h => by
    simp only [allOwn] at h ⊢
    obtain ⟨b, hb, hs⟩ := h
    simp only [kill, freeze_some hb]
    exact ⟨{ b with frz := true }, by simp only [Heap.set, if_true], rfl⟩
  | H, .agg cs, h => by simp only [allOwn, kill] at h ⊢; exact killL_frz H cs h
  | H, .tup cs, h => by simp only [allOwn, kill] at h ⊢; exact killL_frz H cs h
  | H, .fn _ cs, h => by simp only [allOwn, kill] at h ⊢; exact killL_frz H cs h
  | H, .iface _ v, h => by simp only [allOwn, kill] at h ⊢; exact kill_frz H v h
  | H, .bool _, _ | H, .int _ _, _ | H, .str _, _ | H, .sl _, _ | H, .zs _, _ | H, .rp _ _, _ | H, .ptr _ _ _ _, _ | H, .nilp, _ | H, .nilfn, _ | H, .map _ _, _ | H, .nilmap, _ | H, .nilif, _ | H, .junk, _ => by simp [allOwn]
theorem killL_frz : ∀ (H : Heap) (l : List AV), allOwnL (StillAt H) l → allOwnL (Frozen (killL H l)) l
  | H, [], _ => by simp [allOwnL]
  | H, v :: r, h => by
    simp only [allOwnL, killL] at h ⊢
    exact ⟨allOwn_imp (fun k ver e => (killL_less (kill H v) r).frozen e) v (kill_frz H v h.1), killL_frz (kill H v) r (allOwnL_imp (fun k ver e => (kill_less H v).still e) r h.2)⟩
end

mutual
theorem kill_pure : ∀ (H : Heap) (x : AV), x.pure = true → kill H x = H
  | H, .agg cs, h => by simp only [AV.pure, kill] at h ⊢; exact killL_pure H cs h
  | H, .tup cs, h => by simp only [AV.pure, kill] at h ⊢; exact killL_pure H cs h
  | H, .fn _ cs, h => by simp only [AV.pure, kill] at h ⊢; exact killL_pure H cs h
  | H, .iface _ v, h => by simp only [AV.pure, kill] at h ⊢; exact kill_pure H v h
  | H, .own _ _ _ _, h => by simp [AV.pure] at h
  | H, .bool _, _ | H, .int _ _, _ | H, .str _, _ | H, .sl _, _ | H, .zs _, _ | H, .rp _ _, _ | H, .ptr _ _ _ _, _ | H, .nilp, _ | H, .nilfn, _ | H, .map _ _, _ | H, .nilmap, _ | H, .nilif, _ | H, .junk, _ => by simp [kill]
theorem killL_pure : ∀ (H : Heap) (l : List AV), AV.pureL l = true → killL H l = H
  | H, [], _ => by simp [killL]
  | H, v :: r, h => by
    simp only [AV.pureL, Bool.and_eq_true] at h
    simp only [killL]; rw [kill_pure H v h.1, killL_pure H r h.2]
end

mutual
theorem kill_SR : ∀ (H : Heap) (x : AV), SR X F B ι H w → SR X F B ι (kill H x) w ∧ Adv ι H w ι (kill H x) w
  | H, .own k ver _ _, h => by
    simp only [kill]
    cases hl : H.live k ver with
    | none => rw [freeze_none hl]; exact ⟨h, .refl _ _ _⟩
    | some b => rw [freeze_some hl]; exact h.freeze k (live_some hl).2
  | H, .agg cs, h => by simp only [kill]; exact killL_SR H cs h
  | H, .tup cs, h => by simp only [kill]; exact killL_SR H cs h
  | H, .fn _ cs, h => by simp only [kill]; exact killL_SR H cs h
  | H, .iface _ v, h => by simp only [kill]; exact kill_SR H v h
  | H, .bool _, h | H, .int _ _, h | H, .str _, h | H, .sl _, h | H, .zs _, h | H, .rp _ _, h | H, .ptr _ _ _ _, h | H, .nilp, h | H, .nilfn, h | H, .map _ _, h | H, .nilmap, h | H, .nilif, h | H, .junk, h => by
    simp only [kill]; exact ⟨h, .refl _ _ _⟩
theorem killL_SR : ∀ (H : Heap) (l : List AV), SR X F B ι H w → SR X F B ι (killL H l) w ∧ Adv ι H w ι (killL H l) w
  | H, [], h => by simp only [killL]; exact ⟨h, .refl _ _ _⟩
  | H, v :: r, h => by
    simp only [killL]
    obtain ⟨h1, a1⟩ := kill_SR H v h
    obtain ⟨h2, a2⟩ := killL_SR (kill H v) r h1
    exact ⟨h2, a1.trans a2⟩
end

theorem Less.bad {H K : Heap} (h : Less H K) {b : Nat} (hb : bad F ι K b) : Den.bad F ι H b := by
  rcases hb with hb | ⟨k, bl, hk, hf, e⟩
  · exact .inl hb
  · rcases (h k).2 with e' | ⟨b', e3, e4⟩
    · exact .inr ⟨k, bl, e' ▸ hk, hf, e⟩
    · rw [e4] at hk
      obtain rfl := Option.some.inj hk
      cases hf

mutual
/-- What a value is that is only read from now on. -/
theorem snap_vd {K : Heap} (hS : SR X F B ι H w) (hK : Less H K) : ∀ (x y : AV) (v : Value), snap H x = some y → allOwn (Frozen K) x → Rel (bad F ι H) ι H w x v → VD (bad F ι K) w y v
  | .own k ver off len, y, v, h, hk, hr => by
    simp only [snap, frozen1] at h
    simp only [allOwn] at hk
    split at h
    · rename_i b hb
      split at h
      · rename_i hst
        obtain rfl := Option.some.inj h
        cases hr with
        | still _ _ hv => cases hv
        | ownDead _ _ _ _ _ _ _ _ h2 => rw [h2] at hb; cases hb
        | own _ _ _ _ c b' hb' h0 h1 h2 h4 h3 =>
          obtain rfl : b' = b := Option.some.inj (hb'.symm.trans hb)
          have hlive := (live_some hb).2
          obtain ⟨cs, T, hB⟩ := hS.blk k b' hlive h0
          have hlen : ((b'.es.drop off).take len).length = len := by simp; omega
          have hidx : ∀ (i : Nat) (e : AV), ((b'.es.drop off).take len)[i]? = some e → b'.es[off + i]? = some e := by
            intro i e hi
            rw [List.getElem?_take] at hi
            split at hi
            · rw [List.getElem?_drop] at hi; exact hi
            · cases hi
          have hnb : ¬ bad F ι K (ι k).1 := by
            have hks : (H k).2.isSome = true := by rw [hlive]; rfl
            rintro (hb0 | ⟨k2, bl2, hk2, hf2, e⟩)
            · have := hS.fb _ hb0; have := hS.base k hks; omega
            · have hk2' : (H k2).2.isSome = true := by
                rcases (hK k2).2 with e' | ⟨b2, e3, _⟩
                · rw [← e', hk2]; rfl
                · rw [e3]; rfl
              obtain rfl := hS.inj k2 k hk2' hks e
              obtain ⟨b3, e3, e4⟩ := hk
              obtain rfl := Option.some.inj (hk2.symm.trans e3)
              rw [hf2] at e4; cases e4
          have := VD.sl (N := bad F ι K) (w := w) b'.sz ((b'.es.drop off).take len) (ι k).1 (off * b'.sz) c (fun i j => cs.getD ((off + i) * b'.sz + j) undef) (by rw [hlen]; exact h2)
            (fun e he => hB.es e (List.mem_of_mem_drop (List.mem_of_mem_take he)))
            (fun i e j c h1 h2 => by
              obtain ⟨v, hv, ho, _, hr⟩ := hB.cell (off + i) e j c (hidx i e h1) h2
              have e1 : cs.getD ((off + i) * b'.sz + j) undef = v := by simp [Array.getD_eq_getD_getElem?, hv]
              rw [e1]
              refine ⟨hnb, ?_, ho⟩
              rw [cell_of_row w (ι k).1 _ cs T (0, 0) hB.row]
              rw [show off * b'.sz + i * b'.sz + j = (off + i) * b'.sz + j by rw [Nat.add_mul]]
              exact hv)
            (fun i e j c h1 h2 => by
              obtain ⟨v, hv, ho, _, hr⟩ := hB.cell (off + i) e j c (hidx i e h1) h2
              have e1 : cs.getD ((off + i) * b'.sz + j) undef = v := by simp [Array.getD_eq_getD_getElem?, hv]
              rw [e1]
              exact (hr hst).mono (fun b0 _ hn => ⟨fun e => hn (hK.bad e), rfl⟩))
          rw [hlen] at this
          exact this
      · cases h
    · cases h
  | .agg cs, y, v, h, hk, hr => by
    simp only [snap] at h
    simp only [allOwn] at hk
    split at h
    · rename_i l hl
      obtain rfl := Option.some.inj h
      obtain ⟨vs, rfl, h1, h2, h3⟩ := rel_agg hr
      have := snapL_vd hS hK cs l vs hl hk (All2.of h1 h3)
      exact .agg l vs this.length h2 this.get
    · cases h
  | .tup cs, y, v, h, hk, hr => by
    simp only [snap] at h
    simp only [allOwn] at hk
    split at h
    · rename_i l hl
      obtain rfl := Option.some.inj h
      obtain ⟨vs, rfl, h1, h3⟩ := rel_tup hr
      have := snapL_vd hS hK cs l vs hl hk (All2.of h1 h3)
      exact .tup l vs this.length this.get
    · cases h
  | .fn f cs, y, v, h, hk, hr => by
    simp only [snap] at h
    simp only [allOwn] at hk
    split at h
    · rename_i l hl
      obtain rfl := Option.some.inj h
      obtain ⟨vs, rfl, h1, h3⟩ := rel_fn hr
      have := snapL_vd hS hK cs l vs hl hk (All2.of h1 h3)
      exact .fn f l vs this.length this.get
    · cases h
  | .iface t x, y, v, h, hk, hr => by
    simp only [snap] at h
    simp only [allOwn] at hk
    split at h
    · rename_i l hl
      obtain rfl := Option.some.inj h
      obtain ⟨u, rfl, h1⟩ := rel_iface hr
      exact .iface t l u (snap_vd hS hK x l u hl hk h1)
    · cases h
  | .ptr _ _ _ _, _, _, h, _, _ | .map _ _, _, _, h, _, _ => by simp [snap] at h
  | .junk, _, v, h, _, _ => by
    simp only [snap] at h
    obtain rfl := Option.some.inj h
    exact .junk v
  | .zs nl, _, v, h, _, hr => by
    simp only [snap] at h
    obtain rfl := Option.some.inj h
    obtain ⟨a, rfl, _⟩ := rel_zs hr
    exact .sl0 a 0 (fun _ => rfl)
  | .bool _, _, _, h, _, hr | .int _ _, _, _, h, _, hr | .str _, _, _, h, _, hr | .sl _, _, _, h, _, hr | .rp _ _, _, _, h, _, hr | .nilp, _, _, h, _, hr | .nilfn, _, _, h, _, hr
  | .nilmap, _, _, h, _, hr | .nilif, _, _, h, _, hr => by
    simp only [snap] at h
    obtain rfl := Option.some.inj h
    cases hr with
    | still _ _ hv => exact hv.mono (fun b0 _ hn => ⟨fun e => hn (hK.bad e), rfl⟩)
theorem snapL_vd {K : Heap} (hS : SR X F B ι H w) (hK : Less H K) : ∀ (l m : List AV) (vs : List Value), snapL H l = some m → allOwnL (Frozen K) l → All2 (Rel (bad F ι H) ι H w) l vs → All2 (VD (bad F ι K) w) m vs
  | [], m, vs, h, _, hr => by
    simp only [snapL] at h
    obtain rfl := Option.some.inj h
    cases hr; exact .nil
  | x :: r, m, vs, h, hk, hr => by
    simp only [snapL] at h
    simp only [allOwnL] at hk
    split at h
    · rename_i a b h1 h2
      obtain rfl := Option.some.inj h
      cases hr with
      | cons q1 q2 => exact .cons (snap_vd hS hK x a _ h1 hk.1 q1) (snapL_vd hS hK r b _ h2 hk.2 q2)
    · cases h
end

theorem flatL_get : ∀ {cs : List AV}, AV.flatL cs = true → ∀ (i : Nat) (c : AV), cs[i]? = some c → c.flat = true
  | [], _, i, c, h => by simp at h
  | v :: r, h, i, c, hi => by
    simp only [AV.flatL, Bool.and_eq_true] at h
    cases i with
    | zero => simp at hi; subst hi; exact h.1
    | succ i => simp at hi; exact flatL_get h.2 i c hi

theorem vd_flat {N' : Nat → Prop} {w' : World} {x : AV} {v : Value} (h : VD N w x v) (hf : x.flat = true) : VD N' w' x v := by
  induction h with
  | bool b => exact .bool b
  | int k n => exact .int k n
  | str s => exact .str s
  | nilp => exact .nilp
  | nilfn => exact .nilfn
  | nilmap => exact .nilmap
  | nilif => exact .nilif
  | agg cs vs hl h1 _ ih => exact .agg cs vs hl h1 (fun i c v a b => ih i c v a b (flatL_get (by simpa [AV.flat] using hf) i c a))
  | tup cs vs hl _ ih => exact .tup cs vs hl (fun i c v a b => ih i c v a b (flatL_get (by simpa [AV.flat] using hf) i c a))
  | iface t x v _ ih => exact .iface t x v (ih (by simpa [AV.flat] using hf))
  | zs => simp [AV.flat] at hf
  | sl0 => simp [AV.flat] at hf
  | junk v => exact .junk v
  | fn => simp [AV.flat] at hf
  | sl => simp [AV.flat] at hf
  | rp => simp [AV.flat] at hf

end Go.Den
