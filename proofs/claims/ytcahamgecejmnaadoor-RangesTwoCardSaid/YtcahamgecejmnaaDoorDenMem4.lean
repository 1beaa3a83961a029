/-
  Append. Its conditions: none.
-/
import Derived.Test.YtcahamgecejmnaaDoorDenMem3
namespace Go.Den
open Go

variable {P : Program} {X : Ctx} {F : Nat → Prop} {B : Nat} {ι : Pos} {H : Heap} {w : World} {N : Nat → Prop}

/-- What is known of an element's type. -/
structure ElT (P : Program) (e : TypeId) (sz by8 : Nat) (i : TypeInfo) (z : Value) : Prop where
  info : P.info? e = some i
  zero : i.zero = some z
  size : i.size = sz
  byt : i.bytes = by8
  zs : z.cells.size = sz
  pos : 0 < sz
  bpos : 0 < by8

theorem elT_of {e : TypeId} {sz bytes : Nat} {za : AV} (h1 : sizeT P e = some sz) (h2 : bytesT P e = some bytes) (h3 : zeroT P e = some za) (h4 : za.cells.length = sz) (hs : za.solid = true) (h5 : sz ≠ 0) (h6 : bytes ≠ 0) :
    ∃ i z, ElT P e sz bytes i z := by
  unfold sizeT at h1
  unfold bytesT at h2
  unfold zeroT at h3
  cases hi : P.info? e with
  | none => rw [hi] at h1; cases h1
  | some i =>
    rw [hi] at h1 h2 h3
    simp only at h1 h2 h3
    cases hz : i.zero with
    | none => rw [hz] at h3; cases h3
    | some z =>
      rw [hz] at h3
      simp only at h3
      have hv : Rel (fun _ => False) (fun _ => (0, 0)) Heap.none (default : World) za z := .still _ _ (constA_vd h3)
      have := (rel_cells hv hs).1
      exact ⟨i, z, hi, hz, Option.some.inj h1, Option.some.inj h2, by omega, by omega, by omega⟩

/-- The elements of a slice that is read, as the machine reads them. -/
def Src (N : Nat → Prop) (w : World) (sz : Nat) (ys : List AV) (v : Value) : Prop :=
  (∀ e ∈ ys, e.cells.length = sz) ∧
  ((ys = [] ∧ v = .slice none 0 0) ∨ ∃ (a : Addr) (c : Nat) (news : List Value), v = .slice (some a) ys.length c ∧ news.length = ys.length * sz ∧ (∀ (j : Nat) (u : Value), news[j]? = some u → w.cell? (a.add j) = some u) ∧ (∀ u ∈ news, one u) ∧
    ∀ (i : Nat) (e : AV) (j : Nat) (c : AV), ys[i]? = some e → e.cells[j]? = some c → ∃ u, news[i * sz + j]? = some u ∧ VD N w c u)

theorem src_of (hS : SR X F B ι H w) {sz : Nat} (hpos : 0 < sz) {y : AV} {v : Value} {ys : List AV} (hy : Rel (bad F ι H) ι H w y v) (h : elems H sz y = some ys) : Src (bad F ι H) w sz ys v := by
  have build : ∀ (b o cap : Nat) (vf : Nat → Nat → Value), (∀ e ∈ ys, e.cells.length = sz) →
      (∀ (i : Nat) (e : AV) (j : Nat) (c : AV), ys[i]? = some e → e.cells[j]? = some c → w.cell? ⟨b, o + i * sz + j, none⟩ = some (vf i j) ∧ one (vf i j) ∧ VD (bad F ι H) w c (vf i j)) →
      Src (bad F ι H) w sz ys (.slice (some ⟨b, o, none⟩) ys.length cap) := by
    intro b o cap vf hsz hc
    refine ⟨hsz, .inr ⟨⟨b, o, none⟩, cap, (List.range (ys.length * sz)).map (fun m => vf (m / sz) (m % sz)), rfl, by simp, ?_, ?_, ?_⟩⟩
    · intro m u hm
      simp only [List.getElem?_map] at hm
      by_cases hlt : m < ys.length * sz
      · simp [hlt] at hm
        subst hm
        have hi : m / sz < ys.length := Nat.div_lt_of_lt_mul (by rwa [Nat.mul_comm])
        have hj : m % sz < (ys[m / sz]).cells.length := by rw [hsz _ (List.getElem_mem hi)]; exact Nat.mod_lt _ hpos
        have := (hc (m / sz) _ (m % sz) _ (List.getElem?_eq_getElem hi) (List.getElem?_eq_getElem hj)).1
        rw [Addr.add_lit]
        rw [show o + m = o + m / sz * sz + m % sz by have := Nat.div_add_mod m sz; rw [Nat.mul_comm] at this; omega]
        exact this
      · simp [hlt] at hm
    · intro u hu
      obtain ⟨m, hm, rfl⟩ := List.mem_map.1 hu
      have hlt := List.mem_range.1 hm
      have hi : m / sz < ys.length := Nat.div_lt_of_lt_mul (by rwa [Nat.mul_comm])
      have hj : m % sz < (ys[m / sz]).cells.length := by rw [hsz _ (List.getElem_mem hi)]; exact Nat.mod_lt _ hpos
      exact (hc (m / sz) _ (m % sz) _ (List.getElem?_eq_getElem hi) (List.getElem?_eq_getElem hj)).2.1
    · intro i e j c he hj
      have hi : i < ys.length := (List.getElem?_eq_some_iff.1 he).1
      have hjl : j < sz := by rw [← hsz e (List.mem_of_getElem? he)]; exact (List.getElem?_eq_some_iff.1 hj).1
      refine ⟨vf i j, ?_, (hc i e j c he hj).2.2⟩
      have h1 : i * sz + j < ys.length * sz := by
        have : (i + 1) * sz ≤ ys.length * sz := Nat.mul_le_mul_right _ hi
        rw [Nat.add_mul] at this; omega
      have h2 : (i * sz + j) / sz = i := by rw [Nat.mul_comm i sz, Nat.mul_add_div hpos]; simp [Nat.div_eq_of_lt hjl]
      have h3 : (i * sz + j) % sz = j := by rw [Nat.mul_comm i sz, Nat.mul_add_mod]; exact Nat.mod_eq_of_lt hjl
      simp [h1, h2, h3]
  cases y with
  | sl l =>
    simp only [elems] at h
    split at h
    · rename_i hse
      obtain rfl := Option.some.inj h
      have hall : ∀ e ∈ l, e.cells.length = sz := by
        intro e he
        simp only [AV.sized, List.all_eq_true, beq_iff_eq] at hse
        exact hse e he
      cases hy with
      | still _ _ hv => cases hv with
        | sl0 a c hac => cases a with
          | none => obtain rfl := hac rfl; exact ⟨by simp, .inl ⟨rfl, rfl⟩⟩
          | some a => exact ⟨by simp, .inr ⟨a, c, [], rfl, by simp, by simp, by simp, by simp⟩⟩
        | sl sz' _ b o cap vf hc hsz hw hr =>
          by_cases hne : l = []
          · subst hne
            exact ⟨by simp, .inr ⟨_, cap, [], rfl, by simp, by simp, by simp, by simp⟩⟩
          obtain ⟨e0, he0⟩ := List.exists_mem_of_ne_nil l hne
          obtain rfl : sz' = sz := (hsz e0 he0).symm.trans (hall e0 he0)
          exact build b o cap vf hsz (fun i e j c h1 h2 => ⟨(hw i e j c h1 h2).2.1, (hw i e j c h1 h2).2.2, hr i e j c h1 h2⟩)
    · cases h
  | zs nl =>
    obtain rfl := Option.some.inj h
    obtain ⟨a, rfl, ha⟩ := rel_zs hy
    cases a with
    | none => exact ⟨by simp, .inl ⟨rfl, rfl⟩⟩
    | some a => exact ⟨by simp, .inr ⟨a, 0, [], rfl, by simp, by simp, by simp, by simp⟩⟩
  | own k ver off len =>
    simp only [elems] at h
    split at h
    · rename_i b hb
      split at h
      · rename_i hc
        obtain ⟨rfl, hst⟩ := hc
        obtain rfl := Option.some.inj h
        cases hy with
        | still _ _ hv => cases hv
        | ownDead _ _ _ _ _ _ _ _ h2 => rw [h2] at hb; cases hb
        | own _ _ _ _ cp b' hb' g0 g1 g2 g4 g3 =>
          obtain rfl : b' = b := Option.some.inj (hb'.symm.trans hb)
          obtain ⟨cs, T, hB⟩ := hS.blk k b' (live_some hb).2 g0
          have hlen : ((b'.es.drop off).take len).length = len := by simp; omega
          have hidx : ∀ (i : Nat) (e : AV), ((b'.es.drop off).take len)[i]? = some e → b'.es[off + i]? = some e := by
            intro i e hi
            rw [List.getElem?_take] at hi
            split at hi
            · rw [List.getElem?_drop] at hi; exact hi
            · cases hi
          have := build (ι k).1 (off * b'.sz) cp (fun i j => cs.getD ((off + i) * b'.sz + j) undef)
            (fun e he => hB.es e (List.mem_of_mem_drop (List.mem_of_mem_take he)))
            (fun i e j c h1 h2 => by
              obtain ⟨v, hv, ho, _, hr⟩ := hB.cell (off + i) e j c (hidx i e h1) h2
              have e1 : cs.getD ((off + i) * b'.sz + j) undef = v := by simp [Array.getD_eq_getD_getElem?, hv]
              rw [e1]
              refine ⟨?_, ho, hr hst⟩
              rw [cell_of_row w (ι k).1 _ cs T (0, 0) hB.row]
              rw [show off * b'.sz + i * b'.sz + j = (off + i) * b'.sz + j by rw [Nat.add_mul]]
              exact hv)
          rw [hlen] at this
          exact this
      · cases h
    · cases h
  | _ => cases h

theorem fits_info {n bytes : Nat} (hb : 0 < bytes) (h : n * bytes ≤ 140737488355328) : ((n : Nat) : Int) ≤ 9223372036854775807 := by
  have : n ≤ n * bytes := Nat.le_mul_of_pos_right n hb
  omega

/-- A row of the call's own that is made by append: the relation's cells. -/
theorem cells_append {sz : Nat} {es ys : List AV} {olds news rest : List Value} (hlo : olds.length = es.length * sz)
    (h1 : ∀ (i : Nat) (e : AV) (j : Nat) (c : AV), es[i]? = some e → e.cells[j]? = some c → ∃ v, olds[i * sz + j]? = some v ∧ one v ∧ VD N w c v)
    (hnews : ∀ u ∈ news, one u) (h2 : ∀ (i : Nat) (e : AV) (j : Nat) (c : AV), ys[i]? = some e → e.cells[j]? = some c → ∃ u, news[i * sz + j]? = some u ∧ VD N w c u) :
    ∀ (i : Nat) (e : AV) (j : Nat) (c : AV), (es ++ ys)[i]? = some e → e.cells[j]? = some c → ∃ v, (olds ++ news ++ rest)[i * sz + j]? = some v ∧ one v ∧ VD N w c v := by
  intro i e j c he hj
  rw [List.getElem?_append] at he
  split at he
  · rename_i hi
    obtain ⟨v, hv, ho, hr⟩ := h1 i e j c he hj
    refine ⟨v, ?_, ho, hr⟩
    have hlt := (List.getElem?_eq_some_iff.1 hv).1
    rw [List.append_assoc, List.getElem?_append_left hlt]; exact hv
  · rename_i hi
    obtain ⟨u, hu, hr⟩ := h2 (i - es.length) e j c he hj
    have hlt := (List.getElem?_eq_some_iff.1 hu).1
    have e1 : i * sz + j = olds.length + ((i - es.length) * sz + j) := by
      rw [hlo, ← Nat.add_assoc, ← Nat.add_mul]; congr 2; omega
    refine ⟨u, ?_, hnews u (List.mem_of_getElem? hu), hr⟩
    rw [e1, List.append_assoc, List.getElem?_append_right (by omega), Nat.add_sub_cancel_left, List.getElem?_append_left hlt]; exact hu

theorem run_append_none {t ty e : TypeId} {i : TypeInfo} (ht : P.underlying t = some (.slice e)) (hi : P.info? e = some i) (b : Option Addr) (n c : Nat) (hc : n ≤ c) (w : World) :
    (Builtin.append_ #[t, t] ty #[.slice b n c, .slice none 0 0]).run P w = .ok (.slice b n c) w := by
  cases b <;> simp [Builtin.append_, run_underlying ht, sizeOf, typeInfo, hi, Builtin.lenOf, hc, Builtin.firstCells, storeCells]

theorem run_append_in {t ty e : TypeId} {i : TypeInfo} (ht : P.underlying t = some (.slice e)) (hi : P.info? e = some i) (g o n c : Nat) (a : Addr) (m c' : Nat) (news : List Value) (hl : news.length = m * i.size)
    (hnews : ∀ j u, news[j]? = some u → w.cell? (a.add j) = some u) (hc : n + m ≤ c) {w' : World} (hrun : (storeCells ⟨g, o + n * i.size, none⟩ news 0).run P w = .ok () w') :
    (Builtin.append_ #[t, t] ty #[.slice (some ⟨g, o, none⟩) n c, .slice (some a) m c']).run P w = .ok (.slice (some ⟨g, o, none⟩) (n + m) c) w' := by
  have hf := run_firstCells_some (P := P) w i.size m a m c' news hl hnews
  simp [Builtin.append_, run_underlying ht, sizeOf, typeInfo, hi, Builtin.lenOf, hc, hf, Addr.add_lit, hrun]

theorem append_says {t ty e : TypeId} {sz bytes : Nat} {i : TypeInfo} {z : Value} (ht : P.underlying t = some (.slice e)) (hE : ElT P e sz bytes i z) {π : Key} {d : Nat} {x y r : AV} {v u : Value} {H' : Heap}
    (hS : SR X F B ι H w) (hx : Rel (bad F ι H) ι H w x v) (hy : Rel (bad F ι H) ι H w y u) (h : appendA π d sz bytes H x y = some (r, H')) :
    ∃ q w' ι', (Builtin.append_ #[t, t] ty #[v, u]).run P w = .ok q w' ∧ SR X F B ι' H' w' ∧ Adv ι H w ι' H' w' ∧ Rel (bad F ι' H') ι' H' w' r q := by
  have hsz := hE.size
  have hby := hE.byt
  have hpos := hE.pos
  have hbp := hE.bpos
  have hzs := hE.zs
  simp only [appendA] at h
  split at h
  · cases h
  · rename_i ys hys
    obtain ⟨hyl, hsrc⟩ := src_of hS hE.pos hy hys
    cases x with
    | zs nl =>
      obtain ⟨ad, rfl, had⟩ := rel_zs hx
      simp only at h
      split at h
      · rename_i h0
        obtain ⟨rfl, rfl⟩ := Prod.mk.inj (Option.some.inj h)
        obtain rfl : ys = [] := List.eq_nil_of_length_eq_zero h0
        refine ⟨_, w, ι, ?_, hS, .refl _ _ _, hx⟩
        rcases hsrc with ⟨_, rfl⟩ | ⟨a, c, news, rfl, hl, _, _, _⟩
        · exact run_append_none ht hE.info ad 0 0 (Nat.le_refl _) w
        · obtain rfl : news = [] := List.eq_nil_of_length_eq_zero (by simpa using hl)
          cases ad with
          | none => simp [Builtin.append_, run_underlying ht, sizeOf, typeInfo, hE.info, Builtin.lenOf, Builtin.firstCells, loadCells, loadCellsFrom]
          | some b => simp [Builtin.append_, run_underlying ht, sizeOf, typeInfo, hE.info, Builtin.lenOf, Builtin.firstCells, loadCells, loadCellsFrom, storeCells]
      · rename_i h0
        split at h
        · rename_i hroom
          obtain ⟨rfl, rfl⟩ := Prod.mk.inj (Option.some.inj h)
          simp only [room] at hroom
          rcases hsrc with ⟨rfl, _⟩ | ⟨a, c, news, rfl, hl, hnews, hone, hrel⟩
          · exact absurd rfl h0
          · have h63 := fits_info hbp hroom
            have hcap := grownCap_ge w ys.length 0 e
            have hrun : (Builtin.append_ #[t, t] ty #[.slice ad 0 0, .slice (some a) ys.length c]).run P w =
                .ok (.slice (some ⟨w.heap.size, 0, none⟩) ys.length (grownCap w ys.length 0 e)) (w.drew.alloc (.cells (news.toArray ++ Builtin.zeroCells z.cells (grownCap w ys.length 0 e - ys.length)) e)) := by
              cases ad with
              | none => exact run_append_nil w t ty e i z ht hE.info hE.zero a ys.length c news (by rw [hl, hsz]) hnews (by omega) h63 (by rw [hby]; omega)
              | some b =>
                have := run_append_grow (P := P) w t ty e i z ht hE.info hE.zero b 0 0 [] (by simp) (by simp) a ys.length c news (by rw [hl, hsz]) hnews (by omega) (by simpa using h63) (by
                  have := growslice_fits (need := ys.length) (old := 0) (bytes := bytes) (by omega) hroom
                  rw [hby]; simpa using this)
                simpa using this
            obtain ⟨hS', hA'⟩ := hS.put (d :: π) ((H (d :: π)).1 + 1) ⟨false, true, sz, ys⟩ (w.heap.size, (news.toArray ++ Builtin.zeroCells z.cells (grownCap w ys.length 0 e - ys.length)).size)
              (w.drew.alloc (.cells (news.toArray ++ Builtin.zeroCells z.cells (grownCap w ys.length 0 e - ys.length)) e)) _ e (.inl (Nat.lt_succ_self _)) (.inr (Nat.le_refl _)) rfl rfl rfl (by simp) (Nat.pos_iff_ne_zero.1 hpos)
              (fun b hb _ => heap_alloc_old w.drew _ b hb) (heap_alloc_new w.drew _) rfl (by simp [hl]) hyl
              (fun i0 e0 j0 c0 h1 h2 => by
                have := cells_append (N := bad F ι H) (w := w) (es := []) (ys := ys) (olds := []) (news := news) (rest := (Builtin.zeroCells z.cells (grownCap w ys.length 0 e - ys.length)).toList) (sz := sz) (by simp) (by simp) hone hrel i0 e0 j0 c0 (by simpa using h1) h2
                obtain ⟨v, hv, ho, hr⟩ := this
                refine ⟨v, ?_, ho, .still _ _ hr, fun _ => hr⟩
                have e1 : (news.toArray ++ Builtin.zeroCells z.cells (grownCap w ys.length 0 e - ys.length))[i0 * sz + j0]? = ([] ++ news ++ (Builtin.zeroCells z.cells (grownCap w ys.length 0 e - ys.length)).toList)[i0 * sz + j0]? := by
                  rw [← Array.getElem?_toList]; simp
                exact e1.trans hv)
            refine ⟨_, _, _, hrun, hS', hA', ?_⟩
            have hlive : (fresh H (d :: π) ⟨false, true, sz, ys⟩).live (d :: π) ((H (d :: π)).1 + 1) = some ⟨false, true, sz, ys⟩ := by simp [fresh, Heap.live, Heap.set]
            have := Rel.own (N := bad F (ι.set (d :: π) (w.heap.size, (news.toArray ++ Builtin.zeroCells z.cells (grownCap w ys.length 0 e - ys.length)).size)) (fresh H (d :: π) ⟨false, true, sz, ys⟩))
              (ι := ι.set (d :: π) (w.heap.size, (news.toArray ++ Builtin.zeroCells z.cells (grownCap w ys.length 0 e - ys.length)).size)) (H := fresh H (d :: π) ⟨false, true, sz, ys⟩)
              (w := w.drew.alloc (.cells (news.toArray ++ Builtin.zeroCells z.cells (grownCap w ys.length 0 e - ys.length)) e)) (d :: π) ((H (d :: π)).1 + 1) 0 ys.length (grownCap w ys.length 0 e) ⟨false, true, sz, ys⟩ hlive (Nat.pos_iff_ne_zero.1 hpos) (by simp) hcap (by simpa using hcap)
              (by simp only [Pos.set, if_true, Nat.zero_add, Array.size_append, List.size_toArray, size_zeroCells, hl, hzs, ← Nat.add_mul]; rw [Nat.add_sub_cancel' hcap]; exact Nat.le_refl _)
            simpa [Pos.set] using this
        · cases h
    | own k ver off len =>
      simp only at h
      split at h
      · rename_i b hb
        split at h
        · rename_i hc
          obtain ⟨hfz, hst, hbs, rfl, rfl, hroom⟩ := hc
          obtain ⟨rfl, rfl⟩ := Prod.mk.inj (Option.some.inj h)
          simp only [room] at hroom
          obtain ⟨hver, hb2⟩ := live_some hb
          cases hx with
          | still _ _ hv => cases hv
          | ownDead _ _ _ _ _ _ _ _ h2 => rw [h2] at hb; cases hb
          | own _ _ _ _ cp b' hb' g0 g1 g2 g4 g3 =>
            obtain rfl : b' = b := Option.some.inj (hb'.symm.trans hb)
            obtain ⟨cs, T, hB⟩ := hS.blk k b' hb2 g0
            have h63 := fits_info hbp hroom
            -- the row as it was
            have holds : ∀ (i0 : Nat) (e0 : AV) (j0 : Nat) (c0 : AV), b'.es[i0]? = some e0 → e0.cells[j0]? = some c0 → ∃ v, cs[i0 * sz + j0]? = some v ∧ one v ∧ VD (bad F ι H) w c0 v := by
              intro i0 e0 j0 c0 h1 h2
              obtain ⟨v, hv, ho, _, hr⟩ := hB.cell i0 e0 j0 c0 h1 h2
              rw [hbs] at hv
              exact ⟨v, hv, ho, hr hst⟩
            have hcsz : b'.es.length * sz ≤ cs.size := by have := hB.room; rw [hbs] at this; rw [hB.size]; exact this
            have finish : ∀ (p : Nat × Nat) (w' : World) (cs' : Array Value) (T' : TypeId) (c' : Nat), (p.1 = (ι k).1 ∨ w.heap.size ≤ p.1) → w'.os = w.os → w'.tape = w.tape → w'.output = w.output → w.heap.size ≤ w'.heap.size →
                (∀ b0, b0 < w.heap.size → b0 ≠ p.1 → w'.heap[b0]? = w.heap[b0]?) → w'.heap[p.1]? = some (.cells cs' T' (0, 0)) → cs'.size = p.2 → b'.es.length + ys.length ≤ c' → c' * sz ≤ p.2 →
                (∀ (i0 : Nat) (e0 : AV) (j0 : Nat) (c0 : AV), (b'.es ++ ys)[i0]? = some e0 → e0.cells[j0]? = some c0 → ∃ v, cs'[i0 * sz + j0]? = some v ∧ one v ∧ VD (bad F ι H) w c0 v) →
                SR X F B (ι.set k p) (H.set k (ver + 1, some { b' with es := b'.es ++ ys })) w' ∧ Adv ι H w (ι.set k p) (H.set k (ver + 1, some { b' with es := b'.es ++ ys })) w' ∧
                Rel (bad F (ι.set k p) (H.set k (ver + 1, some { b' with es := b'.es ++ ys }))) (ι.set k p) (H.set k (ver + 1, some { b' with es := b'.es ++ ys })) w' (.own k (ver + 1) 0 (b'.es.length + ys.length))
                  (.slice (some ⟨p.1, 0, none⟩) (b'.es.length + ys.length) c') := by
              intro p w' cs' T' c' hp e1 e2 e3 e4 hkeep hrow hcs hc1 hc2 hcell
              obtain ⟨hS', hA'⟩ := hS.put k (ver + 1) { b' with es := b'.es ++ ys } p w' cs' T' (.inl (by omega)) (hp.imp (fun h => ⟨b', hb2, hfz, h⟩) id) e1 e2 e3 e4 g0 hkeep hrow hcs
                (by
                  have : (b'.es.length + ys.length) * sz ≤ c' * sz := Nat.mul_le_mul_right _ hc1
                  simp only [List.length_append, hbs]; omega)
                (fun e0 he0 => by
                  rcases List.mem_append.1 he0 with h1 | h1
                  · exact hB.es e0 h1
                  · rw [hbs]; exact hyl e0 h1)
                (fun i0 e0 j0 c0 h1 h2 => by
                  obtain ⟨v, hv, ho, hr⟩ := hcell i0 e0 j0 c0 h1 h2
                  refine ⟨v, ?_, ho, .still _ _ hr, fun _ => hr⟩
                  simp only [hbs]; exact hv)
              refine ⟨hS', hA', ?_⟩
              have hlive : (H.set k (ver + 1, some { b' with es := b'.es ++ ys })).live k (ver + 1) = some { b' with es := b'.es ++ ys } := by simp [Heap.live, Heap.set]
              have := Rel.own (N := bad F (ι.set k p) (H.set k (ver + 1, some { b' with es := b'.es ++ ys }))) (ι := ι.set k p) (H := H.set k (ver + 1, some { b' with es := b'.es ++ ys })) (w := w') k (ver + 1) 0 (b'.es.length + ys.length) c'
                { b' with es := b'.es ++ ys } hlive g0 (by simp) hc1 (by simpa using hc1) (by simp only [Pos.set, if_true, Nat.zero_add, hbs]; exact hc2)
              simpa [Pos.set] using this
            have h0a : (some (⟨(ι k).1, 0 * b'.sz, none⟩ : Addr)) = some ⟨(ι k).1, 0, none⟩ := by simp
            rw [h0a]
            rcases hsrc with ⟨rfl, rfl⟩ | ⟨a, c, news, rfl, hl, hnews, hone, hrel⟩
            · obtain ⟨q1, q2, q3⟩ := finish (ι k) w cs T cp (.inl rfl) rfl rfl rfl (Nat.le_refl _) (fun _ _ _ => rfl) hB.row hB.size (by simpa using g2) (by simpa [hbs] using g3) (by simpa using holds)
              exact ⟨_, w, _, run_append_none ht hE.info _ _ _ g2 w, q1, q2, by simpa using q3⟩
            · by_cases hfit : b'.es.length + ys.length ≤ cp
              · have hlen : 0 + b'.es.length * i.size + 0 + news.length ≤ cs.size := by
                  rw [hl, hsz, hB.size]
                  have : (b'.es.length + ys.length) * sz ≤ cp * sz := Nat.mul_le_mul_right _ hfit
                  rw [hbs] at g3
                  rw [Nat.add_mul] at this; simp only [Nat.zero_add] at g3 ⊢; omega
                obtain ⟨w', cs', hrun, hst'⟩ := run_storeCells (P := P) (ι k).1 T news w cs (0 + b'.es.length * i.size) 0 hB.row hone hlen
                obtain ⟨q1, q2, q3⟩ := finish (ι k) w' cs' T cp (.inl rfl) hst'.os hst'.tape hst'.output (Nat.le_of_eq hst'.size.symm) (fun b0 _ hne => hst'.keep b0 hne) hst'.row (hst'.n.trans hB.size) hfit (by simpa [hbs] using g3)
                  (fun i0 e0 j0 c0 h1 h2 => by
                    have := cells_append (N := bad F ι H) (w := w) (es := b'.es) (ys := ys) (olds := cs.toList.take (b'.es.length * sz)) (news := news) (rest := []) (sz := sz) (by simp; omega)
                      (fun i e j c g1 g2 => by
                        obtain ⟨v, hv, ho, hr⟩ := holds i e j c g1 g2
                        refine ⟨v, ?_, ho, hr⟩
                        have hi := (List.getElem?_eq_some_iff.1 g1).1
                        have hj : j < sz := by rw [← hbs, ← hB.es e (List.mem_of_getElem? g1)]; exact (List.getElem?_eq_some_iff.1 g2).1
                        have : (i + 1) * sz ≤ b'.es.length * sz := Nat.mul_le_mul_right _ hi
                        rw [Nat.add_mul] at this
                        rw [List.getElem?_take, if_pos (by omega)]; simpa using hv) hone hrel i0 e0 j0 c0 h1 h2
                    obtain ⟨v, hv, ho, hr⟩ := this
                    refine ⟨v, ?_, ho, hr⟩
                    rw [hst'.cell]
                    rw [List.append_nil, List.getElem?_append] at hv
                    have l1 : (cs.toList.take (b'.es.length * sz)).length = b'.es.length * sz := by simp; omega
                    rw [l1] at hv
                    simp only [hsz, Nat.zero_add, Nat.add_zero]
                    split at hv
                    · rename_i hlt
                      rw [if_neg (by omega)]
                      rw [List.getElem?_take, if_pos hlt] at hv
                      simpa using hv
                    · rename_i hge
                      have := (List.getElem?_eq_some_iff.1 hv).1
                      rw [if_pos (by omega)]; exact hv)
                refine ⟨_, w', _, ?_, q1, q2, q3⟩
                exact run_append_in ht hE.info (ι k).1 0 b'.es.length cp a ys.length c news (by rw [hl, hsz]) hnews hfit hrun
              · have hcap := grownCap_ge w (b'.es.length + ys.length) cp e
                have hrun := run_append_grow (P := P) w t ty e i z ht hE.info hE.zero ⟨(ι k).1, 0, none⟩ b'.es.length cp (cs.toList.take (b'.es.length * sz)) (by simp [hsz]; omega)
                  (fun j u hj => by
                    rw [Addr.add_lit, Nat.zero_add, cell_of_row w (ι k).1 j cs T (0, 0) hB.row]
                    rw [List.getElem?_take] at hj
                    split at hj
                    · simpa using hj
                    · cases hj) a ys.length c news (by rw [hl, hsz]) hnews (by omega) (by simpa using h63) (by rw [hby]; exact growslice_fits (by omega) hroom)
                obtain ⟨q1, q2, q3⟩ := finish (w.heap.size, ((cs.toList.take (b'.es.length * sz)).toArray ++ news.toArray ++ Builtin.zeroCells z.cells (grownCap w (b'.es.length + ys.length) cp e - (b'.es.length + ys.length))).size) (w.drew.alloc (.cells ((cs.toList.take (b'.es.length * sz)).toArray ++ news.toArray ++ Builtin.zeroCells z.cells (grownCap w (b'.es.length + ys.length) cp e - (b'.es.length + ys.length))) e)) ((cs.toList.take (b'.es.length * sz)).toArray ++ news.toArray ++ Builtin.zeroCells z.cells (grownCap w (b'.es.length + ys.length) cp e - (b'.es.length + ys.length))) e (grownCap w (b'.es.length + ys.length) cp e) (.inr (Nat.le_refl _)) rfl rfl rfl (by simp) (fun b hb _ => heap_alloc_old w.drew _ b hb)
                  (heap_alloc_new w.drew _) rfl hcap
                  (by
                    have l1 : (cs.toList.take (b'.es.length * sz)).length = b'.es.length * sz := by simp; omega
                    simp only [Array.size_append, List.size_toArray, size_zeroCells, l1, hl, hzs, ← Nat.add_mul]
                    rw [Nat.add_sub_cancel' hcap]; exact Nat.le_refl _)
                  (fun i0 e0 j0 c0 h1 h2 => by
                    have := cells_append (N := bad F ι H) (w := w) (es := b'.es) (ys := ys) (olds := cs.toList.take (b'.es.length * sz)) (news := news) (rest := (Builtin.zeroCells z.cells (grownCap w (b'.es.length + ys.length) cp e - (b'.es.length + ys.length))).toList) (sz := sz) (by simp; omega)
                      (fun i e j c g1 g2 => by
                        obtain ⟨v, hv, ho, hr⟩ := holds i e j c g1 g2
                        refine ⟨v, ?_, ho, hr⟩
                        have hi := (List.getElem?_eq_some_iff.1 g1).1
                        have hj : j < sz := by rw [← hbs, ← hB.es e (List.mem_of_getElem? g1)]; exact (List.getElem?_eq_some_iff.1 g2).1
                        have : (i + 1) * sz ≤ b'.es.length * sz := Nat.mul_le_mul_right _ hi
                        rw [Nat.add_mul] at this
                        rw [List.getElem?_take, if_pos (by omega)]; simpa using hv) hone hrel i0 e0 j0 c0 h1 h2
                    obtain ⟨v, hv, ho, hr⟩ := this
                    refine ⟨v, ?_, ho, hr⟩
                    rw [← Array.getElem?_toList]
                    simpa using hv)
                exact ⟨_, _, _, hrun, q1, q2, q3⟩
        · cases h
      · cases h
    | _ => cases h

end Go.Den
