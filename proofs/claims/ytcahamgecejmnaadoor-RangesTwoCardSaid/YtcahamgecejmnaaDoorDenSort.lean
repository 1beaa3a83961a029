/-
  slices.SortFunc at structs as an operation of the reading: what the shelf's contract says, told over the reading's blocks. Its conditions: the library's sort is laid over the program, and what the comparison says.
-/
import Derived.Test.YtcahamgecejmnaaDoorDenSound
import Derived.Shelf.SlSortCmp.NoneTotal
namespace Go.Den
open Go

/-! ### the order, by lists -/
section
variable {β : Type} [Inhabited β] (lt : β → β → Bool)
def outF (a : Nat) : Nat → Nat → Array β → Array β
  | 0, _, d => d
  | n + 1, i, d => outF a n (i + 1) (Go.Sort.insInner lt a i d)
theorem outF_eq (a b : Nat) : ∀ (n i : Nat) (d : Array β), b - i = n → Go.Sort.insOuter lt a b i d = outF lt a n i d
  | 0, i, d, h => by
    rw [Go.Sort.insOuter, if_neg (by omega)]; rfl
  | n + 1, i, d, h => by
    rw [Go.Sort.insOuter, if_pos (by omega), outF_eq a b n (i + 1) _ (by omega)]; rfl
def srt (l : List β) : List β :=
  if l.length ≤ 12 then (outF lt 0 (l.length - 1) 1 l.toArray).toList else (Go.Sort.pdq lt l.toArray 0 l.length (Go.Lib.bitLen l.length) true true).toList
theorem srt_eq (l : List β) : srt lt l = (Go.Sort.pdq lt l.toArray 0 l.length (Go.Lib.bitLen l.length) true true).toList := by
  unfold srt
  split
  · rename_i h
    have e : Go.Sort.pdq lt l.toArray 0 l.length (Go.Lib.bitLen l.length) true true = Go.Sort.insertionSort lt l.toArray 0 l.length := by
      unfold Go.Sort.pdq
      rw [if_pos (by omega)]
    rw [e, Go.Sort.insertionSort, outF_eq lt 0 l.length (l.length - 1) 1 l.toArray rfl]
  · rfl
variable {lt}
theorem srt_both (hO : Go.Sort.SWO lt) (l : List β) : Go.Sort.PermIn 0 l.toArray.size l.toArray (Go.Sort.pdq lt l.toArray 0 l.length (Go.Lib.bitLen l.length) true true) ∧ Go.Sort.SortedIn lt 0 l.length (Go.Sort.pdq lt l.toArray 0 l.length (Go.Lib.bitLen l.length) true true) := by
  have := Go.Sort.pdq_sorts lt hO l.toArray 0 l.length (Go.Lib.bitLen l.length) true true (Nat.zero_le _) (by simp) (Or.inl rfl)
  exact ⟨by simpa using this.1, this.2⟩
theorem srt_perm (hO : Go.Sort.SWO lt) (l : List β) : (srt lt l).Perm l := by
  rw [srt_eq]
  obtain ⟨h1, _, h3⟩ := (srt_both hO l).1
  simp only [List.size_toArray] at h1 h3
  have e1 : ∀ a : Array β, a.size = l.length → (a.extract 0 l.length) = a := fun a ha => by rw [← ha]; simp
  rw [e1 _ h1, e1 l.toArray (by simp)] at h3
  simpa using h3
theorem srt_length (hO : Go.Sort.SWO lt) (l : List β) : (srt lt l).length = l.length := (srt_perm hO l).length_eq
theorem srt_sorted (hO : Go.Sort.SWO lt) (l : List β) : (srt lt l).Pairwise fun a b => lt b a = false := by
  have hl := srt_length hO l
  rw [List.pairwise_iff_getElem]
  intro i j hi hj hij
  have h := (srt_both hO l).2 i j (Nat.zero_le _) hij (by omega)
  rw [srt_eq] at hi hj
  simp only [srt_eq]
  simp only [Array.length_toList] at hi hj
  rw [getElem!_pos _ j hj, getElem!_pos _ i hi] at h
  simpa using h
end

/-! ### the operation -/
def decL {β : Type} (dec : AV → Option β) : List AV → Option (List β)
  | [] => some []
  | x :: r => match dec x, decL dec r with
    | some y, some ys => some (y :: ys)
    | _, _ => none
theorem decL_map {β : Type} {dec : AV → Option β} {encA : β → AV} (hd : ∀ a b, dec a = some b → a = encA b) : ∀ {es : List AV} {l : List β}, decL dec es = some l → es = l.map encA
  | [], l, h => by obtain rfl := Option.some.inj h; rfl
  | x :: r, l, h => by
    simp only [decL] at h
    split at h
    · rename_i y ys h1 h2
      obtain rfl := Option.some.inj h
      rw [hd x y h1, decL_map hd h2]; rfl
    · cases h
theorem decL_enc {β : Type} {dec : AV → Option β} {encA : β → AV} (hd : ∀ b, dec (encA b) = some b) : ∀ (l : List β), decL dec (l.map encA) = some l
  | [] => rfl
  | x :: r => by simp only [List.map_cons, decL, hd, decL_enc hd r]

def sortW {β : Type} (sz g : Nat) (dec : AV → Option β) (encA : β → AV) (sr : List β → List β) : List AV → Heap → Option (AV × Heap)
  | [.zs _, .fn g' []], H => if g' = g then some (.tup [], H) else none
  | [.own k ver off len, .fn g' []], H => if g' = g ∧ off = 0 then (match H.live k ver with
    | some b => if b.frz = false ∧ b.still = true ∧ b.sz = sz ∧ len = b.es.length ∧ len < 4611686018427387904 then (match decL dec b.es with
      | some l => some (.tup [], H.set k (ver, some ⟨false, true, b.sz, (sr l).map encA⟩))
      | none => none) else none
    | none => none) else none
  | _, _ => none

variable {P : Program} {X : Ctx} {F : Nat → Prop} {B : Nat} {ι : Pos} {H : Heap} {w : World} {N : Nat → Prop}

theorem rel_fn0 {g : Nat} {v : Value} (h : Rel N ι H w (.fn g []) v) : v = .func (.func g) #[] #[] := by
  have nil : ∀ (vs : List Value), ([] : List AV).length = vs.length → vs = [] := fun vs h => by cases vs with | nil => rfl | cons _ _ => simp at h
  cases h with
  | still _ _ h => cases h with
    | fn _ _ vs hl _ => rw [nil vs hl]
  | fn _ _ vs hl _ => rw [nil vs hl]

theorem all2_two {α β : Type} {R : α → β → Prop} {a b : α} {vs : List β} (h : All2 R [a, b] vs) : ∃ x y, vs = [x, y] ∧ R a x ∧ R b y := by
  cases h with
  | cons h1 t => cases t with
    | cons h2 t => cases t; exact ⟨_, _, rfl, h1, h2⟩

set_option maxHeartbeats 2000000 in
theorem sort_ok {ρ : Go.Shelf.Ren} {β : Type} [Inhabited β] (L : Go.Proofs.SlLaysF0.n6 P ρ) (k : Nat) (hk0 : k ≠ 0) (aE : ∀ w, (isAgg (ρ.t 24)).run P w = .ok true w) (zE : ∀ w, (Go.sizeOf (ρ.t 24)).run P w = .ok k w)
    (encA : β → AV) (dec : AV → Option β) (hd : ∀ a b, dec a = some b → a = encA b) (encV : β → List Value) (hk : ∀ x, (encV x).length = k) (h1 : ∀ x, ∀ v ∈ encV x, v.oneCell' = true)
    (hlen : ∀ x, (encA x).cells.length = k) (hvd : ∀ (N : Nat → Prop) w x (j : Nat) c v, (encA x).cells[j]? = some c → VD N w c v → (encV x)[j]? = some v)
    (hdv : ∀ (N : Nat → Prop) w x (j : Nat) c v, (encA x).cells[j]? = some c → (encV x)[j]? = some v → VD N w c v)
    (cf : β → β → Int) (hO : Go.Sort.SWO (Go.Proofs.ltOf cf)) (g : Nat) (eg : ∀ args w, (callFunc g args).run P w = .ok (.enter g args) w)
    (hcmp : ∀ x y W, Calls P g #[.agg (encV x).toArray, .agg (encV y).toArray] W fun e w' => e = .returned (.int .i64 (cf x y)) ∧ ∃ q os', w' = Go.Sort.grow (W.drewN q) os')
    {args : List AV} {r : AV} {H' : Heap} (hq : sortW k g dec encA (srt (Go.Proofs.ltOf cf)) args H = some (r, H')) (vs : List Value) (hS : SR X F B ι H w) (ha : All2 (Rel (bad F ι H) ι H w) args vs) :
    Calls P (ρ.f 6) vs.toArray w (Post X F B ι H w r H') := by
  unfold sortW at hq
  split at hq
  · split at hq
    · rename_i nl g' hg
      obtain ⟨rfl, rfl⟩ := Prod.mk.inj (Option.some.inj hq)
      obtain ⟨x, y, rfl, hx, hy⟩ := all2_two ha
      obtain rfl := rel_fn0 hy
      obtain ⟨a, rfl⟩ : ∃ a, x = .slice a 0 0 := by
        cases hx with
        | still _ _ h => cases h with
          | zs _ a _ => exact ⟨a, rfl⟩
      refine (Go.Proofs.AnyF.slices_SortFunc_none L a 0 (.func (.func g') #[] #[]) w).mono ?_
      rintro e w' ⟨rfl, rfl⟩
      exact ⟨.tuple #[], ι, rfl, hS, .refl _ _ _, .still _ _ (VD.tup [] [] rfl (fun i c v h => by simp at h))⟩
    · cases hq
  · rename_i key ver off len g'
    split at hq
    · rename_i hg
      obtain ⟨rfl, rfl⟩ := hg
      split at hq
      · rename_i b hb
        split at hq
        · rename_i hc
          obtain ⟨hf, hst, hsz, hln, hbig⟩ := hc
          split at hq
          · rename_i l hl
            obtain ⟨rfl, rfl⟩ := Prod.mk.inj (Option.some.inj hq)
            obtain ⟨x, y, rfl, hx, hy⟩ := all2_two ha
            obtain rfl := rel_fn0 hy
            have hes := decL_map hd hl
            have hbz : b.sz ≠ 0 := by rw [hsz]; exact hk0
            obtain ⟨hv1, hv2⟩ := live_some hb
            obtain ⟨c, rfl⟩ : ∃ c, x = .slice (some ⟨(ι key).1, 0, none⟩) len c := by
              cases hx with
              | still _ _ h => cases h
              | own _ _ _ _ c b' hb' _ _ _ _ _ => exact ⟨c, by simp⟩
              | ownDead _ _ _ _ _ _ _ _ h' => rw [hb] at h'; cases h'
            obtain ⟨cs, T, hB⟩ := hS.blk key b hv2 hbz
            have hll : l.length = len := by rw [hln, hes]; simp
            have hlt : (ι key).1 < w.heap.size := hS.lt (by rw [hv2]; rfl)
            -- the row's cells
            have hcell : ∀ (i j : Nat), i < l.length → j < k → cs[i * k + j]? = (encV l[i]!)[j]? := by
              intro i j hi hj
              have he : b.es[i]? = some (encA l[i]!) := by
                rw [hes, List.getElem?_map, List.getElem?_eq_getElem hi, getElem!_pos l i hi]; rfl
              have hj' : j < (encA l[i]!).cells.length := by rw [hlen]; exact hj
              obtain ⟨v, hv, _, _, hs⟩ := hB.cell i (encA l[i]!) j _ he (List.getElem?_eq_getElem hj')
              rw [hsz] at hv
              rw [hv, hvd _ _ _ j _ v (List.getElem?_eq_getElem hj') (hs hst)]
            have hH : Go.Sort.HoldsK encV k w (ι key).1 0 l.toArray := by
              intro t ht
              rw [Go.Sort.size_flatK] at ht
              rw [Go.Sort.get_flatK encV k l.toArray t ht]
              have ht' : t < l.length * k := by simpa using ht
              have hdiv : t / k < l.length := Nat.div_lt_of_lt_mul (by rw [Nat.mul_comm]; exact ht')
              have hmod : t % k < k := Nat.mod_lt _ (by omega)
              have e1 : t / k * k + t % k = t := by rw [Nat.mul_comm]; exact Nat.div_add_mod t k
              have e2 := hcell (t / k) (t % k) hdiv hmod
              rw [e1] at e2
              have e3 : (encV l[t / k]!)[t % k]? = some (encV l[t / k]!)[t % k]! := by
                have hm : t % k < (encV l[t / k]!).length := by rw [hk]; exact hmod
                rw [getElem!_pos (encV l[t / k]!) (t % k) hm]
                exact List.getElem?_eq_getElem hm
              have e4 : l.toArray[t / k]! = l[t / k]! := by simp
              rw [e4]
              refine ⟨?_, ?_⟩
              · simp only [World.cell?, hB.row, Nat.zero_add, id]
                rw [e2, e3]; rfl
              · simp only [World.frozen?, hB.row, Nat.zero_add]
                simp
            have hsize : l.toArray.size < 4611686018427387904 := by simp [hll]; exact hbig
            have main := Go.Proofs.AnyQ.slices_SortFunc_eq L k aE zE encV hk h1 cf hO g' #[] (ι key).1 0 c l.toArray w eg
              (fun _ _ _ _ x y => by simpa using hcmp x y _) hH hlt hsize
            have hsz2 : l.toArray.size = len := by simp [hll]
            rw [hsz2] at main
            refine main.mono ?_
            rintro e w' ⟨rfl, n, os, rfl⟩
            rw [← hll] at *
            have hsr := srt_eq (Go.Proofs.ltOf cf) l
            have hsl : (srt (Go.Proofs.ltOf cf) l).length = l.length := srt_length hO l
            generalize hd' : Go.Sort.pdq (Go.Proofs.ltOf cf) l.toArray 0 l.length (Go.Lib.bitLen l.length) true true = d' at *
            have hds : d'.size = l.length := by rw [← hsl, hsr]; simp
            -- the row behind it
            have hrow : (Go.Proofs.sortWorldK encV k w (ι key).1 0 n d' os).heap[(ι key).1]? = some (.cells (Go.Sort.putCells id 0 (Go.Sort.flatK encV k d') cs) T (0, 0)) := by
              simp only [Go.Proofs.sortWorldK, Go.Sort.grow, Go.Sort.putRowK, Go.Sort.putRow, Go.Sort.mapBlock, Go.Sort.ahead]
              rw [Array.getElem?_append_left (by simpa using hlt), Array.getElem?_modify, if_pos rfl, hB.row]
              rfl
            have hget : ∀ (i j : Nat), i < d'.size → j < k → (Go.Sort.putCells id 0 (Go.Sort.flatK encV k d') cs)[i * k + j]? = (encV d'[i]!)[j]? := by
              intro i j hi hj
              have hlt2 : i * k + j < d'.size * k := by
                have := Nat.mul_le_mul_right k (show i + 1 ≤ d'.size from hi)
                rw [Nat.add_mul, Nat.one_mul] at this; omega
              have hcs : i * k + j < cs.size := by
                rw [hB.size]
                refine Nat.lt_of_lt_of_le hlt2 (Nat.le_trans (Nat.le_of_eq ?_) hB.room)
                rw [hds, hsz, hes]; simp
              have e1 : (i * k + j) / k = i := (Go.Sort.blk_iff k i _ (by omega)).1 ⟨by omega, by omega⟩
              have e2 : (i * k + j) % k = j := by rw [Nat.mod_eq_sub_div_mul, e1]; omega
              simp only [Go.Sort.putCells, Array.getElem?_mapIdx]
              rw [Array.getElem?_eq_getElem hcs, Option.map_some, if_pos ⟨Nat.zero_le _, by rw [Go.Sort.size_flatK]; omega⟩, Nat.sub_zero, Go.Sort.get_flatK encV k d' _ hlt2, e1, e2]
              rw [getElem!_pos (encV d'[i]!) j (by rw [hk]; exact hj)]
              exact (List.getElem?_eq_getElem _).symm
            have hput := SR.put hS key ver ⟨false, true, b.sz, (srt (Go.Proofs.ltOf cf) l).map encA⟩ (ι key) (Go.Proofs.sortWorldK encV k w (ι key).1 0 n d' os) (Go.Sort.putCells id 0 (Go.Sort.flatK encV k d') cs) T
              (.inr ⟨hv1, b, hv2, rfl, rfl, by rw [List.length_map, hsl, hes]; simp⟩) (.inl ⟨b, hv2, hf, rfl⟩) rfl rfl rfl
              (by simp [Go.Proofs.sortWorldK, Go.Sort.grow, Go.Sort.putRowK, Go.Sort.putRow, Go.Sort.mapBlock, Go.Sort.ahead]) hbz
              (fun b' hb' hne => by
                simp only [Go.Proofs.sortWorldK, Go.Sort.grow, Go.Sort.putRowK, Go.Sort.putRow, Go.Sort.mapBlock, Go.Sort.ahead]
                rw [Array.getElem?_append_left (by simpa using hb'), Array.getElem?_modify, if_neg (fun e => hne e.symm)])
              hrow (by simp [Go.Sort.putCells, hB.size]) (by
                have := hB.room
                rw [List.length_map, hsl]
                rw [hes, List.length_map] at this
                exact this)
              (fun e he => by
                obtain ⟨x, _, rfl⟩ := List.mem_map.1 he
                rw [hlen, hsz])
              (fun i e j cc q1 q2 => by
                rw [List.getElem?_map] at q1
                obtain ⟨x, hx1, rfl⟩ := Option.map_eq_some_iff.1 q1
                have hi : i < d'.size := by
                  have := (List.getElem?_eq_some_iff.1 hx1).1
                  rw [hsl] at this; omega
                have hj : j < k := by rw [← hlen x]; exact (List.getElem?_eq_some_iff.1 q2).1
                have hxd : d'[i]! = x := by
                  rw [hsr] at hx1
                  rw [getElem!_pos d' i hi]
                  have : d'[i]? = some x := by simpa using hx1
                  rw [Array.getElem?_eq_getElem hi] at this
                  exact Option.some.inj this
                have hg := hget i j hi hj
                rw [hxd] at hg
                have hjv : j < (encV x).length := by rw [hk]; exact hj
                have hcv : (encV x)[j]? = some (encV x)[j] := List.getElem?_eq_getElem hjv
                refine ⟨(encV x)[j], by rw [show (⟨false, true, b.sz, (srt (Go.Proofs.ltOf cf) l).map encA⟩ : Blk).sz = k from hsz, hg, hcv], h1 x _ (List.getElem_mem _), ?_, fun _ => ?_⟩
                · exact .still _ _ (hdv _ _ _ j _ _ q2 hcv)
                · exact hdv _ _ _ j _ _ q2 hcv)
            obtain ⟨p1, p2⟩ := hput
            have hι : ι.set key (ι key) = ι := by
              funext k'
              simp only [Pos.set]
              split
              · rename_i e; rw [e]
              · rfl
            rw [hι] at p1 p2
            exact ⟨.tuple #[], ι, rfl, p1, p2, .still _ _ (VD.tup [] [] rfl (fun i c v h => by simp at h))⟩
          · cases hq
        · cases hq
      · cases hq
    · cases hq
  · cases hq
end Go.Den
