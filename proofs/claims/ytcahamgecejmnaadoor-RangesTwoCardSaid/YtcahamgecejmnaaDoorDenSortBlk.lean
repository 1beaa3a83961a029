/-
  slices.SortFunc on a slice of ours. Its conditions: none.
-/
import Derived.Test.YtcahamgecejmnaaDoorDenBlk
import Derived.Test.YtcahamgecejmnaaDoorDenSort
import Derived.Test.YtcahamgecejmnaaDoorDenGrow
namespace Go.Den
open Go
variable {X : Ctx} {π : Key} {α : Type} {F : Env → Heap → Option α} {K : List Fr} {e : Env} {H : Heap}

theorem sortW_zs {β : Type} {sz g : Nat} {dec : AV → Option β} {encA : β → AV} {sr : List β → List β} : ∀ (nl : Bool) (H : Heap), sortW sz g dec encA sr [.zs nl, .fn g []] H = some (.tup [], H) := fun nl H => by simp [sortW]

theorem Buf.sort {ks : List Key} {sz g : Nat} {y : AV} {H0 HH : Heap} {β γ : Type} {f : γ → AV} {out out' : List γ} {dec : AV → Option β} {encA : β → AV} {sr : List β → List β} {l : List β} (h : Buf ks sz y H0 (encL f out)) (fr : ∀ k, k ∈ ks → HH k = H0 k)
    (hdec : decL dec (encL f out) = some l) (hout : (sr l).map encA = encL f out') (hlen : out'.length = out.length) (hbig : out.length < 4611686018427387904) :
    ∃ H', sortW sz g dec encA sr [y, .fn g []] HH = some (.tup [], H') ∧ Buf ks sz y H' (encL f out') ∧ ∀ k, k ∉ ks → H' k = HH k := by
  rcases h.frame fr with ⟨nl, rfl, h2⟩ | ⟨k, ver, h1, rfl, h3⟩
  · have e1 : out = [] := by cases out with | nil => rfl | cons a r => simp [encL] at h2
    have e2 : out' = [] := by rw [e1] at hlen; exact List.length_eq_zero_iff.1 hlen
    exact ⟨HH, sortW_zs nl HH, .inl ⟨nl, rfl, by rw [e2]; rfl⟩, fun _ _ => rfl⟩
  · have hl : HH.live k ver = some ⟨false, true, sz, encL f out⟩ := by simp [Heap.live, h3]
    refine ⟨HH.set k (ver, some ⟨false, true, sz, encL f out'⟩), ?_, .inr ⟨k, ver, h1, by rw [encL_length, encL_length, hlen], by simp [Heap.set]⟩, fun k' hk' => ?_⟩
    · simp only [sortW, hl, hdec]
      rw [if_pos ⟨trivial, trivial⟩, if_pos ⟨trivial, trivial, trivial, trivial, by rw [encL_length]; exact hbig⟩, hout]
    · simp only [Heap.set]; rw [if_neg (by rintro rfl; exact hk' h1)]
theorem step_sort {ks : List Key} {sz g : Nat} {y : AV} {H0 HH : Heap} {β γ : Type} {f : γ → AV} {out out' : List γ} {dec : AV → Option β} {encA : β → AV} {sr : List β → List β} {l : List β} {dd : Option Nat} {fm : Fr} {rhs : Option α} (h : Buf ks sz y H0 (encL f out)) (fr : ∀ k, k ∈ ks → HH k = H0 k)
    (hdec : decL dec (encL f out) = some l) (hout : (sr l).map encA = encL f out') (hlen : out'.length = out.length) (hbig : out.length < 4611686018427387904)
    (next : ∀ H', Buf ks sz y H' (encL f out') → (∀ k, k ∉ ks → H' k = HH k) → stepL X π F K e (some (.tup [], H')) dd fm = rhs) : stepL X π F K e (sortW sz g dec encA sr [y, .fn g []] HH) dd fm = rhs := by
  obtain ⟨H', h1, h2, h3⟩ := h.sort (g := g) (dec := dec) (encA := encA) (sr := sr) fr hdec hout hlen hbig
  rw [h1]; exact next H' h2 h3
theorem step_sort_no {ks : List Key} {sz g : Nat} {y : AV} {H0 HH : Heap} {β γ : Type} {f : γ → AV} {out : List γ} {dec : AV → Option β} {encA : β → AV} {sr : List β → List β} {dd : Option Nat} {fm : Fr} (h : Buf ks sz y H0 (encL f out)) (fr : ∀ k, k ∈ ks → HH k = H0 k)
    (hbig : ¬ out.length < 4611686018427387904) : stepL X π F K e (sortW sz g dec encA sr [y, .fn g []] HH) dd fm = none := by
  have : sortW sz g dec encA sr [y, .fn g []] HH = none := by
    rcases h.frame fr with ⟨nl, rfl, h2⟩ | ⟨k, ver, h1, rfl, h3⟩
    · have e1 : out = [] := by cases out with | nil => rfl | cons a r => simp [encL] at h2
      subst e1; simp at hbig
    · have hl : HH.live k ver = some ⟨false, true, sz, encL f out⟩ := by simp [Heap.live, h3]
      simp only [sortW, hl]
      rw [if_pos ⟨trivial, trivial⟩, if_neg]
      rintro ⟨_, _, _, _, h5⟩
      rw [encL_length] at h5
      exact hbig h5
  rw [this]; rfl
theorem step_grow {sz bytes : Nat} {π' : Key} {nl : Bool} {n : Int} {HH : Heap} {γ : Type} {f : γ → AV} {dd : Option Nat} {fm : Fr} {rhs : Option α} (hn : 0 ≤ n ∧ n * bytes ≤ 140737488355328) (hb : 1 ≤ bytes)
    (next : ∀ y' H', Buf [0 :: π'] sz y' H' (encL f ([] : List γ)) → (∀ k, k ∉ [0 :: π'] → H' k = HH k) → stepL X π F K e (some (y', H')) dd fm = rhs) : stepL X π F K e (growW sz bytes π' [.zs nl, .int .i64 n] HH) dd fm = rhs := by
  unfold growW
  have hle : n * 1 ≤ n * bytes := Int.mul_le_mul_of_nonneg_left (by omega) hn.1
  simp only
  rw [if_pos ⟨hn.1, hn.2, by omega⟩]
  split
  · exact next _ _ (Buf.zs _) (fun _ _ => rfl)
  · refine next _ _ (.inr ⟨0 :: π', _, List.mem_singleton_self _, rfl, ?_⟩) (fun k hk => ?_)
    · simp [fresh, Heap.set, encL]
    · have hk : k ≠ 0 :: π' := by simpa using hk
      simp [fresh, Heap.set, hk]
theorem step_grow_no {sz bytes : Nat} {π' : Key} {nl : Bool} {n : Int} {HH : Heap} {dd : Option Nat} {fm : Fr} (hn : ¬ (0 ≤ n ∧ n * bytes ≤ 140737488355328)) : stepL X π F K e (growW sz bytes π' [.zs nl, .int .i64 n] HH) dd fm = none := by
  unfold growW
  simp only
  rw [if_neg (fun h => hn ⟨h.1, h.2.1⟩)]; rfl
end Go.Den
