/-
  slices.SortFunc on a slice of ours. Its conditions: none.
-/
import Derived.Test.YtcahamgecejmnaaDoorDenBlk
import Derived.Test.YtcahamgecejmnaaDoorDenSort
namespace Go.Den
open Go
variable {X : Ctx} {π : Key} {α : Type} {F : Env → Heap → Option α} {K : List Fr} {e : Env} {H : Heap}

theorem sortW_zs {β : Type} {sz g : Nat} {dec : AV → Option β} {encA : β → AV} {sr : List β → List β} : ∀ (nl : Bool) (H : Heap), sortW sz g dec encA sr [.zs nl, .fn g []] H = some (.tup [], H) := fun nl H => by simp [sortW]

theorem Buf.sort {ks : List Key} {sz g : Nat} {y : AV} {H0 HH : Heap} {β γ : Type} {f : γ → AV} {out out' : List γ} {dec : AV → Option β} {encA : β → AV} {sr : List β → List β} {l : List β} (h : Buf ks sz y H0 (encL f out)) (fr : ∀ k, k ∈ ks → HH k = H0 k)
    (hdec : decL dec (encL f out) = some l) (hout : (sr l).map encA = encL f out') (hlen : out'.length = out.length) (hbig : out.length < 4611686018427387904) :
    ∃ H', sortW sz g dec encA sr [y, .fn g []] HH = some (.tup [], H') ∧ Buf ks sz y H' (encL f out') ∧ ∀ k, k ∉ ks → H' k = HH k := by
  rcases h.frame fr with ⟨nl, rfl, h2⟩ | ⟨k, ver, h1, rfl, h3⟩
  · have e1 : out = [] := by cases out with | nil => rfl | cons a r => simp [encL] at h2
    have e2 : out' = [] := by rw [e1] at hlen; exact List.length_eq_zero_iff.1 hlen
    exact ⟨HH, sortW_zs nl HH, .inl ⟨nl, rfl, by rw [e2]; rfl⟩, fun _ _ => rfl⟩
  · have hl : HH.live k ver = some ⟨false, true, sz, encL f out⟩ := by simp [Heap.live, h3]
    refine ⟨HH.set k (ver, some ⟨false, true, sz, encL f out'⟩), ?_, .inr ⟨k, ver, h1, by rw [encL_length, encL_length, hlen], by simp [Heap.set]⟩, fun k' hk' => ?_⟩
    · simp only [sortW, hl, hdec]
      rw [if_pos ⟨trivial, trivial⟩, if_pos ⟨trivial, trivial, trivial, trivial, by rw [encL_length]; exact hbig⟩, hout]
    · simp only [Heap.set]; rw [if_neg (by rintro rfl; exact hk' h1)]
theorem step_sort {ks : List Key} {sz g : Nat} {y : AV} {H0 HH : Heap} {β γ : Type} {f : γ → AV} {out out' : List γ} {dec : AV → Option β} {encA : β → AV} {sr : List β → List β} {l : List β} {dd : Option Nat} {fm : Fr} {rhs : Option α} (h : Buf ks sz y H0 (encL f out)) (fr : ∀ k, k ∈ ks → HH k = H0 k)
    (hdec : decL dec (encL f out) = some l) (hout : (sr l).map encA = encL f out') (hlen : out'.length = out.length) (hbig : out.length < 4611686018427387904)
    (next : ∀ H', Buf ks sz y H' (encL f out') → (∀ k, k ∉ ks → H' k = HH k) → stepL X π F K e (some (.tup [], H')) dd fm = rhs) : stepL X π F K e (sortW sz g dec encA sr [y, .fn g []] HH) dd fm = rhs := by
  obtain ⟨H', h1, h2, h3⟩ := h.sort (g := g) (dec := dec) (encA := encA) (sr := sr) fr hdec hout hlen hbig
  rw [h1]; exact next H' h2 h3
theorem step_sort_no {ks : List Key} {sz g : Nat} {y : AV} {H0 HH : Heap} {β γ : Type} {f : γ → AV} {out : List γ} {dec : AV → Option β} {encA : β → AV} {sr : List β → List β} {dd : Option Nat} {fm : Fr} (h : Buf ks sz y H0 (encL f out)) (fr : ∀ k, k ∈ ks → HH k = H0 k)
    (hbig : ¬ out.length < 4611686018427387904) : stepL X π F K e (sortW sz g dec encA sr [y, .fn g []] HH) dd fm = none := by
  have : sortW sz g dec encA sr [y, .fn g []] HH = none := by
    rcases h.frame fr with ⟨nl, rfl, h2⟩ | ⟨k, ver, h1, rfl, h3⟩
    · have e1 : out = [] := by cases out with | nil => rfl | cons a r => simp [encL] at h2
      subst e1; simp at hbig
    · have hl : HH.live k ver = some ⟨false, true, sz, encL f out⟩ := by simp [Heap.live, h3]
      simp only [sortW, hl]
      rw [if_pos ⟨trivial, trivial⟩, if_neg]
      rintro ⟨_, _, _, _, h5⟩
      rw [encL_length] at h5
      exact hbig h5
  rw [this]; rfl
end Go.Den
