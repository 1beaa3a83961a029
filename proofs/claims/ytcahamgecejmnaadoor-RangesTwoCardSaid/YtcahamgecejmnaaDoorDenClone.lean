/-
  slices.Clone as it is: what the shelf's contract says, told over the reading's values. Its conditions: the library's function is laid over the program.
-/
import Derived.Test.YtcahamgecejmnaaDoorDenSound
import Derived.Shelf.SlicesE.Clone
namespace Go.Den
open Go

variable {P : Program} {X : Ctx} {F : Nat → Prop} {B : Nat} {ι : Pos} {H : Heap} {w : World} {N : Nat → Prop}

def cloneW (k bytes : Nat) : List AV → Option AV
  | [.sl l] => if l.length ≤ maxLen ∧ l.length * bytes ≤ 140737488355328 ∧ AV.sized k l = true then some (.sl l) else none
  | _ => none

section
open Go.Shelf Go.RowKit Go.Lib Go.Proofs
/-- At no element, whatever the address. -/
theorem clone_empty {ρ : Go.Shelf.Ren} (L : Go.Proofs.SlLaysE0.n41 P ρ) (i0 : TypeInfo) (z : Value) (size bytes : Nat) (hi : P.info? (ρ.t 23) = some i0) (hz0 : i0.zero = some z) (hz1 : i0.size = size) (hz2 : i0.bytes = bytes) (hzs : z.cells.size = size) (hsz : 0 < size)
    (z23 : ∀ w, (Go.sizeOf (ρ.t 23)).run P w = .ok size w) (a : Addr) (c : Nat) (w : World) :
    Calls P (ρ.f 41) #[.slice (some a) 0 c] w fun e w' => ∃ v', e = .returned v' ∧ w'.ownsRow w.heap.size (ρ.t 23) size v' 0 [] ∧ v' ≠ .slice none 0 0 ∧ Below w.heap.size w w' := by
  have mixed := L.mixed; have t4 := L.t4; have a4 := L.a4; have z4 := L.z4; have v4 := L.v4; have t22 := L.t22; have a22 := L.a22; have z22 := L.z22; have v22 := L.v22
  have q22 : ∀ (w : World) (a : Option Addr) (n c n' c' : Nat), (binOp .eql (ρ.t 22) (.slice a n c) (.slice none n' c')).run P w = .ok (.bool a.isNone) w := fun w a n c n' c' => Lib.run_eql_slice_nil w _ _ a n c n' c' L.t22
  have u22 : ∀ w, Sem.run P (underlying (ρ.t 22)) w = .ok (TypeDesc.slice (ρ.t 23)) w := run_underlying t22
  obtain ⟨_, _, FG⟩ := L.f41
  go_enter FG, SlBodyN.n41_ntmps ρ
  go_wp2_with (at_builtin; refine wpList_append_own _ rfl _ _ (ρ.t 22) rfl w.heap.size (ρ.t 23) i0 z size bytes t22 hi hz0 hz1 hz2 hzs hsz _ _ _ rfl (World.ownsRow_made w #[] 0 (Nat.le_refl _) (Nat.zero_le _) (by simp)) a 0 c [] rfl ?qc1 ?qc2 ?qc3 ?qc4 ?qc5 ?qc6 ?_)
  case qc1 => simp
  case qc2 => intro j u hj; simp at hj
  case qc3 => intro u hu; cases hu
  case qc4 => simp
  case qc5 => simp
  case qc6 => simp
  intro v' w1 hown hgrow hnil
  go_wp2
  go_ret
  refine ⟨v', rfl, by simpa using hown, ?_, ?_⟩
  · exact hnil
  · exact ((Below.refl _ w).alloc (Nat.le_refl _) _).grown hgrow (by simp) (by intro k hk; simp [Value.ownBlock] at hk; omega)
end

theorem clone_ok {ρ : Go.Shelf.Ren} (L : Go.Proofs.SlLaysE0.n41 P ρ) (i0 : TypeInfo) (z : Value) (k bytes : Nat) (hi : P.info? (ρ.t 23) = some i0) (hz0 : i0.zero = some z) (hz1 : i0.size = k) (hz2 : i0.bytes = bytes) (hzs : z.cells.size = k) (hk : 0 < k)
    (z23 : ∀ w, (Go.sizeOf (ρ.t 23)).run P w = .ok k w) {args : List AV} {r : AV} (h : cloneW k bytes args = some r) (vs : List Value) (hN : ∀ b, N b → b < w.heap.size) (ha : All2 (VD N w) args vs) :
    Calls P (ρ.f 41) vs.toArray w (fun e w' => ∃ v, e = .returned v ∧ VD N w' r v ∧ Go.RowKit.Below w.heap.size w w') := by
  unfold cloneW at h
  split at h
  · rename_i l
    split at h
    · rename_i hc
      obtain ⟨hn, hbig, hsized⟩ := hc
      obtain rfl := Option.some.inj h
      obtain ⟨x, rfl, hx⟩ : ∃ x, vs = [x] ∧ VD N w (.sl l) x := by
        cases ha with
        | cons h1 t => cases t; exact ⟨_, rfl, h1⟩
      have row : ∀ (b o cap : Nat) (vf : Nat → Nat → Value),
          (∀ (i : Nat) (e : AV) (j : Nat) (c : AV), l[i]? = some e → e.cells[j]? = some c → ¬ N b ∧ w.cell? ⟨b, o + i * k + j, none⟩ = some (vf i j) ∧ one (vf i j)) →
          (∀ (i : Nat) (e : AV) (j : Nat) (c : AV), l[i]? = some e → e.cells[j]? = some c → VD N w c (vf i j)) →
          Calls P (ρ.f 41) #[.slice (some ⟨b, o, none⟩) l.length cap] w (fun e w' => ∃ v, e = .returned v ∧ VD N w' (.sl l) v ∧ Go.RowKit.Below w.heap.size w w') := by
        intro b o cap vf hw hv
        have hes : ∀ (i : Nat) (e : AV), l[i]? = some e → e.cells.length = k := by
          intro i e he
          have := List.all_eq_true.1 hsized e (List.mem_of_getElem? he)
          simpa using this
        have get : ∀ t, t < l.length * k → ∃ e c, l[t / k]? = some e ∧ e.cells[t % k]? = some c := by
          intro t ht
          have h1 : t / k < l.length := Nat.div_lt_of_lt_mul (by rw [Nat.mul_comm]; exact ht)
          have h2 : t % k < k := Nat.mod_lt _ hk
          have h3 := hes (t / k) _ (List.getElem?_eq_getElem h1)
          exact ⟨_, _, List.getElem?_eq_getElem h1, List.getElem?_eq_getElem (by rw [h3]; exact h2)⟩
        have hmain := Go.Proofs.AnyE.slices_Clone L i0 z k bytes hi hz0 hz1 hz2 hzs hk z23 b o l.length cap ((List.range (l.length * k)).map fun t => vf (t / k) (t % k)) w (by simp) hn hbig
          (fun j u hj => by
            rw [List.getElem?_map] at hj
            obtain ⟨t, ht, rfl⟩ := Option.map_eq_some_iff.1 hj
            obtain ⟨hlt, rfl⟩ := List.getElem?_eq_some_iff.1 ht
            simp only [List.length_range] at hlt
            simp only [List.getElem_range]
            obtain ⟨e, c, q1, q2⟩ := get j hlt
            have := (hw _ _ _ _ q1 q2).2.1
            rw [Nat.add_assoc, Nat.mul_comm, Nat.div_add_mod] at this
            exact this)
          (fun u hu => by
            obtain ⟨t, ht, rfl⟩ := List.mem_map.1 hu
            obtain ⟨e, c, q1, q2⟩ := get t (List.mem_range.1 ht)
            exact (hw _ _ _ _ q1 q2).2.2)
        refine hmain.mono ?_
        rintro e w' ⟨v', rfl, ⟨_, hrow⟩, hne, hb⟩
        refine ⟨v', rfl, ?_, hb⟩
        rcases hrow with ⟨h1, _⟩ | ⟨g, cp, cur, rfl, hg, hheap, hcap, _, hsz, htake⟩
        · exact absurd h1 hne
        · have hlater : Later N w N w' := fun b' hb' hn' => ⟨hn', hb.block b' hb'⟩
          refine .sl k l g 0 cp vf hcap (fun e he => ?_) (fun i e j c q1 q2 => ⟨fun hg' => ?_, ?_, (hw i e j c q1 q2).2.2⟩) (fun i e j c q1 q2 => (hv i e j c q1 q2).mono hlater)
          · obtain ⟨i, hi'⟩ := List.getElem?_of_mem he
            exact hes i e hi'
          · have := hN g hg'; omega
          · have hi' := (List.getElem?_eq_some_iff.1 q1).1
            have hj' : j < k := by rw [← hes i e q1]; exact (List.getElem?_eq_some_iff.1 q2).1
            have hlt : i * k + j < l.length * k := by
              have := Nat.mul_le_mul_right k (show i + 1 ≤ l.length from hi')
              rw [Nat.add_mul, Nat.one_mul] at this; omega
            have e1 : (i * k + j) / k = i := by
              rw [Nat.mul_comm, Nat.mul_add_div hk, Nat.div_eq_of_lt hj', Nat.add_zero]
            have e2 : (i * k + j) % k = j := by rw [Nat.mul_comm, Nat.mul_add_mod, Nat.mod_eq_of_lt hj']
            simp only [World.cell?, hheap, Nat.zero_add]
            have hget := congrArg (·[i * k + j]?) htake
            simp only [List.getElem?_take, hlt, if_true, List.getElem?_map, List.getElem?_range hlt, Option.map_some, e1, e2] at hget
            simpa using hget
      cases hx with
      | sl0 a c ha' =>
        cases a with
        | none =>
          refine (Go.Proofs.AnyE.slices_Clone_nil L 0 c w).mono ?_
          rintro e w' ⟨rfl, rfl⟩
          exact ⟨_, rfl, .sl0 none 0 (fun _ => rfl), Go.RowKit.Below.refl _ _⟩
        | some a =>
          refine (clone_empty L i0 z k bytes hi hz0 hz1 hz2 hzs hk z23 a c w).mono ?_
          rintro e w' ⟨v', rfl, ⟨_, hrow⟩, hne, hb⟩
          refine ⟨v', rfl, ?_, hb⟩
          rcases hrow with ⟨h1, _⟩ | ⟨g, cp, cur, rfl, _⟩
          · exact absurd h1 hne
          · exact .sl0 _ _ (fun e => by cases e)
      | sl sz _ b o cap vf hcap hsz hw hv =>
        by_cases h0 : l = []
        · subst h0
          exact row b o cap vf (fun i e j c q1 => by simp at q1) (fun i e j c q1 => by simp at q1)
        · obtain ⟨e0, he0⟩ : ∃ e, l[0]? = some e := by cases l with | nil => exact absurd rfl h0 | cons a _ => exact ⟨a, rfl⟩
          have hsk : sz = k := by
            rw [← hsz e0 (List.mem_of_getElem? he0)]
            have := List.all_eq_true.1 hsized e0 (List.mem_of_getElem? he0)
            simpa using this
          subst hsk
          exact row b o cap vf hw hv
    · cases h
  · cases h
end Go.Den
