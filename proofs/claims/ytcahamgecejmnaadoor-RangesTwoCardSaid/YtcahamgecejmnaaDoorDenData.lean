/-
  From what a statement reads of its inputs to the values of the functional reading, with their kinds. Its conditions: the types are made of truths, whole numbers, texts, structs and slices of these.
-/
import Derived.Test.YtcahamgecejmnaaDoorDenRun
import Derived.ChangeArms
import Derived.ChangeShapes
import Derived.WideShapes
namespace Go.Den
open Go

/-- A cell's kind. -/
inductive CT where
  | bool
  | int (k : IntKind)
  | str
  | sl (agg : Bool) (l : List CT)

def mkE (agg : Bool) (cs : List AV) : AV := if agg then .agg cs else cs.headD .undef

mutual
def TyC : CT → AV → Prop
  | .bool, v => ∃ b, v = .bool b
  | .int k, v => ∃ n, v = .int k n ∧ (Lit.int k n).wf = true
  | .str, v => ∃ s : List UInt8, v = .str s ∧ s.length ≤ maxLen
  | .sl g l, v => ∃ es : List AV, v = .sl es ∧ es.length ≤ maxLen ∧ ∀ e ∈ es, ∃ cs, e = mkE g cs ∧ TyL l cs
def TyL : List CT → List AV → Prop
  | [], vs => vs = []
  | c :: r, vs => ∃ v us, vs = v :: us ∧ TyC c v ∧ TyL r us
end

variable (P : Program)
def fieldsCT (g : TypeId → Option (Bool × List CT)) : List Field → Nat → Option (List CT)
  | [], _ => some []
  | f :: r, off => match g f.type with
    | some (_, l) => if f.offset = off ∧ P.cellsOf f.type = l.length then (match fieldsCT g r (off + l.length) with | some m => some (l ++ m) | none => none) else none
    | none => none
def typeCT : Nat → TypeId → Option (Bool × List CT)
  | 0, _ => none
  | d + 1, t => match P.underlying t with
    | some .bool => some (false, [.bool])
    | some (.int k) => some (false, [.int k])
    | some .string => some (false, [.str])
    | some (.slice e) => match typeCT d e with
      | some (g, l) => if P.cellsOf e = l.length ∧ l ≠ [] then some (false, [.sl g l]) else none
      | none => none
    | some (.struct fs) => match fieldsCT P (typeCT d) fs.toList 0 with
      | some l => if P.cellsOf t = l.length then some (true, l) else none
      | none => none
    | _ => none

variable {P}

theorem tyL_append : ∀ {l m : List CT} {xs ys : List AV}, TyL l xs → TyL m ys → TyL (l ++ m) (xs ++ ys)
  | [], m, xs, ys, h1, h2 => by
    simp only [TyL] at h1
    subst h1; exact h2
  | c :: l, m, xs, ys, h1, h2 => by
    simp only [TyL] at h1
    obtain ⟨v, us, rfl, hv, hu⟩ := h1
    exact ⟨v, us ++ ys, rfl, hv, tyL_append hu h2⟩

theorem tyL_length : ∀ {l : List CT} {xs : List AV}, TyL l xs → xs.length = l.length
  | [], xs, h => by simp only [TyL] at h; subst h; rfl
  | c :: l, xs, h => by
    simp only [TyL] at h
    obtain ⟨v, us, rfl, _, hu⟩ := h
    simp [tyL_length hu]

theorem typeCT_one : ∀ {d : Nat} {t : TypeId} {l : List CT}, typeCT P d t = some (false, l) → l.length = 1
  | 0, t, l, h => by cases h
  | d + 1, t, l, h => by
    simp only [typeCT] at h
    split at h
    · obtain ⟨_, rfl⟩ := Prod.mk.inj (Option.some.inj h); rfl
    · obtain ⟨_, rfl⟩ := Prod.mk.inj (Option.some.inj h); rfl
    · obtain ⟨_, rfl⟩ := Prod.mk.inj (Option.some.inj h); rfl
    · split at h
      · split at h
        · obtain ⟨_, rfl⟩ := Prod.mk.inj (Option.some.inj h); rfl
        · cases h
      · cases h
    · split at h
      · split at h
        · cases h
        · cases h
      · cases h
    · cases h

theorem solo_ty {c : CT} {v : AV} (h : TyC c v) : v.cells = [v] := by
  cases c with
  | bool => obtain ⟨b, rfl⟩ := h; rfl
  | int k => obtain ⟨n, rfl, _⟩ := h; rfl
  | str => obtain ⟨s, rfl, _⟩ := h; rfl
  | sl g l => obtain ⟨es, rfl, _⟩ := h; rfl

theorem solo {d : Nat} {t : TypeId} {l : List CT} {v : AV} (h : typeCT P d t = some (false, l)) (hv : TyL l [v]) : v.cells = [v] := by
  match l, typeCT_one h with
  | [c], _ =>
    obtain ⟨u, us, e, hu, _⟩ := hv
    obtain ⟨rfl, _⟩ := List.cons.inj e
    exact solo_ty hu

/-- A cell's value, as it is read. -/
structure Read (w : World) (l : List CT) (cs : List Value) (xs : List AV) : Prop where
  ty : TyL l xs
  vd : All2 (VD (fun _ => False) w) xs cs
  one : ∀ c ∈ cs, one c

theorem cells?_get {w : World} {a : Addr} {n : Nat} {cs : List Value} (h : w.cells? 0 a n = some cs) : cs.length = n ∧ ∀ (i : Nat) (v : Value), cs[i]? = some v → w.cell? (a.add i) = some v := by
  unfold World.cells? at h
  rw [if_pos (Nat.zero_le _)] at h
  have gen : ∀ (m : List Nat) (cs : List Value), m.mapM (fun i => w.cell? (a.add i)) = some cs → cs.length = m.length ∧ ∀ (i k : Nat) (v : Value), m[i]? = some k → cs[i]? = some v → w.cell? (a.add k) = some v := by
    intro m
    induction m with
    | nil =>
      intro cs h
      simp at h
      subst h
      exact ⟨rfl, fun i k v h => by simp at h⟩
    | cons x m ih =>
      intro cs h
      rw [List.mapM_cons] at h
      simp only [Option.bind_eq_bind, Option.bind_eq_some_iff, Option.pure_def, Option.some.injEq] at h
      obtain ⟨v0, h0, vs, h1, rfl⟩ := h
      obtain ⟨g1, g2⟩ := ih vs h1
      refine ⟨by simp [g1], fun i k v hk hv => ?_⟩
      cases i with
      | zero => simp at hk hv; subst hk; subst hv; exact h0
      | succ i => exact g2 i k v (by simpa using hk) (by simpa using hv)
  obtain ⟨g1, g2⟩ := gen _ _ h
  have hlen : cs.length = n := by simpa using g1
  refine ⟨hlen, fun i v hv => g2 i i v ?_ hv⟩
  have : i < n := by rw [← hlen]; exact (List.getElem?_eq_some_iff.1 hv).1
  simp [this]

theorem one_bool (b : Bool) : one (.bool b) := rfl
theorem one_int (k : IntKind) (n : Int) : one (.int k n) := rfl
theorem one_str (s : ByteArray) : one (.string s) := rfl
theorem one_slice (a : Option Addr) (n c : Nat) : one (.slice a n c) := rfl

theorem str_vd (w : World) (s : ByteArray) : VD (fun _ => False) w (.str s.data.toList) (.string s) := by
  have := VD.str (N := fun _ => False) (w := w) s.data.toList
  simpa using this

theorem choose_all {α : Type} {n : Nat} {p : Nat → α → Prop} (h : ∀ i, i < n → ∃ x, p i x) : ∃ l : List α, l.length = n ∧ ∀ i x, l[i]? = some x → p i x := by
  induction n with
  | zero => exact ⟨[], rfl, fun i x h => by simp at h⟩
  | succ n ih =>
    obtain ⟨l, hl, hp⟩ := ih (fun i hi => h i (by omega))
    obtain ⟨x, hx⟩ := h n (by omega)
    refine ⟨l ++ [x], by simp [hl], fun i y hy => ?_⟩
    by_cases hi : i < n
    · rw [List.getElem?_append_left (by omega)] at hy; exact hp i y hy
    · rw [List.getElem?_append_right (by omega)] at hy
      have : i - l.length = 0 := by
        by_cases h0 : i - l.length = 0
        · exact h0
        · rw [List.getElem?_eq_none (by simp; omega)] at hy; cases hy
      rw [this] at hy
      have hin : i = n := by omega
      subst hin
      simp at hy; subst hy; exact hx

variable {H : Type} {enc : TypeId × Value → H} {w : World}

/-- **What is read is a value of the functional reading.** -/
theorem data : ∀ (d : Nat) (t : TypeId) (g : Bool) (l : List CT) (fuel : Nat) (cs : List Value) (x : DataW H × List MemPlace), typeCT P d t = some (g, l) →
    DataW.trod enc P w 0 (fun _ => true) true fuel t cs = some x → ∃ xs, Read w l cs xs
  | 0, t, g, l, fuel, cs, x, ht, h => by cases ht
  | d + 1, t, g, l, fuel, cs, x, ht, h => by
    simp only [typeCT] at ht
    split at ht
    · rename_i hu
      obtain ⟨rfl, rfl⟩ := Prod.mk.inj (Option.some.inj ht)
      obtain ⟨b, rfl, rfl⟩ := DataW.trod_bool hu h
      exact ⟨[.bool b], ⟨⟨_, [], rfl, ⟨b, rfl⟩, rfl⟩, .cons (.bool b) .nil, by simp [one_bool]⟩⟩
    · rename_i k hu
      obtain ⟨rfl, rfl⟩ := Prod.mk.inj (Option.some.inj ht)
      obtain ⟨n, rfl, rfl, hw⟩ := DataW.trod_int hu h
      exact ⟨[.int k n], ⟨⟨_, [], rfl, ⟨n, rfl, hw⟩, rfl⟩, .cons (.int k n) .nil, by simp [one_int]⟩⟩
    · rename_i hu
      obtain ⟨rfl, rfl⟩ := Prod.mk.inj (Option.some.inj ht)
      obtain ⟨s, rfl, rfl, hs⟩ := DataW.trod_string hu h
      refine ⟨[.str s.data.toList], ⟨⟨_, [], rfl, ⟨s.data.toList, rfl, by simpa using hs⟩, rfl⟩, .cons (str_vd w s) .nil, by simp [one_str]⟩⟩
    · rename_i e hu
      split at ht
      · rename_i ge le he
        split at ht
        · rename_i hc
          obtain ⟨hcells, hne⟩ := hc
          obtain ⟨rfl, rfl⟩ := Prod.mk.inj (Option.some.inj ht)
          rcases DataW.trod_slice hu h with ⟨rfl, rfl⟩ | ⟨a, len, cap, elems, rest, n, _, rfl, rfl, hb, hlc, hm, hlen, hel, hsp, hns⟩
          · exact ⟨[.sl []], ⟨⟨_, [], rfl, ⟨[], rfl, by simp, by simp⟩, rfl⟩, .cons (.sl0 none 0 (fun _ => rfl)) .nil, by simp [one_slice]⟩⟩
          · obtain ⟨hrl, hr⟩ := hsp rfl
            have hpos : 0 < le.length := by cases le with | nil => exact absurd rfl hne | cons _ _ => simp
            have each : ∀ i, i < cap → ∃ cs', w.cells? 0 (a.add (i * le.length)) le.length = some cs' ∧ ∃ xs, Read w le cs' xs := by
              intro i hi
              have : ∃ y, (w.cells? 0 (a.add (i * P.cellsOf e)) (P.cellsOf e)).bind (DataW.trod enc P w 0 (fun _ => true) true n e) = some y := by
                by_cases hi' : i < len
                · exact ⟨elems[i], by rw [hel i hi']; exact List.getElem?_eq_getElem (by omega)⟩
                · have := hr (i - len) (by omega)
                  rw [show len + (i - len) = i by omega] at this
                  exact ⟨rest[i - len], by rw [this]; exact List.getElem?_eq_getElem (by omega)⟩
              obtain ⟨y, hy⟩ := this
              rw [hcells, Option.bind_eq_some_iff] at hy
              obtain ⟨cs', h1, h2⟩ := hy
              exact ⟨cs', h1, data d e ge le n cs' y he h2⟩
            by_cases hcap : cap = 0
            · subst hcap
              have : len = 0 := by omega
              subst this
              exact ⟨[.sl []], ⟨⟨_, [], rfl, ⟨[], rfl, by simp, by simp⟩, rfl⟩, .cons (.sl0 (some a) 0 (fun e => by cases e)) .nil, by simp [one_slice]⟩⟩
            · have hplain : ∃ b o, a = ⟨b, o, none⟩ := by
                obtain ⟨cs', h1, xs, _⟩ := each 0 (by omega)
                obtain ⟨g1, g2⟩ := cells?_get h1
                have h0 : 0 < cs'.length := by omega
                have := g2 0 cs'[0] (List.getElem?_eq_getElem h0)
                obtain ⟨b, o, s⟩ := a
                have hs : s = none := by simpa [Addr.add] using World.cell?_spot this
                subst hs
                exact ⟨b, o, rfl⟩
              obtain ⟨b, o, rfl⟩ := hplain
              obtain ⟨es, hesl, hes⟩ := choose_all (n := len) (p := fun i (q : List Value × List AV) => w.cells? 0 ((⟨b, o, none⟩ : Addr).add (i * le.length)) le.length = some q.1 ∧ Read w le q.1 q.2)
                (fun i hi => let ⟨cs', h1, xs, h2⟩ := each i (by omega); ⟨(cs', xs), h1, h2⟩)
              have hmk : ∀ q ∈ es, (mkE ge q.2).cells = q.2 ∧ q.2.length = le.length := by
                intro q hq
                obtain ⟨i, hi⟩ := List.getElem?_of_mem hq
                obtain ⟨h1, h2⟩ := hes i q hi
                refine ⟨?_, tyL_length h2.ty⟩
                cases ge with
                | true => rfl
                | false =>
                  have h1' := typeCT_one he
                  have := tyL_length h2.ty
                  rw [h1'] at this
                  match hq2 : q.2, this with
                  | [v], _ =>
                    have : TyL le [v] := hq2 ▸ h2.ty
                    have := solo he this
                    simp only [mkE, Bool.false_eq_true, if_false, List.headD_cons]
                    exact this
              refine ⟨[.sl (es.map fun q => mkE ge q.2)], ⟨⟨_, [], rfl, ⟨_, rfl, by simp [hesl]; omega, ?_⟩, rfl⟩, .cons ?_ .nil, by simp [one_slice]⟩⟩
              · intro e he
                obtain ⟨q, hq, rfl⟩ := List.mem_map.1 he
                obtain ⟨i, hi⟩ := List.getElem?_of_mem hq
                exact ⟨q.2, rfl, (hes i q hi).2.ty⟩
              · have := VD.sl (N := fun _ => False) (w := w) le.length (es.map fun q => mkE ge q.2) b o cap (fun i j => ((es[i]?.map (·.1)).getD []).getD j undef)
                  (by simp [hesl]; omega) (fun e he => ?_) (fun i e j c hi hj => ?_) (fun i e j c hi hj => ?_)
                · simpa [hesl] using this
                · obtain ⟨q, hq, rfl⟩ := List.mem_map.1 he
                  rw [(hmk q hq).1]; exact (hmk q hq).2
                · rw [List.getElem?_map] at hi
                  cases hq : es[i]? with
                  | none => rw [hq] at hi; cases hi
                  | some q =>
                    rw [hq] at hi
                    obtain rfl := Option.some.inj hi
                    rw [(hmk q (List.mem_of_getElem? hq)).1] at hj
                    obtain ⟨h1, h2⟩ := hes i q hq
                    obtain ⟨g1, g2⟩ := cells?_get h1
                    have hjl : j < q.1.length := by rw [← h2.vd.length]; exact (List.getElem?_eq_some_iff.1 hj).1
                    have hval := g2 j q.1[j] (List.getElem?_eq_getElem hjl)
                    refine ⟨fun e => e, ?_, ?_⟩
                    · simp only [Option.map_some, Option.getD_some, List.getD_eq_getElem?_getD, List.getElem?_eq_getElem hjl]
                      rw [← hval]
                      simp only [Addr.add]
                      split <;> split <;> simp_all [Nat.add_assoc]
                    · simp only [Option.map_some, Option.getD_some, List.getD_eq_getElem?_getD, List.getElem?_eq_getElem hjl]
                      exact h2.one _ (List.getElem_mem _)
                · rw [List.getElem?_map] at hi
                  cases hq : es[i]? with
                  | none => rw [hq] at hi; cases hi
                  | some q =>
                    rw [hq] at hi
                    obtain rfl := Option.some.inj hi
                    rw [(hmk q (List.mem_of_getElem? hq)).1] at hj
                    obtain ⟨h1, h2⟩ := hes i q hq
                    have hjl : j < q.1.length := by rw [← h2.vd.length]; exact (List.getElem?_eq_some_iff.1 hj).1
                    simp only [Option.map_some, Option.getD_some, List.getD_eq_getElem?_getD, List.getElem?_eq_getElem hjl]
                    exact h2.vd.get j c _ hj (List.getElem?_eq_getElem hjl)
        · cases ht
      · cases ht
    · rename_i fs hu
      split at ht
      · rename_i m hm
        split at ht
        · rename_i hcells
          obtain ⟨rfl, rfl⟩ := Prod.mk.inj (Option.some.inj ht)
          obtain ⟨xs, n, rfl, rfl, hlen, hxl, hx⟩ := DataW.trod_struct hu h
          have gen : ∀ (r : List Field) (k off : Nat) (m : List CT), fs.toList.drop k = r → fieldsCT P (typeCT P d) r off = some m → off + m.length = cs.length → ∃ ys, Read w m (cs.drop off) ys := by
            intro r
            induction r with
            | nil =>
              intro k off m _ hm hl
              obtain rfl := Option.some.inj hm
              have : cs.drop off = [] := by rw [List.drop_eq_nil_iff]; simp at hl; omega
              rw [this]
              exact ⟨[], ⟨rfl, .nil, by simp⟩⟩
            | cons f r ih =>
              intro k off m hd hm hl
              simp only [fieldsCT] at hm
              split at hm
              · rename_i gf lf hf
                split at hm
                · rename_i hc
                  obtain ⟨ho, hcf⟩ := hc
                  split at hm
                  · rename_i m' hm'
                    obtain rfl := Option.some.inj hm
                    have hk : fs[k]? = some f := by
                      have := congrArg (·[0]?) hd
                      simpa [List.getElem?_drop] using this
                    have hd' : fs.toList.drop (k + 1) = r := by
                      have := congrArg (·.drop 1) hd
                      simpa [List.drop_drop, Nat.add_comm] using this
                    have hkl : k < xs.length := by rw [hxl]; exact (Array.getElem?_eq_some_iff.1 hk).1
                    have h1 := hx k f hk
                    rw [List.getElem?_eq_getElem hkl, ho, hcf] at h1
                    obtain ⟨ys1, hy1⟩ := data d f.type gf lf n _ _ hf h1
                    obtain ⟨ys2, hy2⟩ := ih (k + 1) (off + lf.length) m' hd' hm' (by simp at hl; omega)
                    have hsplit : cs.drop off = (cs.drop off).take lf.length ++ cs.drop (off + lf.length) := by
                      rw [← List.drop_drop, List.take_append_drop]
                    refine ⟨ys1 ++ ys2, ⟨tyL_append hy1.ty hy2.ty, ?_, ?_⟩⟩
                    · rw [hsplit]; exact hy1.vd.append hy2.vd
                    · rw [hsplit]
                      intro c hc
                      rcases List.mem_append.1 hc with h | h
                      · exact hy1.one c h
                      · exact hy2.one c h
                  · cases hm
                · cases hm
              · cases hm
          obtain ⟨ys, hy⟩ := gen fs.toList 0 0 m (by simp) hm (by rw [Nat.zero_add, hlen, hcells])
          exact ⟨ys, by simpa using hy⟩
        · cases ht
      · cases ht
    · cases ht

end Go.Den
