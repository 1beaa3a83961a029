/-
  Blocks, loops and calls, as plain functions tell them. Its conditions: none.
-/
import Derived.Test.YtcahamgecejmnaaDoorDenSimp
namespace Go.Den
open Go

variable {X : Ctx} {π : Key} {α : Type} {F : Env → Heap → Option α} {K : List Fr} {e : Env} {H : Heap}

theorem loop_of {S E : Type} {c : C} {body : S → Option (Step S E)} {R : S → Env → Heap → Prop} (fin : E → Option α)
    (hb : ∀ (n : Nat) (G : Step S E → Option α), (∀ s e H, R s e H → runL X π F (.it c n :: K) e H = G (.next s)) → (∀ x, G (.done x) = fin x) →
      ∀ s e H, R s e H → runL X π F (.c c :: .it c n :: K) e H = (body s).bind G)
    {s : S} {e : Env} {H : Heap} (h : R s e H) : runL X π F (.c (.loop c) :: K) e H = (loopL body s).bind fin := by
  have key : ∀ n s e H, R s e H → runL X π F (.it c n :: K) e H = (loopN body n s).bind fin := by
    intro n
    induction n with
    | zero => intro s e H _; rw [l_it0]; rfl
    | succ n ih =>
      intro s e H h
      rw [l_it, hb n (fun p => match p with | .next s' => (loopN body n s').bind fin | .done x => fin x) (fun s e H h => ih s e H h) (fun _ => rfl) s e H h]
      simp only [loopN]
      cases body s with
      | none => rfl
      | some p => cases p <;> rfl
  rw [l_loop]
  simp only [key _ s e H h]
  have := lim_bind (mono_loop (body := body) (s := s)) (h := fun _ x => fin x) (fun a => mono_const _)
  simp only [lim_const] at this
  rw [this]; rfl

/-- What follows upon a call that is read in place. -/
noncomputable def contF (X : Ctx) (π : Key) (F : Env → Heap → Option α) (K : List Fr) (e : Env) (d : Option Nat) (l : Fr) (rs : List Res) : Env → Heap → Option α :=
  fun e' H' => stepL X π F K e (finH rs e' H') d l
theorem contF_eq {d : Option Nat} {l : Fr} {rs : List Res} {e' : Env} {H' : Heap} : contF X π F K e d l rs e' H' = stepL X π F K e (finH rs e' H') d l := rfl
theorem call_in {f : Nat} {args : List AV} {π' : Key} {d : Option Nat} {l : Fr} {fd : FD} (hc : X.code f = some fd) :
    stepL X π F K e (goL X f args π' H) d l = runL X π' (contF X π F K e d l fd.results) [.c fd.body] (initEnv args) H := by
  have e1 : ∀ o : Option (AV × Heap), stepL X π F K e o d l = o.bind fun p => runL X π F (l :: K) (e.put d p.1) p.2 := by intro o; cases o <;> rfl
  rw [e1, goL_run hc, l_bind]
  congr 1
  funext e' H'
  rw [contF_eq, e1]

noncomputable def contA (X : Ctx) (π : Key) (F : Env → Heap → Option α) (K : List Fr) (e : Env) (H1 H2 : Heap) (d : Option Nat) (l : Fr) (rs : List Res) : Env → Heap → Option α :=
  fun e' H' => stepL X π F K e (ansR (finS rs e' H') H1 H2) d l
theorem contA_eq {H1 H2 : Heap} {d : Option Nat} {l : Fr} {rs : List Res} {e' : Env} {H' : Heap} : contA X π F K e H1 H2 d l rs e' H' = stepL X π F K e (ansR (finS rs e' H') H1 H2) d l := rfl
theorem ans_in {f : Nat} {args : List AV} {H1 H2 : Heap} {d : Option Nat} {l : Fr} {fd : FD} (hp : X.prim f = none) (hc : X.code f = some fd) :
    stepL X π F K e (ansR (ansL X f args) H1 H2) d l = runL X [] (contA X π F K e H1 H2 d l fd.results) [.c fd.body] (initEnv args) Heap.none := by
  have e1 : ∀ o : Option AV, stepL X π F K e (ansR o H1 H2) d l = o.bind fun r => stepL X π F K e (ansR (some r) H1 H2) d l := by intro o; cases o <;> rfl
  rw [e1, ansL_run hp hc, l_bind]
  congr 1
  funext e' H'
  rw [contA_eq, e1]

/-- A slice of ours that grows. -/
theorem Buf.push {ks : List Key} {sz : Nat} {y : AV} {H0 HH : Heap} {β : Type} {f : β → AV} {out ys : List β} {d bytes : Nat} {z : AV} (h : Buf ks sz y H0 (encL f out)) (fr : ∀ k, k ∈ ks → HH k = H0 k)
    (hz : Den.elems HH sz z = some (encL f ys)) (hroom : (out.length + ys.length) * bytes ≤ room) (hd : (d :: π) ∈ ks) :
    ∃ y' H', appendA π d sz bytes HH y z = some (y', H') ∧ Buf ks sz y' H' (encL f (out ++ ys)) ∧ ∀ k, k ∉ ks → H' k = HH k := by
  have h' := h.frame fr
  by_cases hne : ys = []
  · subst hne
    rcases h' with ⟨nl, rfl, h2⟩ | ⟨k, ver, h1, rfl, h3⟩
    · refine ⟨.zs nl, HH, ?_, .inl ⟨nl, rfl, by rw [List.append_nil]; exact h2⟩, fun _ _ => rfl⟩
      simp [appendA, hz, encL]
    · have hl : HH.live k ver = some ⟨false, true, sz, encL f out⟩ := by simp [Heap.live, h3]
      refine ⟨.own k (ver + 1) 0 (encL f (out ++ [])).length, HH.set k (ver + 1, some ⟨false, true, sz, encL f (out ++ [])⟩), ?_, .inr ⟨k, ver + 1, h1, rfl, ?_⟩, fun k' hk' => ?_⟩
      · simp only [appendA, hz, hl]
        rw [if_pos ⟨trivial, trivial, trivial, trivial, trivial, by simpa [encL_length] using hroom⟩]
        simp [encL]
      · simp [Heap.set]
      · simp only [Heap.set]; rw [if_neg (by rintro rfl; exact hk' h1)]
  · have hl : (encL f ys).length ≠ 0 := by rw [encL_length]; simpa using hne
    refine ⟨_, _, h'.append hz hl (by simpa only [encL_length] using hroom), ?_, fun k hk => h'.other hd hk⟩
    rw [← encL_append]; exact h'.grown hd
theorem Buf.push_no {ks : List Key} {sz : Nat} {y : AV} {H0 HH : Heap} {β : Type} {f : β → AV} {out ys : List β} {d bytes : Nat} {z : AV} (h : Buf ks sz y H0 (encL f out)) (fr : ∀ k, k ∈ ks → HH k = H0 k)
    (hz : Den.elems HH sz z = some (encL f ys)) (hroom : ¬ (out.length + ys.length) * bytes ≤ room) : appendA π d sz bytes HH y z = none := by
  have h' := h.frame fr
  by_cases hne : ys = []
  · subst hne
    rcases h' with ⟨nl, rfl, h2⟩ | ⟨k, ver, h1, rfl, h3⟩
    · have : out.length = 0 := by have := congrArg List.length h2; simpa [encL_length] using this
      simp [this] at hroom
    · have hl : HH.live k ver = some ⟨false, true, sz, encL f out⟩ := by simp [Heap.live, h3]
      simp only [appendA, hz, hl]
      rw [if_neg]
      rintro ⟨_, _, _, _, _, hr⟩
      exact hroom (by simpa [encL_length] using hr)
  · have hl : (encL f ys).length ≠ 0 := by rw [encL_length]; simpa using hne
    exact h'.append_no hz hl (by simpa only [encL_length] using hroom)

theorem step_push {ks : List Key} {sz : Nat} {y : AV} {H0 HH : Heap} {β : Type} {f : β → AV} {out ys : List β} {d bytes : Nat} {z : AV} {dd : Option Nat} {l : Fr} {rhs : Option α} (h : Buf ks sz y H0 (encL f out))
    (fr : ∀ k, k ∈ ks → HH k = H0 k) (hz : Den.elems HH sz z = some (encL f ys)) (hroom : (out.length + ys.length) * bytes ≤ room) (hd : (d :: π) ∈ ks)
    (next : ∀ y' H', Buf ks sz y' H' (encL f (out ++ ys)) → (∀ k, k ∉ ks → H' k = HH k) → stepL X π F K e (some (y', H')) dd l = rhs) : stepL X π F K e (appendA π d sz bytes HH y z) dd l = rhs := by
  obtain ⟨y', H', h1, h2, h3⟩ := h.push (π := π) (d := d) (bytes := bytes) (z := z) fr hz hroom hd
  rw [h1]; exact next y' H' h2 h3
theorem step_push_no {ks : List Key} {sz : Nat} {y : AV} {H0 HH : Heap} {β : Type} {f : β → AV} {out ys : List β} {d bytes : Nat} {z : AV} {dd : Option Nat} {l : Fr} (h : Buf ks sz y H0 (encL f out))
    (fr : ∀ k, k ∈ ks → HH k = H0 k) (hz : Den.elems HH sz z = some (encL f ys)) (hroom : ¬ (out.length + ys.length) * bytes ≤ room) : stepL X π F K e (appendA π d sz bytes HH y z) dd l = none := by
  rw [h.push_no (π := π) (d := d) (bytes := bytes) (z := z) fr hz hroom]; rfl
/-- An element of a slice of ours. -/
theorem step_at {ks : List Key} {sz : Nat} {y : AV} {H0 HH : Heap} {β : Type} {f : β → AV} {out : List β} {a : β} {kk : IntKind} {i : Int} {dd : Option Nat} {l : Fr} {rhs : Option α} (h : Buf ks sz y H0 (encL f out))
    (fr : ∀ k, k ∈ ks → HH k = H0 k) (ha : idx out i = some a)
    (next : ∀ k ver, k ∈ ks → y = .own k ver 0 out.length → H0 k = (ver, some ⟨false, true, sz, encL f out⟩) → out[i.toNat]? = some a → stepL X π F K e (some (.ptr k ver i.toNat 0, HH)) dd l = rhs) :
    stepL X π F K e (withH HH (indexAddrA HH sz y (.int kk i))) dd l = rhs := by
  obtain ⟨h0, h1, h2⟩ := idx_some ha
  have h3 : (encL f out)[i.toNat]? = some (f a) := by rw [encL_get, h2]; rfl
  obtain ⟨k, ver, g1, g2, g3, g4⟩ := (h.frame fr).at (kk := kk) h3
  have e1 : ((i.toNat : Nat) : Int) = i := by omega
  rw [e1] at g4
  rw [g4]
  exact next k ver g1 (by rw [g2, encL_length]) ((fr k g1).symm.trans g3) h2
theorem step_at_no {ks : List Key} {sz : Nat} {y : AV} {H0 HH : Heap} {β : Type} {f : β → AV} {out : List β} {kk : IntKind} {i : Int} {dd : Option Nat} {l : Fr} (h : Buf ks sz y H0 (encL f out))
    (fr : ∀ k, k ∈ ks → HH k = H0 k) (ha : idx out i = none) : stepL X π F K e (withH HH (indexAddrA HH sz y (.int kk i))) dd l = none := by
  have : idx (encL f out) i = none := by
    unfold idx at ha ⊢
    split at ha
    · rename_i h0; rw [if_pos h0, encL_get, ha]; rfl
    · rename_i h0; rw [if_neg h0]
  rw [(h.frame fr).at_no this]; rfl
theorem step_atS {ks : List Key} {sz : Nat} {y : AV} {H0 HH : Heap} {β : Type} {f : β → AV} {out : List β} {a : β} {kk : IntKind} {i : Int} {dd : Option Nat} {l : Fr} {rhs : Option α} (h : Buf ks sz y H0 (encL f out))
    (fr : ∀ k, k ∈ ks → HH k = H0 k) (ha : idx out i = some a)
    (next : ∀ k ver, k ∈ ks → y = .own k ver 0 out.length → H0 k = (ver, some ⟨false, true, sz, encL f out⟩) → out[i.toNat]? = some a → stepLS X π F K e HH (some (.ptr k ver i.toNat 0)) dd l = rhs) :
    stepLS X π F K e HH (indexAddrA HH sz y (.int kk i)) dd l = rhs := by
  obtain ⟨h0, h1, h2⟩ := idx_some ha
  have h3 : (encL f out)[i.toNat]? = some (f a) := by rw [encL_get, h2]; rfl
  obtain ⟨k, ver, g1, g2, g3, g4⟩ := (h.frame fr).at (kk := kk) h3
  have e1 : ((i.toNat : Nat) : Int) = i := by omega
  rw [e1] at g4
  rw [g4]
  exact next k ver g1 (by rw [g2, encL_length]) ((fr k g1).symm.trans g3) h2
theorem step_at_noS {ks : List Key} {sz : Nat} {y : AV} {H0 HH : Heap} {β : Type} {f : β → AV} {out : List β} {kk : IntKind} {i : Int} {dd : Option Nat} {l : Fr} (h : Buf ks sz y H0 (encL f out))
    (fr : ∀ k, k ∈ ks → HH k = H0 k) (ha : idx out i = none) : stepLS X π F K e HH (indexAddrA HH sz y (.int kk i)) dd l = none := by
  have : idx (encL f out) i = none := by
    unfold idx at ha ⊢
    split at ha
    · rename_i h0; rw [if_pos h0, encL_get, ha]; rfl
    · rename_i h0; rw [if_neg h0]
  rw [(h.frame fr).at_no this]; rfl
/-- A call that is handed a slice of ours, and answers what may lead to it. -/
theorem step_ans_kill {ks : List Key} {sz : Nat} {y : AV} {H0 H1 HH : Heap} {es : List AV} {f : Nat} {as : List AV} {r : AV} {dd : Option Nat} {l : Fr} {rhs : Option α} (hc : ansL X f as = some r) (hf : r.flat = false) (h : Buf ks sz y H0 es) (fr : ∀ k, k ∈ ks → HH k = H0 k)
    (next : ∀ HK : Heap, (∀ k, k ∉ ks → HK k = HH k) → stepL X π F K e (some (r, HK)) dd l = rhs) : stepL X π F K e (ansR (ansL X f as) H1 (kill HH y)) dd l = rhs := by
  rw [hc]
  simp only [ansR, hf, Bool.false_eq_true, if_false]
  refine next _ (fun k hk => ?_)
  rcases h.frame fr with ⟨nl, rfl, _⟩ | ⟨k0, ver, h1, rfl, h3⟩
  · simp [kill]
  · have hl : HH.live k0 ver = some ⟨false, true, sz, es⟩ := by simp [Heap.live, h3]
    simp only [kill, freeze, hl, Heap.set]
    rw [if_neg (by rintro rfl; exact hk h1)]
theorem encL_of {β : Type} {f : β → AV} {p : β → Prop} : ∀ {es : List AV}, (∀ e ∈ es, ∃ x, e = f x ∧ p x) → ∃ l : List β, es = encL f l ∧ ∀ x ∈ l, p x
  | [], _ => ⟨[], rfl, by simp⟩
  | e :: es, h => by
    obtain ⟨x, rfl, hx⟩ := h e List.mem_cons_self
    obtain ⟨l, rfl, hl⟩ := encL_of (fun e he => h e (List.mem_cons_of_mem _ he))
    exact ⟨x :: l, rfl, by simpa using ⟨hx, hl⟩⟩
theorem own_at {sz : Nat} {H0 HH : Heap} {β : Type} {f : β → AV} {out : List β} {key : Key} {ver n : Nat} {fz : Bool} {kk : IntKind} {i : Int} (hH : H0 key = (ver, some ⟨fz, true, sz, encL f out⟩)) (fr : HH key = H0 key) (hn : n = out.length) :
    indexAddrA HH sz (.own key ver 0 n) (.int kk i) = (idx out i).map fun _ => .ptr key ver i.toNat 0 := by
  have hl : HH.live key ver = some ⟨fz, true, sz, encL f out⟩ := by simp [Heap.live, fr, hH]
  rw [at_own]
  unfold idx
  simp only [nat?]
  by_cases h0 : 0 ≤ i
  · simp only [if_pos h0, hl]
    by_cases h1 : i.toNat < out.length
    · rw [if_pos ⟨by omega, trivial⟩, List.getElem?_eq_getElem h1]; simp
    · rw [if_neg (by omega), List.getElem?_eq_none (by omega)]; rfl
  · simp only [if_neg h0]; rfl
theorem nat?_int : ∀ (k : IntKind) (n : Int), nat? (.int k n) = if 0 ≤ n then some n.toNat else none := fun _ _ => rfl
theorem mb {A B C : Type} (o : Option A) (f : A → Option B) (g : B → C) : (o.bind fun x => (f x).map g) = (o.bind f).map g := by cases o <;> rfl
theorem bb {A B C : Type} (o : Option A) (f : A → Option B) (g : B → Option C) : (o.bind fun x => (f x).bind g) = (o.bind f).bind g := by cases o <;> rfl
def encRaw (x : AV) : AV := x
theorem bd : (∀ {A B : Type} (f : A → Option B), Option.bind none f = none) ∧ (∀ {A B : Type} (a : A) (f : A → Option B), Option.bind (some a) f = f a) ∧ (∀ {A B : Type} (f : A → B), Option.map f none = none) ∧ (∀ {A B : Type} (a : A) (f : A → B), Option.map f (some a) = some (f a)) ∧
    (∀ {A : Type} (a b : A), (bif true then a else b) = a) ∧ (∀ {A : Type} (a b : A), (bif false then a else b) = b) := ⟨fun _ => rfl, fun _ _ => rfl, fun _ => rfl, fun _ _ => rfl, fun _ _ => rfl, fun _ _ => rfl⟩
theorem len1s (a : List UInt8) : (AV.str a).cells.length = 1 := rfl
theorem len1b (a : Bool) : (AV.bool a).cells.length = 1 := rfl
theorem len1i (k : IntKind) (a : Int) : (AV.int k a).cells.length = 1 := rfl
theorem at_b {H : Heap} {k : IntKind} {i : Int} : (∀ l, indexAddrA H 1 (.sl (encL AV.str l)) (.int k i) = (idx l i).map fun a => .rp (AV.str a) 0) ∧ (∀ l, indexAddrA H 1 (.sl (encL AV.bool l)) (.int k i) = (idx l i).map fun a => .rp (AV.bool a) 0) ∧
    (∀ k' l, indexAddrA H 1 (.sl (encL (AV.int k') l)) (.int k i) = (idx l i).map fun a => .rp (AV.int k' a) 0) := ⟨fun _ => at_enc len1s, fun _ => at_enc len1b, fun k _ => at_enc (len1i k)⟩
theorem sized_b : (∀ l, AV.sized 1 (encL AV.str l) = true) ∧ (∀ l, AV.sized 1 (encL AV.bool l) = true) ∧ (∀ k l, AV.sized 1 (encL (AV.int k) l) = true) := ⟨fun l => encL_sized len1s l, fun l => encL_sized len1b l, fun k l => encL_sized (len1i k) l⟩
theorem cut_b {H : Heap} {k k' : IntKind} {lo hi : Int} :
    (∀ l, sliceA H 1 (.sl (encL AV.str l)) (some (.int k lo)) (some (.int k' hi)) = (cut l lo hi).map fun m => .sl (encL AV.str m)) ∧ (∀ l, sliceA H 1 (.sl (encL AV.str l)) (some (.int k lo)) none = (cut l lo l.length).map fun m => .sl (encL AV.str m)) ∧ (∀ l, sliceA H 1 (.sl (encL AV.str l)) none (some (.int k hi)) = (cut l 0 hi).map fun m => .sl (encL AV.str m)) ∧
    (∀ q l, sliceA H 1 (.sl (encL (AV.int q) l)) (some (.int k lo)) (some (.int k' hi)) = (cut l lo hi).map fun m => .sl (encL (AV.int q) m)) ∧ (∀ q l, sliceA H 1 (.sl (encL (AV.int q) l)) (some (.int k lo)) none = (cut l lo l.length).map fun m => .sl (encL (AV.int q) m)) ∧ (∀ q l, sliceA H 1 (.sl (encL (AV.int q) l)) none (some (.int k hi)) = (cut l 0 hi).map fun m => .sl (encL (AV.int q) m)) :=
  ⟨fun _ => sl_cut len1s, fun _ => sl_cut_lo len1s, fun _ => sl_cut_hi len1s, fun q _ => sl_cut (len1i q), fun q _ => sl_cut_lo (len1i q), fun q _ => sl_cut_hi (len1i q)⟩
end Go.Den
namespace Go.Den
open Go
theorem dl1 : (∀ {A B : Type} (f : A → B), List.map f [] = []) ∧ (∀ {A B : Type} (f : A → B) a l, List.map f (a :: l) = f a :: List.map f l) ∧ (∀ {A : Type} (a : A) l m, (a :: l) ++ m = a :: (l ++ m)) ∧ (∀ {A : Type} (m : List A), [] ++ m = m) ∧ (∀ {A : Type} (m : List A), m ++ [] = m) ∧
    (∀ {A : Type} (a : A) (l : List A), (a :: l)[0]? = some a) ∧ (∀ {A : Type} (a : A) (l : List A) (n : Nat), (a :: l)[n + 1]? = l[n]?) ∧ (∀ {A : Type} (n : Nat), ([] : List A)[n]? = none) ∧ (∀ {A : Type} (p : A → Bool), List.all [] p = true) ∧ (∀ {A : Type} (p : A → Bool) a l, List.all (a :: l) p = (p a && List.all l p)) ∧
    (∀ {A : Type} (a : A) l, (a :: l).length = l.length + 1) ∧ (∀ {A : Type}, ([] : List A).length = 0) ∧ (∀ {A : Type} (l : List A), l.take 0 = []) ∧ (∀ {A : Type} (a : A) l n, (a :: l).take (n + 1) = a :: l.take n) ∧ (∀ {A : Type} n, ([] : List A).take n = []) ∧
    (∀ {A : Type} (l : List A), l.drop 0 = l) ∧ (∀ {A : Type} (a : A) l n, (a :: l).drop (n + 1) = l.drop n) ∧ (∀ {A : Type} n, ([] : List A).drop n = []) ∧ (∀ {A : Type} (a b : A) l, (a :: l).set 0 b = b :: l) ∧ (∀ {A : Type} (a b : A) (l : List A) (n : Nat), (a :: l).set (n + 1) b = a :: l.set n b) ∧
    (∀ {A : Type} (a : A), List.replicate 0 a = []) ∧ (∀ {A : Type} n (a : A), List.replicate (n + 1) a = a :: List.replicate n a) ∧ (∀ {A B : Type} (f : A → B → A) a, List.foldl f a [] = a) ∧ (∀ {A B : Type} (f : A → B → A) a b l, List.foldl f a (b :: l) = List.foldl f (f a b) l) ∧
    (∀ {A : Type} (a : A) l d, (a :: l).headD d = a) ∧ (∀ {A : Type} (a d : A), (some a).getD d = a) ∧ (∀ {A : Type} (d : A), (none : Option A).getD d = d) :=
  ⟨fun _ => rfl, fun _ _ _ => rfl, fun _ _ _ => rfl, fun _ => rfl, fun _ => List.append_nil _, fun _ _ => rfl, fun _ _ _ => rfl, fun _ => rfl, fun _ => rfl, fun _ _ _ => rfl, fun _ _ => rfl, rfl, fun _ => rfl, fun _ _ _ => rfl, fun _ => List.take_nil, fun _ => rfl, fun _ _ _ => rfl, fun _ => List.drop_nil,
   fun _ _ _ => rfl, fun _ _ _ _ => rfl, fun _ => rfl, fun _ _ => rfl, fun _ _ => rfl, fun _ _ _ _ => rfl, fun _ _ _ => rfl, fun _ _ => rfl, fun _ => rfl⟩
theorem dl2 : (∀ {A : Type} (a b : A) l m, ((a :: l) = (b :: m)) = (a = b ∧ l = m)) ∧ (∀ b, (true && b) = b) ∧ (∀ b, (b && true) = b) ∧ (∀ b, (false && b) = false) ∧ (∀ b, (b && false) = false) ∧ (∀ b, (true || b) = true) ∧ (∀ b, (b || true) = true) ∧ (∀ b, (false || b) = b) ∧ (∀ b, (b || false) = b) ∧
    ((!true) = false) ∧ ((!false) = true) ∧ (decide True = true) ∧ (decide False = false) ∧ ((false = true) = False) ∧ ((true = false) = False) ∧ (∀ p : Prop, (True ∧ p) = p) ∧ (∀ p : Prop, (p ∧ True) = p) ∧ (∀ p : Prop, (False ∧ p) = False) ∧ (∀ p : Prop, (p ∧ False) = False) ∧ ((¬ True) = False) ∧ ((¬ False) = True) ∧
    (∀ {A : Type} (a : A), (a = a) = True) ∧ (∀ p : Prop, (p → True) = True) ∧ (∀ p : Prop, (False → p) = True) ∧ (∀ p : Prop, (True → p) = p) ∧ (∀ b : Bool, (b == b) = true) ∧ (∀ {A : Type} [BEq A] [LawfulBEq A] (a : A), (a == a) = true) ∧
    (((0 : Nat) : Int) = 0) ∧ (((1 : Nat) : Int) = 1) ∧ (((2 : Nat) : Int) = 2) ∧ (((3 : Nat) : Int) = 3) ∧ (((4 : Nat) : Int) = 4) ∧ (((5 : Nat) : Int) = 5) ∧ (((6 : Nat) : Int) = 6) ∧ (((7 : Nat) : Int) = 7) ∧ (((8 : Nat) : Int) = 8) ∧ (∀ n : Nat, n + 0 = n) ∧ (∀ n : Nat, 0 + n = n) := by
  refine ⟨?_, ?_, ?_, ?_, ?_, ?_, ?_, ?_, ?_, ?_, ?_, ?_, ?_, ?_, ?_, ?_, ?_, ?_, ?_, ?_, ?_, ?_, ?_, ?_, ?_, ?_, ?_, ?_, ?_, ?_, ?_, ?_, ?_, ?_, ?_, ?_, ?_, ?_⟩
  all_goals (intros; simp)
theorem den16 : (∀ b : Bool, (b == true) = b) ∧ (∀ b : Bool, (b == false) = !b) ∧ (∀ b : Bool, (true == b) = b) ∧ (∀ b : Bool, (false == b) = !b) := by
  refine ⟨?_, ?_, ?_, ?_⟩ <;> (intro b; cases b <;> rfl)
theorem next_eq (H : Heap) (k : Key) (ver : Nat) : nextA H (.ptr k ver 1 0) = match H.live k ver with | some b => nextB H k ver b | none => none := rfl
theorem den14 {X : Ctx} {go : Go1} {π : Key} {d : Option Nat} {e : Env} {H : Heap} :
    (∀ x, stepI X go π d e H (.rng x) = rngA π d H (x.ev X e)) ∧ (∀ x, stepI X go π d e H (.next x) = nextA H (x.ev X e)) ∧ (stepI X go π d e H .mkmap = mkmapA π d H) ∧
    (∀ q z ok m x, stepI X go π d e H (.lookup q z ok m x) = withH H (lookupA H q z ok (m.ev X e) (x.ev X e))) ∧
    (∀ q m x v, stepI X go π d e H (.mapSet q m x v) = match mapSetA H q (m.ev X e) (x.ev X e) (v.ev X e) with | some H => some (.undef, H) | none => none) :=
  ⟨fun _ => rfl, fun _ => rfl, rfl, fun _ _ _ _ _ => rfl, fun _ _ _ _ => rfl⟩
theorem den15 {H : Heap} :
    (∀ π n s, rngA π (some n) H (.str s) = some (.ptr (n :: π) ((H (n :: π)).1 + 1) 1 0, fresh H (n :: π) ⟨false, true, 0, [.tup [.str s, .int .i64 0]]⟩)) ∧
    (∀ π n, mkmapA π (some n) H = some (.map (n :: π) ((H (n :: π)).1 + 1), fresh H (n :: π) ⟨false, false, 0, [.tup []]⟩)) ∧
    (∀ k ver s n, nextB H k ver ⟨false, true, 0, [.tup [.str s, .int .i64 n]]⟩ =
      bif decide (n.toNat < s.length) then some (.tup [.bool true, .int .i64 n, .int .i32 (runeAt s n.toNat).1], H.set k (ver, some ⟨false, true, 0, [.tup [.str s, .int .i64 (n + (runeAt s n.toNat).2)]]⟩))
      else some (.tup [.bool false], H)) :=
  ⟨fun _ _ _ => rfl, fun _ _ => rfl, fun _ _ s n => by simp only [nextB, Bool.cond_decide]⟩

theorem D : type_of% (And.intro @den14 (And.intro den16 (And.intro @den15 (And.intro next_eq (And.intro @den1s (And.intro @den2s (And.intro @den5s (And.intro @den5t (And.intro den5u (And.intro @den1 (And.intro @den2 (And.intro @den3 (And.intro den4 (And.intro @den5 (And.intro @den6 (And.intro @den6b (And.intro @den7 (And.intro @den7b (And.intro @den7c (And.intro den7d (And.intro @den8 (And.intro den9 (And.intro den10 (And.intro den11 (And.intro den12 (And.intro @den13 (And.intro @dl1 (And.intro @dl2 (And.intro @bd (And.intro @at_b (And.intro sized_b (And.intro @cut_b (And.intro @encL_get (And.intro @encL_set (And.intro @encL_length (And.intro @encL_take (And.intro @encL_drop (And.intro @encL_append (And.intro @str_at (And.intro @str_cut (And.intro @str_cut_lo (And.intro @str_cut_hi (And.intro @str_cut_no (And.intro @contF_eq (And.intro @contA_eq (@ans_eq)))))))))))))))))))))))))))))))))))))))))))))) := And.intro @den14 (And.intro den16 (And.intro @den15 (And.intro next_eq (And.intro @den1s (And.intro @den2s (And.intro @den5s (And.intro @den5t (And.intro den5u (And.intro @den1 (And.intro @den2 (And.intro @den3 (And.intro den4 (And.intro @den5 (And.intro @den6 (And.intro @den6b (And.intro @den7 (And.intro @den7b (And.intro @den7c (And.intro den7d (And.intro @den8 (And.intro den9 (And.intro den10 (And.intro den11 (And.intro den12 (And.intro @den13 (And.intro @dl1 (And.intro @dl2 (And.intro @bd (And.intro @at_b (And.intro sized_b (And.intro @cut_b (And.intro @encL_get (And.intro @encL_set (And.intro @encL_length (And.intro @encL_take (And.intro @encL_drop (And.intro @encL_append (And.intro @str_at (And.intro @str_cut (And.intro @str_cut_lo (And.intro @str_cut_hi (And.intro @str_cut_no (And.intro @contF_eq (And.intro @contA_eq (@ans_eq)))))))))))))))))))))))))))))))))))))))))))))
end Go.Den
