/-
  What a version may be, told plainly: the program's answer and the document's are one. Its conditions: sizes of texts.
-/
import Derived.Test.YtkmefgabcdocpaaDoorPureMetaA
namespace Go.Proofs.YtkmefgabcdocpaaDoor
open Go Go.Den
set_option linter.unusedSimpArgs false
set_option linter.unusedVariables false

abbrev KT := List UInt8
def okK : List KT → List KT → Bool
  | _, [] => true
  | s, x :: r => keyS x && !(s.contains x) && okK (s ++ [x]) r
def keysS (l : List KT) : Bool := decide (l.length ≤ 32) && okK [] l

theorem mget_mput (x y : KT) (v : Bool) : ∀ l : List (KT × Bool), mget (mput l x v) y = if y = x then some v else mget l y
  | [] => by
    by_cases h : y = x
    · subst h; simp [mget, mput]
    · simp [mget, mput, h]
  | (k, u) :: r => by
    have ih := mget_mput x y v r
    simp only [mget] at ih ⊢
    simp only [mput]
    by_cases hk : x = k
    · subst hk
      simp only [beq_self_eq_true, if_true, List.lookup_cons]
      by_cases h : y = x
      · subst h; simp
      · have h' : (y == x) = false := by simpa using h
        rw [h', if_neg h]
    · have : (x == k) = false := by simpa using hk
      rw [this]
      simp only [Bool.false_eq_true, if_false, List.lookup_cons]
      by_cases hy : y = k
      · subst hy
        have : ¬ y = x := fun e => hk e.symm
        simp [this]
      · have : (y == k) = false := by simpa using hy
        simp only [this]; exact ih

def keyG {E S : Type} (ret : E) (key : S → List KT) (nx : S → KT → S) (s : S) (x : KT) : E ⊕ S := bif keyS x && !((key s).contains x) then .inr (nx s x) else .inl ret
theorem keyG_all {E S : Type} (ret e0 : E) (key : S → List KT) (nx : S → KT → S) (hk : ∀ s x, key (nx s x) = key s ++ [x]) : ∀ (l : List KT) (s : S), foldE (keyG ret key nx) (fun _ => e0) l s = bif okK (key s) l then e0 else ret
  | [], s => rfl
  | x :: r, s => by
    have ih := keyG_all ret e0 key nx hk r (nx s x)
    simp only [foldE, keyG, okK]
    cases keyS x && !((key s).contains x)
    · rfl
    · simp only [cond_true, Bool.true_and]; rw [ih, hk]

theorem contains_take (l : List KT) (n : Nat) (x : KT) : ((l.take n).findSome? fun y => if (y == x) = true then some mandolineref14_keys.l1X.ret else none).getD .x2 = bif (l.take n).contains x then .ret else .x2 := by
  generalize l.take n = m
  induction m with
  | nil => rfl
  | cons y r ih =>
    simp only [List.findSome?_cons, List.contains_cons]
    by_cases h : y = x
    · subst h; simp
    · have h1 : (y == x) = false := by simpa using h
      have h2 : (x == y) = false := by simpa using fun e : x = y => h e.symm
      simp only [h1, h2, Bool.false_eq_true, if_false, Bool.false_or]; exact ih

theorem ref_keys_eq (l : List KT) (hl : l.length ≤ maxLen) (hw : ∀ x ∈ l, x.length ≤ maxLen) : mandolineref14_keys.f l = some (keysS l) := by
  unfold mandolineref14_keys.f keysS
  have e : loopL (mandolineref14_keys.l0B l) 0 = some (foldE (keyG mandolineref14_keys.l0X.ret (fun s : List KT => s) (fun s x => s ++ [x])) (fun _ => mandolineref14_keys.l0X.x0) l []) := by
    refine loop_list0 l (fun (_ : List KT) n => (n : Int)) _ _ (fun n s => s = l.take n) (fun n s x hn hs hx => ?_) (fun s hs => ?_) rfl rfl
    · subst hs
      have h1 : decide ((n : Int) < (l.length : Int)) = true := by simp; omega
      have hwr : IntKind.i64.wrap ((n : Int) + 1) = ((n + 1 : Nat) : Int) := wrap_succ (by unfold maxLen at hl; omega)
      have hlen : (l.take n).length = n := by simp; omega
      have hin : loopL (mandolineref14_keys.l1B n l) 0 = some (bif (l.take n).contains x then .ret else .x2) := by
        rw [← contains_take]
        refine loop_find (l := l.take n) _ _ (by simp; omega) (fun k y hk hy hwk => ?_) ?_
        · rw [hlen] at hk
          have h2 : decide ((k : Int) < (n : Int)) = true := by simp; omega
          have hy' : l[k]? = some y := by rw [List.getElem?_take] at hy; split at hy <;> simp_all
          simp only [mandolineref14_keys.l1B, h2, idx_nat, hy', hx, bd, hwk, cond_true]
          by_cases h : y = x
          · simp [h]
          · have : (y == x) = false := by simpa using h
            simp [this]
        · rw [hlen]; simp [mandolineref14_keys.l1B]
      have htake : l.take (n + 1) = l.take n ++ [x] := by rw [List.take_add_one, hx]; rfl
      have hbody : mandolineref14_keys.l0B l (n : Int) = bif keyS x && !((l.take n).contains x) then some (.next ((n + 1 : Nat) : Int)) else some (.done .ret) := by
        simp only [mandolineref14_keys.l0B, h1, idx_nat, hx, bd, ref_Key_eq x (hw x (List.mem_of_getElem? hx)), cond_true, hin]
        cases keyS x <;> cases (l.take n).contains x <;> simp [mandolineref14_keys.a1, hwr]
      unfold keyG
      cases h : keyS x && !((l.take n).contains x)
      · show mandolineref14_keys.l0B l (n : Int) = _
        rw [hbody, h]; rfl
      · refine ⟨?_, htake.symm⟩
        rw [hbody, h]; rfl
    · simp [mandolineref14_keys.l0B]
  rw [e, keyG_all _ _ _ _ (fun _ _ => rfl)]
  have e1 : decide ((32 : Int) < (l.length : Int)) = !decide (l.length ≤ 32) := by rw [← decide_not]; exact decide_eq_decide.2 (by omega)
  rw [e1]
  cases decide (l.length ≤ 32) <;> cases okK [] l <;> rfl

theorem meta_keys_eq (m : api_Meta) (hl : m.Keys.length ≤ maxLen) : loopL (fun (s : Int × (List ((List UInt8) × Bool))) => meta_Right.l0B m s.1 s.2) (0, ([] : List ((List UInt8) × Bool))) = some (bif okK [] m.Keys then .x1 else .ret) := by
  have e : loopL (fun (s : Int × (List ((List UInt8) × Bool))) => meta_Right.l0B m s.1 s.2) (0, ([] : List ((List UInt8) × Bool))) =
      some (foldE (keyG meta_Right.l0X.ret (fun s : List KT × List (KT × Bool) => s.1) (fun s x => (s.1 ++ [x], mput s.2 x true))) (fun _ => meta_Right.l0X.x1) m.Keys ([], [])) := by
    refine loop_list0 m.Keys (fun (s : List KT × List (KT × Bool)) n => ((n : Int), s.2)) _ _ (fun n s => s.1 = m.Keys.take n ∧ ∀ x, (mget s.2 x).getD false = s.1.contains x) (fun n s x hn hs hx => ?_) (fun s hs => ?_) ⟨rfl, fun _ => rfl⟩ rfl
    · obtain ⟨hs1, hs2⟩ := hs
      have h1 : decide ((n : Int) < (m.Keys.length : Int)) = true := by simp; omega
      have hwr : IntKind.i64.wrap ((n : Int) + 1) = ((n + 1 : Nat) : Int) := wrap_succ (by unfold maxLen at hl; omega)
      have htake : m.Keys.take (n + 1) = m.Keys.take n ++ [x] := by rw [List.take_add_one, hx]; rfl
      have hbody : meta_Right.l0B m (n : Int) s.2 = bif keyS x && !(s.1.contains x) then some (.next (((n + 1 : Nat) : Int), mput s.2 x true)) else some (.done .ret) := by
        simp only [meta_Right.l0B, h1, idx_nat, hx, bd, meta_key_eq, cond_true, hs2, hwr]
        cases keyS x <;> cases s.1.contains x <;> rfl
      unfold keyG
      cases h : keyS x && !(s.1.contains x)
      · show meta_Right.l0B m (n : Int) s.2 = _
        rw [hbody, h]; rfl
      · refine ⟨(by show meta_Right.l0B m (n : Int) s.2 = _; rw [hbody, h]; rfl), (by show s.1 ++ [x] = _; rw [hs1, htake]), fun y => ?_⟩
        rw [mget_mput]
        by_cases hy : y = x
        · subst hy; simp
        · simp only [hy, if_false, hs2]
          rw [List.contains_append]
          have : (y == x) = false := by simpa using hy
          simp [this, hy]
    · simp [meta_Right.l0B]
  rw [e, keyG_all _ _ _ _ (fun _ _ => rfl)]

def withinS (n least : Int) : Bool := decide (least ≤ n) && decide (n ≤ 1099511627776)
def rightS (m : api_Meta) : Bool :=
  tagS ⟨m.Tag_Text, m.Tag_Weak⟩ && (decide (-1 ≤ m.Modified) && (decide (m.Modified ≤ 253402300799) && (withinS m.Length (-1) && (withinS m.Have 0 && ((!decide (0 ≤ m.Length) || decide (m.Have = m.Length)) &&
  (withinS m.Fresh 0 && (withinS m.While 0 && (withinS m.Error 0 && (keysS m.Keys && tenS m.Tenant)))))))))
theorem within_eq (n least : Int) : meta_within.f n least = some (withinS n least) := by
  unfold meta_within.f withinS
  cases decide (least ≤ n) <;> rfl

theorem meta_Right_eq (m : api_Meta) (hm : m.wf) : meta_Right.f m = some (rightS m) := by
  unfold api_Meta.wf at hm
  obtain ⟨ht, _, _, _, _, _, _, hk, hn⟩ := hm
  unfold meta_Right.f meta_Right.k0 meta_Right.k1 meta_Right.k2 meta_Right.k3 rightS keysS
  rw [meta_tagged_eq ⟨m.Tag_Text, m.Tag_Weak⟩ ht, meta_keys_eq m hk.1]
  simp only [within_eq, meta_tenant_eq m.Tenant hn, bd]
  have a1 : decide (m.Modified < -1) = !decide (-1 ≤ m.Modified) := by rw [← decide_not]; exact decide_eq_decide.2 (by omega)
  have a2 : decide ((253402300799 : Int) < m.Modified) = !decide (m.Modified ≤ 253402300799) := by rw [← decide_not]; exact decide_eq_decide.2 (by omega)
  have a3 : decide ((32 : Int) < (m.Keys.length : Int)) = !decide (m.Keys.length ≤ 32) := by rw [← decide_not]; exact decide_eq_decide.2 (by omega)
  rw [a1, a2, a3]
  generalize tagS ⟨m.Tag_Text, m.Tag_Weak⟩ = b1
  generalize decide (-1 ≤ m.Modified) = b2
  generalize decide (m.Modified ≤ 253402300799) = b3
  generalize withinS m.Length (-1) = b4
  generalize withinS m.Have 0 = b5
  generalize decide (0 ≤ m.Length) = b6
  generalize decide (m.Have = m.Length) = b7
  generalize withinS m.Fresh 0 = b8
  generalize withinS m.While 0 = b9
  generalize withinS m.Error 0 = b10
  generalize decide (m.Keys.length ≤ 32) = b11
  generalize okK [] m.Keys = b12
  generalize tenS m.Tenant = b13
  cases b1
  · rfl
  cases b2
  · rfl
  cases b3
  · rfl
  cases b4
  · rfl
  cases b5
  · rfl
  cases b6 <;> cases b7 <;> (try rfl) <;> cases b8 <;> (try rfl) <;> cases b9 <;> (try rfl) <;> cases b10 <;> (try rfl) <;> cases b11 <;> (try rfl) <;> cases b12 <;> cases b13 <;> rfl
end Go.Proofs.YtkmefgabcdocpaaDoor
