/-
  What the reading takes as it is: slices.SortFunc at spans, strings.Join, strconv.FormatInt below 100: each by the shelf's contract, laid over this program. Its conditions: none.
-/
import Derived.Test.YtcahamgecejmnaaDoorProg
import Derived.Test.YtcahamgecejmnaaDoorDenSort
import Derived.Test.YtcahamgecejmnaaDoorDenClone
import Derived.Test.YtcahamgecejmnaaDoorDenGrow
import Derived.Shelf.Lay
import Derived.OwnWalk
import Derived.Shelf.SlGeneric
import Derived.Shelf.Strings.OnBuilder
import Derived.Shelf.Strconv.Itoa4
import Derived.Ground.SlsfProg
import Derived.Ground.SlgnProg
import Derived.Ground.Names8Prog
import Derived.Ground.NamesProg
namespace Go.Proofs
open Go.Shelf Go.RowKit
shelf_lay_g SlLaysF0.n6 Slsf 6 at Tryd 40 as Tryd.laySort
shelf_lay_g SlLaysE0.n41 Slgn 41 at Tryd 49 as Tryd.layClone
shelf_lay_g Lays8.n4 Nm8 4 at Tryd 63 as Tryd.layGrow
shelf_lay Lays.n156 Nm 156 at Tryd as Tryd.layJoin
shelf_lay Lays.n173 Nm 173 at Tryd as Tryd.layInt
theorem Tryd.extra : Builder.Extra Tryd.prog Tryd.layJoin_ren where
  sizeBuilder := by kernel_rfl
  liesBuilder := by kernel_rfl
  t5 := by kernel_rfl
  a5 := fun _ => by kernel_rfl
  z5 := fun _ => by kernel_rfl
  v5 := fun _ => by kernel_rfl
  infoByte := by kernel_rfl
  cellsByte := by kernel_rfl
  sizeByte := by kernel_rfl
  neB5 := by decide

/-- The comparison that the spans are sorted by. -/
theorem Tryd.byFrom (x y : Int × Int) (W : World) : Calls Tryd.prog 41 #[.agg #[.int .i64 x.1, .int .i64 x.2], .agg #[.int .i64 y.1, .int .i64 y.2]] W fun e w' => e = .returned (.int .i64 (Lib.compareInt x.1 y.1)) ∧ ∃ q os', w' = Sort.grow (W.drewN q) os' := by
  go_enter Tryd.func41, Tryd.ntmps41
  go_wp2
  all_goals (go_ret; refine ⟨?_, 0, _, by rw [Sort.alloc_eq_grow, Sort.alloc_eq_grow, Sort.grow_grow]; rfl⟩)
  all_goals (unfold Lib.compareInt)
  · rename_i h; rw [if_pos h]; rfl
  · rename_i h1 h2; rw [if_neg (by omega), if_pos (by omega)]; rfl
  · rename_i h1 h2; rw [if_neg (by omega), if_neg (by omega)]; rfl
end Go.Proofs
namespace Go.Proofs.YtcahamgecejmnaaDoor
open Go Go.Den

/-! ### sorting spans -/
def spanEnc (p : Int × Int) : AV := .agg [.int .i64 p.1, .int .i64 p.2]
def spanDec : AV → Option (Int × Int)
  | .agg [.int .i64 a, .int .i64 b] => some (a, b)
  | _ => none
def spanVal (p : Int × Int) : List Value := [.int .i64 p.1, .int .i64 p.2]
def spanLt : Int × Int → Int × Int → Bool := Go.Proofs.ltOf fun x y : Int × Int => Lib.compareInt x.1 y.1
theorem spanLt_eq (x y : Int × Int) : spanLt x y = decide (x.1 < y.1) := by
  unfold spanLt Go.Proofs.ltOf Lib.compareInt
  by_cases h1 : x.1 < y.1
  · simp [h1]
  · by_cases h2 : y.1 < x.1 <;> simp [h1, h2]
theorem spanSWO : Go.Sort.SWO spanLt where
  irrefl x := by rw [spanLt_eq]; simp
  trans x y z h1 h2 := by rw [spanLt_eq] at *; simp at *; omega
  ntrans x y z h1 h2 := by rw [spanLt_eq] at *; simp at *; omega
theorem spanDec_ok : ∀ a b, spanDec a = some b → a = spanEnc b := by
  intro a b h
  unfold spanDec at h
  split at h
  · obtain rfl := Option.some.inj h; rfl
  · cases h
def sortP : Key → List AV → Heap → Option (AV × Heap) := fun _ => sortW 2 41 spanDec spanEnc (srt spanLt)
theorem sort_prim (X : Ctx) : WPrimOK Tryd.prog X 40 sortP := by
  refine ⟨⟨_, Tryd.func40, rfl, by kernel_rfl⟩, fun π args H r H' hq F B ι w vs hS ha => ?_⟩
  have := sort_ok (X := X) Tryd.laySort 2 (by decide) (fun _ => by kernel_rfl) (fun _ => by kernel_rfl) spanEnc spanDec spanDec_ok spanVal (fun _ => rfl)
    (fun x v hv => by simp [spanVal] at hv; rcases hv with rfl | rfl <;> rfl) (fun _ => rfl)
    (fun N w x j c v hc hv => by
      match j with
      | 0 => obtain rfl := Option.some.inj (show some (AV.int .i64 x.1) = some c from hc); cases hv; rfl
      | 1 => obtain rfl := Option.some.inj (show some (AV.int .i64 x.2) = some c from hc); cases hv; rfl
      | j + 2 => simp [spanEnc, AV.cells] at hc)
    (fun N w x j c v hc hv => by
      match j with
      | 0 => obtain rfl := Option.some.inj (show some (AV.int .i64 x.1) = some c from hc); obtain rfl := Option.some.inj (show some (Value.int .i64 x.1) = some v from hv); exact .int _ _
      | 1 => obtain rfl := Option.some.inj (show some (AV.int .i64 x.2) = some c from hc); obtain rfl := Option.some.inj (show some (Value.int .i64 x.2) = some v from hv); exact .int _ _
      | j + 2 => simp [spanEnc, AV.cells] at hc)
    (fun x y : Int × Int => Lib.compareInt x.1 y.1) spanSWO 41 (Go.Proofs.enters_of Tryd.func41 (by kernel_rfl) rfl) (fun x y W => Tryd.byFrom x y W) hq vs hS ha
  exact this

/-! ### strings.Join -/
def strDec : AV → Option (List UInt8)
  | .str s => some s
  | _ => none
theorem strDec_ok : ∀ a b, strDec a = some b → a = AV.str b := by
  intro a b h
  unfold strDec at h
  split at h
  · obtain rfl := Option.some.inj h; rfl
  · cases h
def joinP : List AV → Option AV
  | [.sl l, .str sep] => match decL strDec l with
    | some xs => if xs.length ≤ 140737488355328 ∧ (Lib.join xs sep).length ≤ 140737488355328 then some (.str (Lib.join xs sep)) else none
    | none => none
  | _ => none
theorem join_prim : PrimOK Tryd.prog 54 joinP := by
  refine ⟨⟨_, Tryd.func54, rfl, by kernel_rfl⟩, fun args r h N w vs hN ha => ?_⟩
  unfold joinP at h
  split at h
  · rename_i l sep
    split at h
    · rename_i xs hx
      split at h
      · rename_i hc
        obtain rfl := Option.some.inj h
        obtain ⟨x, y, rfl, h1, h2⟩ := all2_two ha
        obtain rfl : y = .string ⟨sep.toArray⟩ := by cases h2; rfl
        have hl := decL_map strDec_ok hx
        have none : xs = [] → ∀ a c, Calls Tryd.prog 54 #[.slice a 0 c, .string ⟨sep.toArray⟩] w (fun e w' => ∃ v, e = .returned v ∧ VD N w' (.str (Lib.join xs sep)) v ∧ Go.RowKit.Below w.heap.size w w') := by
          rintro rfl a c
          have hcon := Any.strings_Join_none Tryd.layJoin Tryd.extra a c ⟨sep.toArray⟩ w
          change Calls Tryd.prog 54 _ _ _ at hcon
          refine hcon.mono ?_
          rintro e w' ⟨rfl, rfl⟩
          exact ⟨_, rfl, .str [], Go.RowKit.Below.refl _ _⟩
        cases h1 with
        | sl0 a c _ => exact none (by cases xs with | nil => rfl | cons _ _ => simp at hl) a c
        | sl sz _ b o cap vf hcap hsz hw hv =>
          by_cases h0 : xs = []
          · have : l.length = 0 := by rw [hl, h0]; rfl
            rw [this]
            exact none h0 _ _
          · have hlen : l.length = xs.length := by rw [hl]; simp
            have hget : ∀ (j : Nat) s, xs[j]? = some s → w.cell? ⟨b, o + j, Option.none⟩ = some (.string ⟨s.toArray⟩) := by
              intro j s hj
              have hlj : l[j]? = some (.str s) := by rw [hl, List.getElem?_map, hj]; rfl
              have hs1 : sz = 1 := (hsz _ (List.mem_of_getElem? hlj)).symm
              obtain ⟨_, q2, _⟩ := hw j (.str s) 0 (.str s) hlj rfl
              have q3 := hv j (.str s) 0 (.str s) hlj rfl
              rw [hs1, Nat.mul_one, Nat.add_zero] at q2
              rw [q2]
              generalize vf j 0 = u at q3
              cases q3; rfl
            obtain ⟨s0, hs0⟩ : ∃ s, xs[0]? = some s := by cases xs with | nil => exact absurd rfl h0 | cons a _ => exact ⟨a, rfl⟩
            have hb : b < w.heap.size := lt_of_cell (hget 0 s0 hs0)
            have e1 : (xs.map fun s => (⟨s.toArray⟩ : ByteArray)).map (·.data.toList) = xs := by
              rw [List.map_map]
              exact List.map_id' xs
            have hcon := Any.strings_Join Tryd.layJoin Tryd.extra b o cap (xs.map fun s => (⟨s.toArray⟩ : ByteArray)) ⟨sep.toArray⟩ w (fun j x hj => by
                rw [List.getElem?_map] at hj
                obtain ⟨s, hs, rfl⟩ := Option.map_eq_some_iff.1 hj
                exact hget j s hs) hb (by simpa using hc.1) (by simpa [hlen] using hcap) (by rw [e1]; simpa using hc.2)
            rw [e1] at hcon
            change Calls Tryd.prog 54 _ _ _ at hcon
            rw [hlen]
            have e2 : (xs.map fun s => (⟨s.toArray⟩ : ByteArray)).length = xs.length := by simp
            rw [e2] at hcon
            refine hcon.mono ?_
            rintro e w' ⟨rfl, hbw⟩
            exact ⟨_, rfl, .str _, hbw⟩
      · cases h
    · cases h
  · cases h

/-! ### strconv.FormatInt, below 100 -/
def dig (n : Nat) : List UInt8 := if n < 10 then [UInt8.ofNat (48 + n)] else [UInt8.ofNat (48 + n / 10), UInt8.ofNat (48 + n % 10)]
theorem dig_eq : ∀ n, n < 100 → Lib.decDigits n = dig n := by
  intro n h
  unfold dig
  by_cases h1 : n < 10
  · rw [if_pos h1, Lib.decDigits, dif_pos h1]
  · rw [if_neg h1, Lib.decDigits, dif_neg h1, Lib.decDigits, dif_pos (by omega)]; rfl
def intP : List AV → Option AV
  | [.int .i64 n, .int .i64 b] => if 0 ≤ n ∧ n < 100 ∧ b = 10 then some (.str (dig n.toNat)) else none
  | _ => none
theorem int_prim : PrimOK Tryd.prog 65 intP := by
  refine ⟨⟨_, Tryd.func65, rfl, by kernel_rfl⟩, fun args r h N w vs hN ha => ?_⟩
  unfold intP at h
  split at h
  · rename_i n b
    split at h
    · rename_i hc
      obtain ⟨h1, h2, rfl⟩ := hc
      obtain rfl := Option.some.inj h
      obtain ⟨x, y, rfl, q1, q2⟩ := all2_two ha
      obtain rfl : x = .int .i64 n := by cases q1; rfl
      obtain rfl : y = .int .i64 10 := by cases q2; rfl
      obtain ⟨i, rfl⟩ : ∃ i : Nat, n = i := ⟨n.toNat, by omega⟩
      have hcon := Any.strconv_FormatInt_10_small Tryd.layInt i (by omega) w
      change Calls Tryd.prog 65 _ _ _ at hcon
      refine hcon.mono ?_
      rintro e w' ⟨rfl, rfl⟩
      rw [dig_eq i (by omega)]
      exact ⟨_, rfl, .str _, Go.RowKit.Below.refl _ _⟩
    · cases h
  · cases h

/-! ### slices.Clone at spans -/
def cloneP : List AV → Option AV := cloneW 2 16
theorem spanInfo : (Tryd.prog.info? 29).map (fun i => (i.zero, i.size, i.bytes)) = some (some (.agg #[.int .i64 0, .int .i64 0]), 2, 16) := by kernel_rfl
theorem clone_prim : PrimOK Tryd.prog 49 cloneP := by
  refine ⟨⟨_, Tryd.func49, rfl, by kernel_rfl⟩, fun args r h N w vs hN ha => ?_⟩
  obtain ⟨i0, hi, hz0, hz1, hz2⟩ := Go.info_parts spanInfo
  exact clone_ok Tryd.layClone i0 _ 2 16 hi hz0 hz1 hz2 rfl (by decide) (fun _ => by kernel_rfl) h vs hN ha

/-! ### slices.Grow at spans -/
def growP : Key → List AV → Heap → Option (AV × Heap) := growW 2 16
theorem grow_prim (X : Ctx) : WPrimOK Tryd.prog X 63 growP := by
  refine ⟨⟨_, Tryd.func63, rfl, by kernel_rfl⟩, fun π args H r H' hq F B ι w vs hS ha => ?_⟩
  obtain ⟨i0, hi, hz0, hz1, hz2⟩ := Go.info_parts spanInfo
  exact grow_ok (X := X) Tryd.layGrow i0 _ 2 16 hi hz0 hz1 hz2 rfl (by decide) hq vs hS ha

def prims (f : Nat) : Option (List AV → Option AV) := if f = 54 then some joinP else if f = 65 then some intP else if f = 49 then some cloneP else none
def wprims (f : Nat) : Option (Key → List AV → Heap → Option (AV × Heap)) := if f = 40 then some sortP else if f = 63 then some growP else none
theorem prims_ok : ∀ f p, prims f = some p → PrimOK Tryd.prog f p := by
  intro f p h
  unfold prims at h
  split at h
  · rename_i e; subst e; obtain rfl := Option.some.inj h; exact join_prim
  · split at h
    · rename_i e; subst e; obtain rfl := Option.some.inj h; exact int_prim
    · split at h
      · rename_i e; subst e; obtain rfl := Option.some.inj h; exact clone_prim
      · cases h
theorem wprims_ok (X : Ctx) : ∀ f q, wprims f = some q → WPrimOK Tryd.prog X f q := by
  intro f q h
  unfold wprims at h
  split at h
  · rename_i e; subst e; obtain rfl := Option.some.inj h; exact sort_prim X
  · split at h
    · rename_i e; subst e; obtain rfl := Option.some.inj h; exact grow_prim X
    · cases h
end Go.Proofs.YtcahamgecejmnaaDoor
