/-
  The program's types, told plainly. Its conditions: none.
-/
import Derived.Test.YtchlkbnjamgihaaDoorCode
namespace Go.Proofs.YtchlkbnjamgihaaDoor
open Go Go.Den
set_option maxRecDepth 100000
set_option linter.unusedSimpArgs false
set_option linter.unusedVariables false
structure api_Tag where
  Text : (List UInt8)
  Weak : Bool
def api_Tag.enc (x : api_Tag) : AV := .agg [(.str x.Text), (.bool x.Weak)]
theorem api_Tag.enc_eq (x : api_Tag) : x.enc = .agg [(.str x.Text), (.bool x.Weak)] := rfl
theorem api_Tag.eta (x : api_Tag) : (api_Tag.mk x.Text x.Weak) = x := rfl
def api_Tag.wf (x : api_Tag) : Prop := x.Text.length ≤ maxLen
theorem api_Tag.of_ {cs : List AV} (h : TyL [.str, .bool] cs) : ∃ x : api_Tag, cs = [(.str x.Text), (.bool x.Weak)] ∧ x.wf := by
  try simp only [TyL] at h
  obtain ⟨v0, c0, rfl, hv0, h⟩ := h
  obtain ⟨n0, rfl, w0⟩ := hv0
  try simp only [TyL] at h
  obtain ⟨v1, c1, rfl, hv1, h⟩ := h
  obtain ⟨n1, rfl⟩ := hv1
  try simp only [TyL] at h
  subst h
  exact ⟨⟨n0, n1⟩, rfl, w0⟩
theorem api_Tag.len_ (x : api_Tag) : (api_Tag.enc x).cells.length = 2 := rfl
theorem api_Tag.at_ {H : Heap} {k : IntKind} {l : List api_Tag} {i : Int} : indexAddrA H 2 (.sl (encL api_Tag.enc l)) (.int k i) = (idx l i).map fun a => .rp (api_Tag.enc a) 0 := at_enc api_Tag.len_
theorem api_Tag.sized (l : List api_Tag) : AV.sized 2 (encL api_Tag.enc l) = true := encL_sized api_Tag.len_ l
theorem api_Tag.set_ (l : List api_Tag) (n : Nat) (Text : (List UInt8)) (Weak : Bool) : (encL api_Tag.enc l).set n (.agg [(.str Text), (.bool Weak)]) = encL api_Tag.enc (l.set n ⟨Text, Weak⟩) := encL_set _ l n ⟨Text, Weak⟩
theorem api_Tag.cut_ {H : Heap} {k k' : IntKind} {l : List api_Tag} {lo hi : Int} : sliceA H 2 (.sl (encL api_Tag.enc l)) (some (.int k lo)) (some (.int k' hi)) = (cut l lo hi).map fun m => .sl (encL api_Tag.enc m) := sl_cut api_Tag.len_
theorem api_Tag.cut__lo {H : Heap} {k k' : IntKind} {l : List api_Tag} {lo hi : Int} : sliceA H 2 (.sl (encL api_Tag.enc l)) (some (.int k lo)) none = (cut l lo l.length).map fun m => .sl (encL api_Tag.enc m) := sl_cut_lo api_Tag.len_
theorem api_Tag.cut__hi {H : Heap} {k k' : IntKind} {l : List api_Tag} {lo hi : Int} : sliceA H 2 (.sl (encL api_Tag.enc l)) none (some (.int k' hi)) = (cut l 0 hi).map fun m => .sl (encL api_Tag.enc m) := sl_cut_hi api_Tag.len_
structure api_Cond where
  Match : (List api_Tag)
  None : (List api_Tag)
  AnyMatch : Bool
  AnyNone : Bool
  Since : Int
  Unless : Int
  Range_Text : (List UInt8)
  Range_Weak : Bool
def api_Cond.enc (x : api_Cond) : AV := .agg [(.sl (encL api_Tag.enc x.Match)), (.sl (encL api_Tag.enc x.None)), (.bool x.AnyMatch), (.bool x.AnyNone), (.int .i64 x.Since), (.int .i64 x.Unless), (.str x.Range_Text), (.bool x.Range_Weak)]
theorem api_Cond.enc_eq (x : api_Cond) : x.enc = .agg [(.sl (encL api_Tag.enc x.Match)), (.sl (encL api_Tag.enc x.None)), (.bool x.AnyMatch), (.bool x.AnyNone), (.int .i64 x.Since), (.int .i64 x.Unless), (.str x.Range_Text), (.bool x.Range_Weak)] := rfl
theorem api_Cond.eta (x : api_Cond) : (api_Cond.mk x.Match x.None x.AnyMatch x.AnyNone x.Since x.Unless x.Range_Text x.Range_Weak) = x := rfl
def api_Cond.wf (x : api_Cond) : Prop := (x.Match.length ≤ maxLen ∧ ∀ y ∈ x.Match, y.wf) ∧ (x.None.length ≤ maxLen ∧ ∀ y ∈ x.None, y.wf) ∧ (Lit.int .i64 x.Since).wf = true ∧ (Lit.int .i64 x.Unless).wf = true ∧ x.Range_Text.length ≤ maxLen
theorem api_Cond.of_ {cs : List AV} (h : TyL [.sl true [.str, .bool], .sl true [.str, .bool], .bool, .bool, .int .i64, .int .i64, .str, .bool] cs) : ∃ x : api_Cond, cs = [(.sl (encL api_Tag.enc x.Match)), (.sl (encL api_Tag.enc x.None)), (.bool x.AnyMatch), (.bool x.AnyNone), (.int .i64 x.Since), (.int .i64 x.Unless), (.str x.Range_Text), (.bool x.Range_Weak)] ∧ x.wf := by
  try simp only [TyL] at h
  obtain ⟨v0, c0, rfl, hv0, h⟩ := h
  simp only [TyC] at hv0
  obtain ⟨es0, rfl, w0, q0⟩ := hv0
  obtain ⟨n0, rfl, z0⟩ := encL_of (f := api_Tag.enc) (p := fun y => y.wf) (fun e he => by obtain ⟨cs, rfl, hc⟩ := q0 e he; obtain ⟨x, rfl, hx⟩ := api_Tag.of_ hc; exact ⟨x, rfl, hx⟩)
  rw [encL_length] at w0
  try simp only [TyL] at h
  obtain ⟨v1, c1, rfl, hv1, h⟩ := h
  simp only [TyC] at hv1
  obtain ⟨es1, rfl, w1, q1⟩ := hv1
  obtain ⟨n1, rfl, z1⟩ := encL_of (f := api_Tag.enc) (p := fun y => y.wf) (fun e he => by obtain ⟨cs, rfl, hc⟩ := q1 e he; obtain ⟨x, rfl, hx⟩ := api_Tag.of_ hc; exact ⟨x, rfl, hx⟩)
  rw [encL_length] at w1
  try simp only [TyL] at h
  obtain ⟨v2, c2, rfl, hv2, h⟩ := h
  obtain ⟨n2, rfl⟩ := hv2
  try simp only [TyL] at h
  obtain ⟨v3, c3, rfl, hv3, h⟩ := h
  obtain ⟨n3, rfl⟩ := hv3
  try simp only [TyL] at h
  obtain ⟨v4, c4, rfl, hv4, h⟩ := h
  obtain ⟨n4, rfl, w4⟩ := hv4
  try simp only [TyL] at h
  obtain ⟨v5, c5, rfl, hv5, h⟩ := h
  obtain ⟨n5, rfl, w5⟩ := hv5
  try simp only [TyL] at h
  obtain ⟨v6, c6, rfl, hv6, h⟩ := h
  obtain ⟨n6, rfl, w6⟩ := hv6
  try simp only [TyL] at h
  obtain ⟨v7, c7, rfl, hv7, h⟩ := h
  obtain ⟨n7, rfl⟩ := hv7
  try simp only [TyL] at h
  subst h
  exact ⟨⟨n0, n1, n2, n3, n4, n5, n6, n7⟩, rfl, ⟨⟨w0, z0⟩, ⟨w1, z1⟩, w4, w5, w6⟩⟩
theorem api_Cond.len_ (x : api_Cond) : (api_Cond.enc x).cells.length = 8 := rfl
theorem api_Cond.at_ {H : Heap} {k : IntKind} {l : List api_Cond} {i : Int} : indexAddrA H 8 (.sl (encL api_Cond.enc l)) (.int k i) = (idx l i).map fun a => .rp (api_Cond.enc a) 0 := at_enc api_Cond.len_
theorem api_Cond.sized (l : List api_Cond) : AV.sized 8 (encL api_Cond.enc l) = true := encL_sized api_Cond.len_ l
theorem api_Cond.set_ (l : List api_Cond) (n : Nat) (Match : (List api_Tag)) (None : (List api_Tag)) (AnyMatch : Bool) (AnyNone : Bool) (Since : Int) (Unless : Int) (Range_Text : (List UInt8)) (Range_Weak : Bool) : (encL api_Cond.enc l).set n (.agg [(.sl (encL api_Tag.enc Match)), (.sl (encL api_Tag.enc None)), (.bool AnyMatch), (.bool AnyNone), (.int .i64 Since), (.int .i64 Unless), (.str Range_Text), (.bool Range_Weak)]) = encL api_Cond.enc (l.set n ⟨Match, None, AnyMatch, AnyNone, Since, Unless, Range_Text, Range_Weak⟩) := encL_set _ l n ⟨Match, None, AnyMatch, AnyNone, Since, Unless, Range_Text, Range_Weak⟩
theorem api_Cond.cut_ {H : Heap} {k k' : IntKind} {l : List api_Cond} {lo hi : Int} : sliceA H 8 (.sl (encL api_Cond.enc l)) (some (.int k lo)) (some (.int k' hi)) = (cut l lo hi).map fun m => .sl (encL api_Cond.enc m) := sl_cut api_Cond.len_
theorem api_Cond.cut__lo {H : Heap} {k k' : IntKind} {l : List api_Cond} {lo hi : Int} : sliceA H 8 (.sl (encL api_Cond.enc l)) (some (.int k lo)) none = (cut l lo l.length).map fun m => .sl (encL api_Cond.enc m) := sl_cut_lo api_Cond.len_
theorem api_Cond.cut__hi {H : Heap} {k k' : IntKind} {l : List api_Cond} {lo hi : Int} : sliceA H 8 (.sl (encL api_Cond.enc l)) none (some (.int k' hi)) = (cut l 0 hi).map fun m => .sl (encL api_Cond.enc m) := sl_cut_hi api_Cond.len_
structure api_Meta where
  Tag_Text : (List UInt8)
  Tag_Weak : Bool
  Modified : Int
  Length : Int
  Have : Int
  Fresh : Int
  While : Int
  Error : Int
  Keys : (List (List UInt8))
  Tenant : (List UInt8)
  Keep : Bool
def api_Meta.enc (x : api_Meta) : AV := .agg [(.str x.Tag_Text), (.bool x.Tag_Weak), (.int .i64 x.Modified), (.int .i64 x.Length), (.int .i64 x.Have), (.int .i64 x.Fresh), (.int .i64 x.While), (.int .i64 x.Error), (.sl (encL AV.str x.Keys)), (.str x.Tenant), (.bool x.Keep)]
theorem api_Meta.enc_eq (x : api_Meta) : x.enc = .agg [(.str x.Tag_Text), (.bool x.Tag_Weak), (.int .i64 x.Modified), (.int .i64 x.Length), (.int .i64 x.Have), (.int .i64 x.Fresh), (.int .i64 x.While), (.int .i64 x.Error), (.sl (encL AV.str x.Keys)), (.str x.Tenant), (.bool x.Keep)] := rfl
theorem api_Meta.eta (x : api_Meta) : (api_Meta.mk x.Tag_Text x.Tag_Weak x.Modified x.Length x.Have x.Fresh x.While x.Error x.Keys x.Tenant x.Keep) = x := rfl
def api_Meta.wf (x : api_Meta) : Prop := x.Tag_Text.length ≤ maxLen ∧ (Lit.int .i64 x.Modified).wf = true ∧ (Lit.int .i64 x.Length).wf = true ∧ (Lit.int .i64 x.Have).wf = true ∧ (Lit.int .i64 x.Fresh).wf = true ∧ (Lit.int .i64 x.While).wf = true ∧ (Lit.int .i64 x.Error).wf = true ∧ (x.Keys.length ≤ maxLen ∧ ∀ y ∈ x.Keys, y.length ≤ maxLen) ∧ x.Tenant.length ≤ maxLen
theorem api_Meta.of_ {cs : List AV} (h : TyL [.str, .bool, .int .i64, .int .i64, .int .i64, .int .i64, .int .i64, .int .i64, .sl false [.str], .str, .bool] cs) : ∃ x : api_Meta, cs = [(.str x.Tag_Text), (.bool x.Tag_Weak), (.int .i64 x.Modified), (.int .i64 x.Length), (.int .i64 x.Have), (.int .i64 x.Fresh), (.int .i64 x.While), (.int .i64 x.Error), (.sl (encL AV.str x.Keys)), (.str x.Tenant), (.bool x.Keep)] ∧ x.wf := by
  try simp only [TyL] at h
  obtain ⟨v0, c0, rfl, hv0, h⟩ := h
  obtain ⟨n0, rfl, w0⟩ := hv0
  try simp only [TyL] at h
  obtain ⟨v1, c1, rfl, hv1, h⟩ := h
  obtain ⟨n1, rfl⟩ := hv1
  try simp only [TyL] at h
  obtain ⟨v2, c2, rfl, hv2, h⟩ := h
  obtain ⟨n2, rfl, w2⟩ := hv2
  try simp only [TyL] at h
  obtain ⟨v3, c3, rfl, hv3, h⟩ := h
  obtain ⟨n3, rfl, w3⟩ := hv3
  try simp only [TyL] at h
  obtain ⟨v4, c4, rfl, hv4, h⟩ := h
  obtain ⟨n4, rfl, w4⟩ := hv4
  try simp only [TyL] at h
  obtain ⟨v5, c5, rfl, hv5, h⟩ := h
  obtain ⟨n5, rfl, w5⟩ := hv5
  try simp only [TyL] at h
  obtain ⟨v6, c6, rfl, hv6, h⟩ := h
  obtain ⟨n6, rfl, w6⟩ := hv6
  try simp only [TyL] at h
  obtain ⟨v7, c7, rfl, hv7, h⟩ := h
  obtain ⟨n7, rfl, w7⟩ := hv7
  try simp only [TyL] at h
  obtain ⟨v8, c8, rfl, hv8, h⟩ := h
  simp only [TyC] at hv8
  obtain ⟨es8, rfl, w8, q8⟩ := hv8
  obtain ⟨n8, rfl, z8⟩ := encL_of (f := AV.str) (p := fun y => y.length ≤ maxLen) (fun e he => by obtain ⟨cs, rfl, hc⟩ := q8 e he; have h := hc; (try simp only [TyL] at h); obtain ⟨v9, c9, rfl, hv9, h⟩ := h; obtain ⟨n9, rfl, w9⟩ := hv9; (try simp only [TyL] at h); subst h; exact ⟨n9, rfl, w9⟩)
  rw [encL_length] at w8
  try simp only [TyL] at h
  obtain ⟨v9, c9, rfl, hv9, h⟩ := h
  obtain ⟨n9, rfl, w9⟩ := hv9
  try simp only [TyL] at h
  obtain ⟨v10, c10, rfl, hv10, h⟩ := h
  obtain ⟨n10, rfl⟩ := hv10
  try simp only [TyL] at h
  subst h
  exact ⟨⟨n0, n1, n2, n3, n4, n5, n6, n7, n8, n9, n10⟩, rfl, ⟨w0, w2, w3, w4, w5, w6, w7, ⟨w8, z8⟩, w9⟩⟩
theorem api_Meta.len_ (x : api_Meta) : (api_Meta.enc x).cells.length = 11 := rfl
theorem api_Meta.at_ {H : Heap} {k : IntKind} {l : List api_Meta} {i : Int} : indexAddrA H 11 (.sl (encL api_Meta.enc l)) (.int k i) = (idx l i).map fun a => .rp (api_Meta.enc a) 0 := at_enc api_Meta.len_
theorem api_Meta.sized (l : List api_Meta) : AV.sized 11 (encL api_Meta.enc l) = true := encL_sized api_Meta.len_ l
theorem api_Meta.set_ (l : List api_Meta) (n : Nat) (Tag_Text : (List UInt8)) (Tag_Weak : Bool) (Modified : Int) (Length : Int) (Have : Int) (Fresh : Int) (While : Int) (Error : Int) (Keys : (List (List UInt8))) (Tenant : (List UInt8)) (Keep : Bool) : (encL api_Meta.enc l).set n (.agg [(.str Tag_Text), (.bool Tag_Weak), (.int .i64 Modified), (.int .i64 Length), (.int .i64 Have), (.int .i64 Fresh), (.int .i64 While), (.int .i64 Error), (.sl (encL AV.str Keys)), (.str Tenant), (.bool Keep)]) = encL api_Meta.enc (l.set n ⟨Tag_Text, Tag_Weak, Modified, Length, Have, Fresh, While, Error, Keys, Tenant, Keep⟩) := encL_set _ l n ⟨Tag_Text, Tag_Weak, Modified, Length, Have, Fresh, While, Error, Keys, Tenant, Keep⟩
theorem api_Meta.cut_ {H : Heap} {k k' : IntKind} {l : List api_Meta} {lo hi : Int} : sliceA H 11 (.sl (encL api_Meta.enc l)) (some (.int k lo)) (some (.int k' hi)) = (cut l lo hi).map fun m => .sl (encL api_Meta.enc m) := sl_cut api_Meta.len_
theorem api_Meta.cut__lo {H : Heap} {k k' : IntKind} {l : List api_Meta} {lo hi : Int} : sliceA H 11 (.sl (encL api_Meta.enc l)) (some (.int k lo)) none = (cut l lo l.length).map fun m => .sl (encL api_Meta.enc m) := sl_cut_lo api_Meta.len_
theorem api_Meta.cut__hi {H : Heap} {k k' : IntKind} {l : List api_Meta} {lo hi : Int} : sliceA H 11 (.sl (encL api_Meta.enc l)) none (some (.int k' hi)) = (cut l 0 hi).map fun m => .sl (encL api_Meta.enc m) := sl_cut_hi api_Meta.len_
structure api_Spec where
  From : Int
  To : Int
def api_Spec.enc (x : api_Spec) : AV := .agg [(.int .i64 x.From), (.int .i64 x.To)]
theorem api_Spec.enc_eq (x : api_Spec) : x.enc = .agg [(.int .i64 x.From), (.int .i64 x.To)] := rfl
theorem api_Spec.eta (x : api_Spec) : (api_Spec.mk x.From x.To) = x := rfl
def api_Spec.wf (x : api_Spec) : Prop := (Lit.int .i64 x.From).wf = true ∧ (Lit.int .i64 x.To).wf = true
theorem api_Spec.of_ {cs : List AV} (h : TyL [.int .i64, .int .i64] cs) : ∃ x : api_Spec, cs = [(.int .i64 x.From), (.int .i64 x.To)] ∧ x.wf := by
  try simp only [TyL] at h
  obtain ⟨v0, c0, rfl, hv0, h⟩ := h
  obtain ⟨n0, rfl, w0⟩ := hv0
  try simp only [TyL] at h
  obtain ⟨v1, c1, rfl, hv1, h⟩ := h
  obtain ⟨n1, rfl, w1⟩ := hv1
  try simp only [TyL] at h
  subst h
  exact ⟨⟨n0, n1⟩, rfl, ⟨w0, w1⟩⟩
theorem api_Spec.len_ (x : api_Spec) : (api_Spec.enc x).cells.length = 2 := rfl
theorem api_Spec.at_ {H : Heap} {k : IntKind} {l : List api_Spec} {i : Int} : indexAddrA H 2 (.sl (encL api_Spec.enc l)) (.int k i) = (idx l i).map fun a => .rp (api_Spec.enc a) 0 := at_enc api_Spec.len_
theorem api_Spec.sized (l : List api_Spec) : AV.sized 2 (encL api_Spec.enc l) = true := encL_sized api_Spec.len_ l
theorem api_Spec.set_ (l : List api_Spec) (n : Nat) (From : Int) (To : Int) : (encL api_Spec.enc l).set n (.agg [(.int .i64 From), (.int .i64 To)]) = encL api_Spec.enc (l.set n ⟨From, To⟩) := encL_set _ l n ⟨From, To⟩
theorem api_Spec.cut_ {H : Heap} {k k' : IntKind} {l : List api_Spec} {lo hi : Int} : sliceA H 2 (.sl (encL api_Spec.enc l)) (some (.int k lo)) (some (.int k' hi)) = (cut l lo hi).map fun m => .sl (encL api_Spec.enc m) := sl_cut api_Spec.len_
theorem api_Spec.cut__lo {H : Heap} {k k' : IntKind} {l : List api_Spec} {lo hi : Int} : sliceA H 2 (.sl (encL api_Spec.enc l)) (some (.int k lo)) none = (cut l lo l.length).map fun m => .sl (encL api_Spec.enc m) := sl_cut_lo api_Spec.len_
theorem api_Spec.cut__hi {H : Heap} {k k' : IntKind} {l : List api_Spec} {lo hi : Int} : sliceA H 2 (.sl (encL api_Spec.enc l)) none (some (.int k' hi)) = (cut l 0 hi).map fun m => .sl (encL api_Spec.enc m) := sl_cut_hi api_Spec.len_
structure api_Request where
  Head : Bool
  Object : (List UInt8)
  Specs : (List api_Spec)
  Cond_Match : (List api_Tag)
  Cond_None : (List api_Tag)
  Cond_AnyMatch : Bool
  Cond_AnyNone : Bool
  Cond_Since : Int
  Cond_Unless : Int
  Cond_Range_Text : (List UInt8)
  Cond_Range_Weak : Bool
def api_Request.enc (x : api_Request) : AV := .agg [(.bool x.Head), (.str x.Object), (.sl (encL api_Spec.enc x.Specs)), (.sl (encL api_Tag.enc x.Cond_Match)), (.sl (encL api_Tag.enc x.Cond_None)), (.bool x.Cond_AnyMatch), (.bool x.Cond_AnyNone), (.int .i64 x.Cond_Since), (.int .i64 x.Cond_Unless), (.str x.Cond_Range_Text), (.bool x.Cond_Range_Weak)]
theorem api_Request.enc_eq (x : api_Request) : x.enc = .agg [(.bool x.Head), (.str x.Object), (.sl (encL api_Spec.enc x.Specs)), (.sl (encL api_Tag.enc x.Cond_Match)), (.sl (encL api_Tag.enc x.Cond_None)), (.bool x.Cond_AnyMatch), (.bool x.Cond_AnyNone), (.int .i64 x.Cond_Since), (.int .i64 x.Cond_Unless), (.str x.Cond_Range_Text), (.bool x.Cond_Range_Weak)] := rfl
theorem api_Request.eta (x : api_Request) : (api_Request.mk x.Head x.Object x.Specs x.Cond_Match x.Cond_None x.Cond_AnyMatch x.Cond_AnyNone x.Cond_Since x.Cond_Unless x.Cond_Range_Text x.Cond_Range_Weak) = x := rfl
def api_Request.wf (x : api_Request) : Prop := x.Object.length ≤ maxLen ∧ (x.Specs.length ≤ maxLen ∧ ∀ y ∈ x.Specs, y.wf) ∧ (x.Cond_Match.length ≤ maxLen ∧ ∀ y ∈ x.Cond_Match, y.wf) ∧ (x.Cond_None.length ≤ maxLen ∧ ∀ y ∈ x.Cond_None, y.wf) ∧ (Lit.int .i64 x.Cond_Since).wf = true ∧ (Lit.int .i64 x.Cond_Unless).wf = true ∧ x.Cond_Range_Text.length ≤ maxLen
theorem api_Request.of_ {cs : List AV} (h : TyL [.bool, .str, .sl true [.int .i64, .int .i64], .sl true [.str, .bool], .sl true [.str, .bool], .bool, .bool, .int .i64, .int .i64, .str, .bool] cs) : ∃ x : api_Request, cs = [(.bool x.Head), (.str x.Object), (.sl (encL api_Spec.enc x.Specs)), (.sl (encL api_Tag.enc x.Cond_Match)), (.sl (encL api_Tag.enc x.Cond_None)), (.bool x.Cond_AnyMatch), (.bool x.Cond_AnyNone), (.int .i64 x.Cond_Since), (.int .i64 x.Cond_Unless), (.str x.Cond_Range_Text), (.bool x.Cond_Range_Weak)] ∧ x.wf := by
  try simp only [TyL] at h
  obtain ⟨v0, c0, rfl, hv0, h⟩ := h
  obtain ⟨n0, rfl⟩ := hv0
  try simp only [TyL] at h
  obtain ⟨v1, c1, rfl, hv1, h⟩ := h
  obtain ⟨n1, rfl, w1⟩ := hv1
  try simp only [TyL] at h
  obtain ⟨v2, c2, rfl, hv2, h⟩ := h
  simp only [TyC] at hv2
  obtain ⟨es2, rfl, w2, q2⟩ := hv2
  obtain ⟨n2, rfl, z2⟩ := encL_of (f := api_Spec.enc) (p := fun y => y.wf) (fun e he => by obtain ⟨cs, rfl, hc⟩ := q2 e he; obtain ⟨x, rfl, hx⟩ := api_Spec.of_ hc; exact ⟨x, rfl, hx⟩)
  rw [encL_length] at w2
  try simp only [TyL] at h
  obtain ⟨v3, c3, rfl, hv3, h⟩ := h
  simp only [TyC] at hv3
  obtain ⟨es3, rfl, w3, q3⟩ := hv3
  obtain ⟨n3, rfl, z3⟩ := encL_of (f := api_Tag.enc) (p := fun y => y.wf) (fun e he => by obtain ⟨cs, rfl, hc⟩ := q3 e he; obtain ⟨x, rfl, hx⟩ := api_Tag.of_ hc; exact ⟨x, rfl, hx⟩)
  rw [encL_length] at w3
  try simp only [TyL] at h
  obtain ⟨v4, c4, rfl, hv4, h⟩ := h
  simp only [TyC] at hv4
  obtain ⟨es4, rfl, w4, q4⟩ := hv4
  obtain ⟨n4, rfl, z4⟩ := encL_of (f := api_Tag.enc) (p := fun y => y.wf) (fun e he => by obtain ⟨cs, rfl, hc⟩ := q4 e he; obtain ⟨x, rfl, hx⟩ := api_Tag.of_ hc; exact ⟨x, rfl, hx⟩)
  rw [encL_length] at w4
  try simp only [TyL] at h
  obtain ⟨v5, c5, rfl, hv5, h⟩ := h
  obtain ⟨n5, rfl⟩ := hv5
  try simp only [TyL] at h
  obtain ⟨v6, c6, rfl, hv6, h⟩ := h
  obtain ⟨n6, rfl⟩ := hv6
  try simp only [TyL] at h
  obtain ⟨v7, c7, rfl, hv7, h⟩ := h
  obtain ⟨n7, rfl, w7⟩ := hv7
  try simp only [TyL] at h
  obtain ⟨v8, c8, rfl, hv8, h⟩ := h
  obtain ⟨n8, rfl, w8⟩ := hv8
  try simp only [TyL] at h
  obtain ⟨v9, c9, rfl, hv9, h⟩ := h
  obtain ⟨n9, rfl, w9⟩ := hv9
  try simp only [TyL] at h
  obtain ⟨v10, c10, rfl, hv10, h⟩ := h
  obtain ⟨n10, rfl⟩ := hv10
  try simp only [TyL] at h
  subst h
  exact ⟨⟨n0, n1, n2, n3, n4, n5, n6, n7, n8, n9, n10⟩, rfl, ⟨w1, ⟨w2, z2⟩, ⟨w3, z3⟩, ⟨w4, z4⟩, w7, w8, w9⟩⟩
theorem api_Request.len_ (x : api_Request) : (api_Request.enc x).cells.length = 11 := rfl
theorem api_Request.at_ {H : Heap} {k : IntKind} {l : List api_Request} {i : Int} : indexAddrA H 11 (.sl (encL api_Request.enc l)) (.int k i) = (idx l i).map fun a => .rp (api_Request.enc a) 0 := at_enc api_Request.len_
theorem api_Request.sized (l : List api_Request) : AV.sized 11 (encL api_Request.enc l) = true := encL_sized api_Request.len_ l
theorem api_Request.set_ (l : List api_Request) (n : Nat) (Head : Bool) (Object : (List UInt8)) (Specs : (List api_Spec)) (Cond_Match : (List api_Tag)) (Cond_None : (List api_Tag)) (Cond_AnyMatch : Bool) (Cond_AnyNone : Bool) (Cond_Since : Int) (Cond_Unless : Int) (Cond_Range_Text : (List UInt8)) (Cond_Range_Weak : Bool) : (encL api_Request.enc l).set n (.agg [(.bool Head), (.str Object), (.sl (encL api_Spec.enc Specs)), (.sl (encL api_Tag.enc Cond_Match)), (.sl (encL api_Tag.enc Cond_None)), (.bool Cond_AnyMatch), (.bool Cond_AnyNone), (.int .i64 Cond_Since), (.int .i64 Cond_Unless), (.str Cond_Range_Text), (.bool Cond_Range_Weak)]) = encL api_Request.enc (l.set n ⟨Head, Object, Specs, Cond_Match, Cond_None, Cond_AnyMatch, Cond_AnyNone, Cond_Since, Cond_Unless, Cond_Range_Text, Cond_Range_Weak⟩) := encL_set _ l n ⟨Head, Object, Specs, Cond_Match, Cond_None, Cond_AnyMatch, Cond_AnyNone, Cond_Since, Cond_Unless, Cond_Range_Text, Cond_Range_Weak⟩
theorem api_Request.cut_ {H : Heap} {k k' : IntKind} {l : List api_Request} {lo hi : Int} : sliceA H 11 (.sl (encL api_Request.enc l)) (some (.int k lo)) (some (.int k' hi)) = (cut l lo hi).map fun m => .sl (encL api_Request.enc m) := sl_cut api_Request.len_
theorem api_Request.cut__lo {H : Heap} {k k' : IntKind} {l : List api_Request} {lo hi : Int} : sliceA H 11 (.sl (encL api_Request.enc l)) (some (.int k lo)) none = (cut l lo l.length).map fun m => .sl (encL api_Request.enc m) := sl_cut_lo api_Request.len_
theorem api_Request.cut__hi {H : Heap} {k k' : IntKind} {l : List api_Request} {lo hi : Int} : sliceA H 11 (.sl (encL api_Request.enc l)) none (some (.int k' hi)) = (cut l 0 hi).map fun m => .sl (encL api_Request.enc m) := sl_cut_hi api_Request.len_
def encS_api_Tag (l : List api_Tag) : AV := .sl (encL api_Tag.enc l)
theorem encS_api_Tag_eq (l : List api_Tag) : encS_api_Tag l = .sl (encL api_Tag.enc l) := rfl
theorem encS_api_Tag_len (x : List api_Tag) : (encS_api_Tag x).cells.length = 1 := rfl
theorem encS_api_Tag_at {H : Heap} {k : IntKind} {l : List (List api_Tag)} {i : Int} : indexAddrA H 1 (.sl (encL encS_api_Tag l)) (.int k i) = (idx l i).map fun a => .rp (encS_api_Tag a) 0 := at_enc encS_api_Tag_len
theorem encS_api_Tag_sized (l : List (List api_Tag)) : AV.sized 1 (encL encS_api_Tag l) = true := encL_sized encS_api_Tag_len l
theorem DT : type_of% (And.intro @encS_api_Tag_sized (And.intro @encS_api_Tag_at (And.intro @encS_api_Tag_eq (And.intro @api_Request.cut__hi (And.intro @api_Request.cut__lo (And.intro @api_Request.cut_ (And.intro @api_Request.set_ (And.intro @api_Request.sized (And.intro @api_Request.at_ (And.intro @api_Request.eta (And.intro @api_Request.enc_eq (And.intro @api_Spec.cut__hi (And.intro @api_Spec.cut__lo (And.intro @api_Spec.cut_ (And.intro @api_Spec.set_ (And.intro @api_Spec.sized (And.intro @api_Spec.at_ (And.intro @api_Spec.eta (And.intro @api_Spec.enc_eq (And.intro @api_Meta.cut__hi (And.intro @api_Meta.cut__lo (And.intro @api_Meta.cut_ (And.intro @api_Meta.set_ (And.intro @api_Meta.sized (And.intro @api_Meta.at_ (And.intro @api_Meta.eta (And.intro @api_Meta.enc_eq (And.intro @api_Cond.cut__hi (And.intro @api_Cond.cut__lo (And.intro @api_Cond.cut_ (And.intro @api_Cond.set_ (And.intro @api_Cond.sized (And.intro @api_Cond.at_ (And.intro @api_Cond.eta (And.intro @api_Cond.enc_eq (And.intro @api_Tag.cut__hi (And.intro @api_Tag.cut__lo (And.intro @api_Tag.cut_ (And.intro @api_Tag.set_ (And.intro @api_Tag.sized (And.intro @api_Tag.at_ (And.intro @api_Tag.eta (And.intro @api_Tag.enc_eq (@shared_no)))))))))))))))))))))))))))))))))))))))))))) := And.intro @encS_api_Tag_sized (And.intro @encS_api_Tag_at (And.intro @encS_api_Tag_eq (And.intro @api_Request.cut__hi (And.intro @api_Request.cut__lo (And.intro @api_Request.cut_ (And.intro @api_Request.set_ (And.intro @api_Request.sized (And.intro @api_Request.at_ (And.intro @api_Request.eta (And.intro @api_Request.enc_eq (And.intro @api_Spec.cut__hi (And.intro @api_Spec.cut__lo (And.intro @api_Spec.cut_ (And.intro @api_Spec.set_ (And.intro @api_Spec.sized (And.intro @api_Spec.at_ (And.intro @api_Spec.eta (And.intro @api_Spec.enc_eq (And.intro @api_Meta.cut__hi (And.intro @api_Meta.cut__lo (And.intro @api_Meta.cut_ (And.intro @api_Meta.set_ (And.intro @api_Meta.sized (And.intro @api_Meta.at_ (And.intro @api_Meta.eta (And.intro @api_Meta.enc_eq (And.intro @api_Cond.cut__hi (And.intro @api_Cond.cut__lo (And.intro @api_Cond.cut_ (And.intro @api_Cond.set_ (And.intro @api_Cond.sized (And.intro @api_Cond.at_ (And.intro @api_Cond.eta (And.intro @api_Cond.enc_eq (And.intro @api_Tag.cut__hi (And.intro @api_Tag.cut__lo (And.intro @api_Tag.cut_ (And.intro @api_Tag.set_ (And.intro @api_Tag.sized (And.intro @api_Tag.at_ (And.intro @api_Tag.eta (And.intro @api_Tag.enc_eq (@shared_no)))))))))))))))))))))))))))))))))))))))))))
end Go.Proofs.YtchlkbnjamgihaaDoor
