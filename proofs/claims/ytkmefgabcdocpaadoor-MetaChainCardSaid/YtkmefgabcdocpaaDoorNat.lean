/-
  The program's types, told plainly. Its conditions: none.
-/
import Derived.Test.YtkmefgabcdocpaaDoorCode
namespace Go.Proofs.YtkmefgabcdocpaaDoor
open Go Go.Den
set_option maxRecDepth 100000
set_option linter.unusedSimpArgs false
set_option linter.unusedVariables false
structure api_Tag where
  Text : (List UInt8)
  Weak : Bool
def api_Tag.enc (x : api_Tag) : AV := .agg [(.str x.Text), (.bool x.Weak)]
theorem api_Tag.enc_eq (x : api_Tag) : x.enc = .agg [(.str x.Text), (.bool x.Weak)] := rfl
theorem api_Tag.eta (x : api_Tag) : (api_Tag.mk x.Text x.Weak) = x := rfl
def api_Tag.wf (x : api_Tag) : Prop := x.Text.length ≤ maxLen
theorem api_Tag.of_ {cs : List AV} (h : TyL [.str, .bool] cs) : ∃ x : api_Tag, cs = [(.str x.Text), (.bool x.Weak)] ∧ x.wf := by
  try simp only [TyL] at h
  obtain ⟨v0, c0, rfl, hv0, h⟩ := h
  obtain ⟨n0, rfl, w0⟩ := hv0
  try simp only [TyL] at h
  obtain ⟨v1, c1, rfl, hv1, h⟩ := h
  obtain ⟨n1, rfl⟩ := hv1
  try simp only [TyL] at h
  subst h
  exact ⟨⟨n0, n1⟩, rfl, w0⟩
theorem api_Tag.len_ (x : api_Tag) : (api_Tag.enc x).cells.length = 2 := rfl
theorem api_Tag.at_ {H : Heap} {k : IntKind} {l : List api_Tag} {i : Int} : indexAddrA H 2 (.sl (encL api_Tag.enc l)) (.int k i) = (idx l i).map fun a => .rp (api_Tag.enc a) 0 := at_enc api_Tag.len_
theorem api_Tag.sized (l : List api_Tag) : AV.sized 2 (encL api_Tag.enc l) = true := encL_sized api_Tag.len_ l
theorem api_Tag.set_ (l : List api_Tag) (n : Nat) (Text : (List UInt8)) (Weak : Bool) : (encL api_Tag.enc l).set n (.agg [(.str Text), (.bool Weak)]) = encL api_Tag.enc (l.set n ⟨Text, Weak⟩) := encL_set _ l n ⟨Text, Weak⟩
theorem api_Tag.cut_ {H : Heap} {k k' : IntKind} {l : List api_Tag} {lo hi : Int} : sliceA H 2 (.sl (encL api_Tag.enc l)) (some (.int k lo)) (some (.int k' hi)) = (cut l lo hi).map fun m => .sl (encL api_Tag.enc m) := sl_cut api_Tag.len_
theorem api_Tag.cut__lo {H : Heap} {k k' : IntKind} {l : List api_Tag} {lo hi : Int} : sliceA H 2 (.sl (encL api_Tag.enc l)) (some (.int k lo)) none = (cut l lo l.length).map fun m => .sl (encL api_Tag.enc m) := sl_cut_lo api_Tag.len_
theorem api_Tag.cut__hi {H : Heap} {k k' : IntKind} {l : List api_Tag} {lo hi : Int} : sliceA H 2 (.sl (encL api_Tag.enc l)) none (some (.int k' hi)) = (cut l 0 hi).map fun m => .sl (encL api_Tag.enc m) := sl_cut_hi api_Tag.len_
structure api_Meta where
  Tag_Text : (List UInt8)
  Tag_Weak : Bool
  Modified : Int
  Length : Int
  Have : Int
  Fresh : Int
  While : Int
  Error : Int
  Keys : (List (List UInt8))
  Tenant : (List UInt8)
  Keep : Bool
def api_Meta.enc (x : api_Meta) : AV := .agg [(.str x.Tag_Text), (.bool x.Tag_Weak), (.int .i64 x.Modified), (.int .i64 x.Length), (.int .i64 x.Have), (.int .i64 x.Fresh), (.int .i64 x.While), (.int .i64 x.Error), (.sl (encL AV.str x.Keys)), (.str x.Tenant), (.bool x.Keep)]
theorem api_Meta.enc_eq (x : api_Meta) : x.enc = .agg [(.str x.Tag_Text), (.bool x.Tag_Weak), (.int .i64 x.Modified), (.int .i64 x.Length), (.int .i64 x.Have), (.int .i64 x.Fresh), (.int .i64 x.While), (.int .i64 x.Error), (.sl (encL AV.str x.Keys)), (.str x.Tenant), (.bool x.Keep)] := rfl
theorem api_Meta.eta (x : api_Meta) : (api_Meta.mk x.Tag_Text x.Tag_Weak x.Modified x.Length x.Have x.Fresh x.While x.Error x.Keys x.Tenant x.Keep) = x := rfl
def api_Meta.wf (x : api_Meta) : Prop := x.Tag_Text.length ≤ maxLen ∧ (Lit.int .i64 x.Modified).wf = true ∧ (Lit.int .i64 x.Length).wf = true ∧ (Lit.int .i64 x.Have).wf = true ∧ (Lit.int .i64 x.Fresh).wf = true ∧ (Lit.int .i64 x.While).wf = true ∧ (Lit.int .i64 x.Error).wf = true ∧ (x.Keys.length ≤ maxLen ∧ ∀ y ∈ x.Keys, y.length ≤ maxLen) ∧ x.Tenant.length ≤ maxLen
theorem api_Meta.of_ {cs : List AV} (h : TyL [.str, .bool, .int .i64, .int .i64, .int .i64, .int .i64, .int .i64, .int .i64, .sl false [.str], .str, .bool] cs) : ∃ x : api_Meta, cs = [(.str x.Tag_Text), (.bool x.Tag_Weak), (.int .i64 x.Modified), (.int .i64 x.Length), (.int .i64 x.Have), (.int .i64 x.Fresh), (.int .i64 x.While), (.int .i64 x.Error), (.sl (encL AV.str x.Keys)), (.str x.Tenant), (.bool x.Keep)] ∧ x.wf := by
  try simp only [TyL] at h
  obtain ⟨v0, c0, rfl, hv0, h⟩ := h
  obtain ⟨n0, rfl, w0⟩ := hv0
  try simp only [TyL] at h
  obtain ⟨v1, c1, rfl, hv1, h⟩ := h
  obtain ⟨n1, rfl⟩ := hv1
  try simp only [TyL] at h
  obtain ⟨v2, c2, rfl, hv2, h⟩ := h
  obtain ⟨n2, rfl, w2⟩ := hv2
  try simp only [TyL] at h
  obtain ⟨v3, c3, rfl, hv3, h⟩ := h
  obtain ⟨n3, rfl, w3⟩ := hv3
  try simp only [TyL] at h
  obtain ⟨v4, c4, rfl, hv4, h⟩ := h
  obtain ⟨n4, rfl, w4⟩ := hv4
  try simp only [TyL] at h
  obtain ⟨v5, c5, rfl, hv5, h⟩ := h
  obtain ⟨n5, rfl, w5⟩ := hv5
  try simp only [TyL] at h
  obtain ⟨v6, c6, rfl, hv6, h⟩ := h
  obtain ⟨n6, rfl, w6⟩ := hv6
  try simp only [TyL] at h
  obtain ⟨v7, c7, rfl, hv7, h⟩ := h
  obtain ⟨n7, rfl, w7⟩ := hv7
  try simp only [TyL] at h
  obtain ⟨v8, c8, rfl, hv8, h⟩ := h
  simp only [TyC] at hv8
  obtain ⟨es8, rfl, w8, q8⟩ := hv8
  obtain ⟨n8, rfl, z8⟩ := encL_of (f := AV.str) (p := fun y => y.length ≤ maxLen) (fun e he => by obtain ⟨cs, rfl, hc⟩ := q8 e he; have h := hc; (try simp only [TyL] at h); obtain ⟨v9, c9, rfl, hv9, h⟩ := h; obtain ⟨n9, rfl, w9⟩ := hv9; (try simp only [TyL] at h); subst h; exact ⟨n9, rfl, w9⟩)
  rw [encL_length] at w8
  try simp only [TyL] at h
  obtain ⟨v9, c9, rfl, hv9, h⟩ := h
  obtain ⟨n9, rfl, w9⟩ := hv9
  try simp only [TyL] at h
  obtain ⟨v10, c10, rfl, hv10, h⟩ := h
  obtain ⟨n10, rfl⟩ := hv10
  try simp only [TyL] at h
  subst h
  exact ⟨⟨n0, n1, n2, n3, n4, n5, n6, n7, n8, n9, n10⟩, rfl, ⟨w0, w2, w3, w4, w5, w6, w7, ⟨w8, z8⟩, w9⟩⟩
theorem api_Meta.len_ (x : api_Meta) : (api_Meta.enc x).cells.length = 11 := rfl
theorem api_Meta.at_ {H : Heap} {k : IntKind} {l : List api_Meta} {i : Int} : indexAddrA H 11 (.sl (encL api_Meta.enc l)) (.int k i) = (idx l i).map fun a => .rp (api_Meta.enc a) 0 := at_enc api_Meta.len_
theorem api_Meta.sized (l : List api_Meta) : AV.sized 11 (encL api_Meta.enc l) = true := encL_sized api_Meta.len_ l
theorem api_Meta.set_ (l : List api_Meta) (n : Nat) (Tag_Text : (List UInt8)) (Tag_Weak : Bool) (Modified : Int) (Length : Int) (Have : Int) (Fresh : Int) (While : Int) (Error : Int) (Keys : (List (List UInt8))) (Tenant : (List UInt8)) (Keep : Bool) : (encL api_Meta.enc l).set n (.agg [(.str Tag_Text), (.bool Tag_Weak), (.int .i64 Modified), (.int .i64 Length), (.int .i64 Have), (.int .i64 Fresh), (.int .i64 While), (.int .i64 Error), (.sl (encL AV.str Keys)), (.str Tenant), (.bool Keep)]) = encL api_Meta.enc (l.set n ⟨Tag_Text, Tag_Weak, Modified, Length, Have, Fresh, While, Error, Keys, Tenant, Keep⟩) := encL_set _ l n ⟨Tag_Text, Tag_Weak, Modified, Length, Have, Fresh, While, Error, Keys, Tenant, Keep⟩
theorem api_Meta.cut_ {H : Heap} {k k' : IntKind} {l : List api_Meta} {lo hi : Int} : sliceA H 11 (.sl (encL api_Meta.enc l)) (some (.int k lo)) (some (.int k' hi)) = (cut l lo hi).map fun m => .sl (encL api_Meta.enc m) := sl_cut api_Meta.len_
theorem api_Meta.cut__lo {H : Heap} {k k' : IntKind} {l : List api_Meta} {lo hi : Int} : sliceA H 11 (.sl (encL api_Meta.enc l)) (some (.int k lo)) none = (cut l lo l.length).map fun m => .sl (encL api_Meta.enc m) := sl_cut_lo api_Meta.len_
theorem api_Meta.cut__hi {H : Heap} {k k' : IntKind} {l : List api_Meta} {lo hi : Int} : sliceA H 11 (.sl (encL api_Meta.enc l)) none (some (.int k' hi)) = (cut l 0 hi).map fun m => .sl (encL api_Meta.enc m) := sl_cut_hi api_Meta.len_
theorem DT : type_of% (And.intro @api_Meta.cut__hi (And.intro @api_Meta.cut__lo (And.intro @api_Meta.cut_ (And.intro @api_Meta.set_ (And.intro @api_Meta.sized (And.intro @api_Meta.at_ (And.intro @api_Meta.eta (And.intro @api_Meta.enc_eq (And.intro @api_Tag.cut__hi (And.intro @api_Tag.cut__lo (And.intro @api_Tag.cut_ (And.intro @api_Tag.set_ (And.intro @api_Tag.sized (And.intro @api_Tag.at_ (And.intro @api_Tag.eta (And.intro @api_Tag.enc_eq (@shared_no))))))))))))))))) := And.intro @api_Meta.cut__hi (And.intro @api_Meta.cut__lo (And.intro @api_Meta.cut_ (And.intro @api_Meta.set_ (And.intro @api_Meta.sized (And.intro @api_Meta.at_ (And.intro @api_Meta.eta (And.intro @api_Meta.enc_eq (And.intro @api_Tag.cut__hi (And.intro @api_Tag.cut__lo (And.intro @api_Tag.cut_ (And.intro @api_Tag.set_ (And.intro @api_Tag.sized (And.intro @api_Tag.at_ (And.intro @api_Tag.eta (And.intro @api_Tag.enc_eq (@shared_no))))))))))))))))
end Go.Proofs.YtkmefgabcdocpaaDoor
