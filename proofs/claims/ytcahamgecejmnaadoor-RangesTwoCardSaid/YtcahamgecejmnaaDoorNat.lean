/-
  The program's types, told plainly. Its conditions: none.
-/
import Derived.Test.YtcahamgecejmnaaDoorCode
namespace Go.Proofs.YtcahamgecejmnaaDoor
open Go Go.Den
set_option maxRecDepth 100000
set_option linter.unusedSimpArgs false
set_option linter.unusedVariables false
structure api_Span where
  From : Int
  To : Int
def api_Span.enc (x : api_Span) : AV := .agg [(.int .i64 x.From), (.int .i64 x.To)]
theorem api_Span.enc_eq (x : api_Span) : x.enc = .agg [(.int .i64 x.From), (.int .i64 x.To)] := rfl
theorem api_Span.eta (x : api_Span) : (api_Span.mk x.From x.To) = x := rfl
def api_Span.wf (x : api_Span) : Prop := (Lit.int .i64 x.From).wf = true ∧ (Lit.int .i64 x.To).wf = true
theorem api_Span.of_ {cs : List AV} (h : TyL [.int .i64, .int .i64] cs) : ∃ x : api_Span, cs = [(.int .i64 x.From), (.int .i64 x.To)] ∧ x.wf := by
  try simp only [TyL] at h
  obtain ⟨v0, c0, rfl, hv0, h⟩ := h
  obtain ⟨n0, rfl, w0⟩ := hv0
  try simp only [TyL] at h
  obtain ⟨v1, c1, rfl, hv1, h⟩ := h
  obtain ⟨n1, rfl, w1⟩ := hv1
  try simp only [TyL] at h
  subst h
  exact ⟨⟨n0, n1⟩, rfl, ⟨w0, w1⟩⟩
theorem api_Span.len_ (x : api_Span) : (api_Span.enc x).cells.length = 2 := rfl
theorem api_Span.at_ {H : Heap} {k : IntKind} {l : List api_Span} {i : Int} : indexAddrA H 2 (.sl (encL api_Span.enc l)) (.int k i) = (idx l i).map fun a => .rp (api_Span.enc a) 0 := at_enc api_Span.len_
theorem api_Span.sized (l : List api_Span) : AV.sized 2 (encL api_Span.enc l) = true := encL_sized api_Span.len_ l
theorem api_Span.set_ (l : List api_Span) (n : Nat) (From : Int) (To : Int) : (encL api_Span.enc l).set n (.agg [(.int .i64 From), (.int .i64 To)]) = encL api_Span.enc (l.set n ⟨From, To⟩) := encL_set _ l n ⟨From, To⟩
theorem api_Span.cut_ {H : Heap} {k k' : IntKind} {l : List api_Span} {lo hi : Int} : sliceA H 2 (.sl (encL api_Span.enc l)) (some (.int k lo)) (some (.int k' hi)) = (cut l lo hi).map fun m => .sl (encL api_Span.enc m) := sl_cut api_Span.len_
theorem api_Span.cut__lo {H : Heap} {k k' : IntKind} {l : List api_Span} {lo hi : Int} : sliceA H 2 (.sl (encL api_Span.enc l)) (some (.int k lo)) none = (cut l lo l.length).map fun m => .sl (encL api_Span.enc m) := sl_cut_lo api_Span.len_
theorem api_Span.cut__hi {H : Heap} {k k' : IntKind} {l : List api_Span} {lo hi : Int} : sliceA H 2 (.sl (encL api_Span.enc l)) none (some (.int k' hi)) = (cut l 0 hi).map fun m => .sl (encL api_Span.enc m) := sl_cut_hi api_Span.len_
def encS_api_Span (l : List api_Span) : AV := .sl (encL api_Span.enc l)
theorem encS_api_Span_eq (l : List api_Span) : encS_api_Span l = .sl (encL api_Span.enc l) := rfl
theorem encS_api_Span_len (x : List api_Span) : (encS_api_Span x).cells.length = 1 := rfl
theorem encS_api_Span_at {H : Heap} {k : IntKind} {l : List (List api_Span)} {i : Int} : indexAddrA H 1 (.sl (encL encS_api_Span l)) (.int k i) = (idx l i).map fun a => .rp (encS_api_Span a) 0 := at_enc encS_api_Span_len
theorem encS_api_Span_sized (l : List (List api_Span)) : AV.sized 1 (encL encS_api_Span l) = true := encL_sized encS_api_Span_len l
def encS_Int_i64 (l : List Int) : AV := .sl (encL (AV.int .i64) l)
theorem encS_Int_i64_eq (l : List Int) : encS_Int_i64 l = .sl (encL (AV.int .i64) l) := rfl
theorem encS_Int_i64_len (x : List Int) : (encS_Int_i64 x).cells.length = 1 := rfl
theorem encS_Int_i64_at {H : Heap} {k : IntKind} {l : List (List Int)} {i : Int} : indexAddrA H 1 (.sl (encL encS_Int_i64 l)) (.int k i) = (idx l i).map fun a => .rp (encS_Int_i64 a) 0 := at_enc encS_Int_i64_len
theorem encS_Int_i64_sized (l : List (List Int)) : AV.sized 1 (encL encS_Int_i64 l) = true := encL_sized encS_Int_i64_len l
structure ranges_Set where
  l_ : (List api_Span)
def ranges_Set.enc (x : ranges_Set) : AV := .agg [(.sl (encL api_Span.enc x.l_))]
theorem ranges_Set.enc_eq (x : ranges_Set) : x.enc = .agg [(.sl (encL api_Span.enc x.l_))] := rfl
theorem ranges_Set.eta (x : ranges_Set) : (ranges_Set.mk x.l_) = x := rfl
def ranges_Set.wf (x : ranges_Set) : Prop := (x.l_.length ≤ maxLen ∧ ∀ y ∈ x.l_, y.wf)
theorem ranges_Set.of_ {cs : List AV} (h : TyL [.sl true [.int .i64, .int .i64]] cs) : ∃ x : ranges_Set, cs = [(.sl (encL api_Span.enc x.l_))] ∧ x.wf := by
  try simp only [TyL] at h
  obtain ⟨v0, c0, rfl, hv0, h⟩ := h
  simp only [TyC] at hv0
  obtain ⟨es0, rfl, w0, q0⟩ := hv0
  obtain ⟨n0, rfl, z0⟩ := encL_of (f := api_Span.enc) (p := fun y => y.wf) (fun e he => by obtain ⟨cs, rfl, hc⟩ := q0 e he; obtain ⟨x, rfl, hx⟩ := api_Span.of_ hc; exact ⟨x, rfl, hx⟩)
  rw [encL_length] at w0
  try simp only [TyL] at h
  subst h
  exact ⟨⟨n0⟩, rfl, ⟨w0, z0⟩⟩
theorem ranges_Set.len_ (x : ranges_Set) : (ranges_Set.enc x).cells.length = 1 := rfl
theorem ranges_Set.at_ {H : Heap} {k : IntKind} {l : List ranges_Set} {i : Int} : indexAddrA H 1 (.sl (encL ranges_Set.enc l)) (.int k i) = (idx l i).map fun a => .rp (ranges_Set.enc a) 0 := at_enc ranges_Set.len_
theorem ranges_Set.sized (l : List ranges_Set) : AV.sized 1 (encL ranges_Set.enc l) = true := encL_sized ranges_Set.len_ l
theorem ranges_Set.set_ (l : List ranges_Set) (n : Nat) (l_ : (List api_Span)) : (encL ranges_Set.enc l).set n (.agg [(.sl (encL api_Span.enc l_))]) = encL ranges_Set.enc (l.set n ⟨l_⟩) := encL_set _ l n ⟨l_⟩
theorem ranges_Set.cut_ {H : Heap} {k k' : IntKind} {l : List ranges_Set} {lo hi : Int} : sliceA H 1 (.sl (encL ranges_Set.enc l)) (some (.int k lo)) (some (.int k' hi)) = (cut l lo hi).map fun m => .sl (encL ranges_Set.enc m) := sl_cut ranges_Set.len_
theorem ranges_Set.cut__lo {H : Heap} {k k' : IntKind} {l : List ranges_Set} {lo hi : Int} : sliceA H 1 (.sl (encL ranges_Set.enc l)) (some (.int k lo)) none = (cut l lo l.length).map fun m => .sl (encL ranges_Set.enc m) := sl_cut_lo ranges_Set.len_
theorem ranges_Set.cut__hi {H : Heap} {k k' : IntKind} {l : List ranges_Set} {lo hi : Int} : sliceA H 1 (.sl (encL ranges_Set.enc l)) none (some (.int k' hi)) = (cut l 0 hi).map fun m => .sl (encL ranges_Set.enc m) := sl_cut_hi ranges_Set.len_
theorem DT : type_of% (And.intro @ranges_Set.cut__hi (And.intro @ranges_Set.cut__lo (And.intro @ranges_Set.cut_ (And.intro @ranges_Set.set_ (And.intro @ranges_Set.sized (And.intro @ranges_Set.at_ (And.intro @ranges_Set.eta (And.intro @ranges_Set.enc_eq (And.intro @encS_Int_i64_sized (And.intro @encS_Int_i64_at (And.intro @encS_Int_i64_eq (And.intro @encS_api_Span_sized (And.intro @encS_api_Span_at (And.intro @encS_api_Span_eq (And.intro @api_Span.cut__hi (And.intro @api_Span.cut__lo (And.intro @api_Span.cut_ (And.intro @api_Span.set_ (And.intro @api_Span.sized (And.intro @api_Span.at_ (And.intro @api_Span.eta (And.intro @api_Span.enc_eq (And.intro @sortW_zs (And.intro @shared_no @wprim_eq)))))))))))))))))))))))) := And.intro @ranges_Set.cut__hi (And.intro @ranges_Set.cut__lo (And.intro @ranges_Set.cut_ (And.intro @ranges_Set.set_ (And.intro @ranges_Set.sized (And.intro @ranges_Set.at_ (And.intro @ranges_Set.eta (And.intro @ranges_Set.enc_eq (And.intro @encS_Int_i64_sized (And.intro @encS_Int_i64_at (And.intro @encS_Int_i64_eq (And.intro @encS_api_Span_sized (And.intro @encS_api_Span_at (And.intro @encS_api_Span_eq (And.intro @api_Span.cut__hi (And.intro @api_Span.cut__lo (And.intro @api_Span.cut_ (And.intro @api_Span.set_ (And.intro @api_Span.sized (And.intro @api_Span.at_ (And.intro @api_Span.eta (And.intro @api_Span.enc_eq (And.intro @sortW_zs (And.intro @shared_no @wprim_eq)))))))))))))))))))))))
def sortSpan (l : List api_Span) : List api_Span := (srt spanLt (l.map fun s => (s.From, s.To))).map fun p => ⟨p.1, p.2⟩
theorem sortSpan_dec (l : List api_Span) : decL spanDec (encL api_Span.enc l) = some (l.map fun s => (s.From, s.To)) := by
  have : encL api_Span.enc l = (l.map fun s => (s.From, s.To)).map spanEnc := by simp [encL, spanEnc, api_Span.enc]
  rw [this]; exact decL_enc (dec := spanDec) (encA := spanEnc) (fun _ => rfl) _
theorem sortSpan_out (l : List api_Span) : (srt spanLt (l.map fun s => (s.From, s.To))).map spanEnc = encL api_Span.enc (sortSpan l) := by simp [encL, sortSpan, spanEnc, api_Span.enc]
theorem sortSpan_length (l : List api_Span) : (sortSpan l).length = l.length := by simp [sortSpan, srt_length spanSWO]
def strings_Join.f (a0 : List (List UInt8)) (a1 : List UInt8) : Option (List UInt8) := if a0.length ≤ 140737488355328 ∧ (Lib.join a0 a1).length ≤ 140737488355328 then some (Lib.join a0 a1) else none
theorem strings_Join.ok (a0 : List (List UInt8)) (a1 : List UInt8) : ansL X 54 [.sl (encL AV.str a0), .str a1] = Option.map AV.str (strings_Join.f a0 a1) := by
  have e : X.prim 54 = some joinP := rfl
  simp only [ansL, ansA, e, joinP, encL, decL_enc (dec := strDec) (encA := AV.str) (fun _ => rfl), strings_Join.f]
  split <;> rfl
def strconv_FormatInt.f (a0 a1 : Int) : Option (List UInt8) := if 0 ≤ a0 ∧ a0 < 100 ∧ a1 = 10 then some (dig a0.toNat) else none
theorem strconv_FormatInt.ok (a0 a1 : Int) : ansL X 65 [.int .i64 a0, .int .i64 a1] = Option.map AV.str (strconv_FormatInt.f a0 a1) := by
  have e : X.prim 65 = some intP := rfl
  simp only [ansL, ansA, e, intP, strconv_FormatInt.f]
  split <;> rfl
def slices_Clone_api_Span.f (a0 : List api_Span) : Option (List api_Span) := if a0.length ≤ maxLen ∧ a0.length * 16 ≤ 140737488355328 then some a0 else none
theorem slices_Clone_api_Span.ok (a0 : List api_Span) : ansL X 49 [.sl (encL api_Span.enc a0)] = Option.map encS_api_Span (slices_Clone_api_Span.f a0) := by
  have e : X.prim 49 = some cloneP := rfl
  simp only [ansL, ansA, e, cloneP, cloneW, slices_Clone_api_Span.f, encL_length, api_Span.sized, and_true]
  split <;> rfl
end Go.Proofs.YtcahamgecejmnaaDoor
